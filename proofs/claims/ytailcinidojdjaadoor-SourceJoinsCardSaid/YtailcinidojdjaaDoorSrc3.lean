/- Part of this seat's proofs: contracts of functions of the program and plain lemmas, which the claim's theorem uses. -/
import Derived.Test.YtailcinidojdjaaDoorSrc2
import Derived.Test.YtailcinidojdjaaDoorEntry5
namespace Go.Proofs.YtailcinidojdjaaDoor
open Go Go.RowKit
set_option linter.unusedVariables false
set_option linter.unusedSimpArgs false

def filOk (l : List Fil) : Bool := whyE (entsOf 0 l) == 0
def streamB (l : List Fil) : List UInt8 := if filOk l then l.flatMap (·.data) else []
def prs (l : List Fil) : List (Value × List UInt8) := l.map fun f => (f.dv, f.data)
theorem catB_prs (l : List Fil) : catB (prs l) = l.flatMap (·.data) := by simp [catB, prs, List.flatMap_map]
theorem flat_len (l : List Fil) : (l.flatMap (·.data)).length = totD l := by simp [totD, List.length_flatMap]
theorem info_bs : (Tryd.prog.info? 33).map (fun i => (i.zero, i.size, i.bytes)) = some (some (.slice none 0 0), 1, 24) := by kernel_rfl

set_option maxRecDepth 100000 in
set_option maxHeartbeats 1000000 in
theorem Stream_ok (M : Nat → Prop) (w : World) (v : Value) (l : List Fil) (hE : Env w) (hv : Fs M w v l) (hn : l.length ≤ 1000000) (ht : totD l ≤ 10000000) :
    Calls Tryd.prog 11 #[v] w fun e w' => ∃ v', e = .returned v' ∧ Only Non w w' ∧ OB w' w.heap.size v' (streamB l) := by
  have hst := hv.st
  obtain ⟨A, c, rfl, hc1, hc2, hc3⟩ := hst.open
  have HV := Lib.hid (hv.more (M' := Non) fun _ h => h.elim)
  clear hc1 hc2 hc3 hv hst
  cases hb : filOk l with
  | false =>
    have HB := Lib.hid hb
    clear hb
    go_enter Tryd.func11, Tryd.ntmps11
    go_wp2_with (go_at_call 6; refine (ERight_ok Non _ _ l hE HV.out hn (by omega)).mono ?_; rintro e w1 ⟨rfl, hO1⟩; rw [show (whyE (entsOf 0 l) == 0) = false from HB.out])
    go_ret
    exact ⟨_, rfl, hO1, by rw [streamB, HB.out]; exact ⟨rfl, .inl ⟨rfl, rfl⟩⟩⟩
  | true =>
    have HB := Lib.hid hb
    clear hb
    go_enter Tryd.func11, Tryd.ntmps11
    go_wp2_with (go_at_call 6; refine (ERight_ok Non _ _ l hE HV.out hn (by omega)).mono ?_; rintro e w1 ⟨rfl, hO1⟩; rw [show (whyE (entsOf 0 l) == 0) = true from HB.out])
    have HO1 := Lib.hid hO1
    clear hO1
    go_loopw [3, 11] (fun out i wr => ∃ k : Nat, k ≤ l.length ∧ i = .int .i64 k ∧ Hid (wr.ownsRow w.heap.size 33 1 out k ((l.take k).map (·.dv))) ∧ Only Non w wr) (fun _ i _ => l.length - (intOf i).toNat)
    case atStart => exact ⟨0, Nat.zero_le _, rfl, World.ownsRow_nil _ _ _ _, HO1.out⟩
    case round =>
      obtain ⟨k, hk, rfl, HOW, hO⟩ := hrel
      by_cases hlt : k < l.length
      · have hV := HV.out.kept hO
        obtain ⟨b, o, rfl, _, _, hc⟩ := hV.st.at filC_len (by omega)
        have hck := hc k hlt
        have hd := hV.data l[k] (List.getElem_mem hlt)
        have HL := Lib.hid (show l[k]? = some l[k] from List.getElem?_eq_getElem hlt)
        generalize l[k] = x at hck HL hd
        obtain ⟨A', c', hdv, _, _, _⟩ := hd.open
        have HSN := Lib.hid (show (l.take (k + 1)).map (·.dv) = (l.take k).map (·.dv) ++ [.slice A' x.data.length c'] by rw [List.take_add_one, HL.out]; simp [hdv])
        have c0 := hck 0 _ rfl
        have c1 := hck 1 _ rfl
        have c2 := hck 2 _ rfl
        have c3 := hck 3 _ rfl
        have c4 := hck 4 _ rfl
        have c5 := hck 5 _ rfl
        rw [Nat.add_zero] at c0
        rw [hdv] at c4
        clear hc hck hd hdv hV
        go_wp2_with (at_builtin; refine ap_rd 38 33 _ 1 24 Tryd.underlying38 info_bs rfl (by decide) (by decide) rfl _ _ rfl _ _ _ _ rfl ((HOW.out.alloc _).alloc _) _ _ 1 _ rfl (Rd.built Non _ 1 1 #[.slice A' x.data.length c'] _ _ (by simp) rfl (by omega) (fun _ h => h.elim)) (by intro u hu; simp at hu; subst hu; rfl) (by omega) ((hO.alloc _).alloc _) ?_)
        intro v2 w2 ho2 hO2 hG hat
        have HO := Lib.hid (show w2.ownsRow w.heap.size 33 1 v2 (k + 1) ((l.take (k + 1)).map (·.dv)) by
          rw [HSN.out]
          simpa using ho2)
        clear hat hG ho2
        go_wp2
        go_roundw
        case rel => exact ⟨k + 1, by omega, by go_num, HO, hO2⟩
        case measure => simp [intOf]; omega
      · have hk' : k = l.length := by omega
        subst hk'
        have ho := HOW.out
        rw [List.take_length] at ho
        have HBY := Lib.hid (show Bys Non wr u3 (prs l) from ⟨by
          have : (prs l).length = l.length := by simp [prs]
          rw [this]
          have h2 : (prs l).map (·.1) = l.map (·.dv) := by simp [prs]
          rw [h2]
          exact Rd.of_own ho (fun _ h => h.elim), fun p hp => by
          obtain ⟨f, hf, rfl⟩ := List.mem_map.1 hp
          exact (HV.out.data f hf).kept hO⟩)
        have HPL := Lib.hid (show (prs l).length ≤ 1000000 ∧ (catB (prs l)).length ≤ 10000000 by
          rw [catB_prs, flat_len]
          simp only [prs, List.length_map]
          omega)
        clear ho hlt
        go_wp2_with (go_at_call 12; refine (Join_ok _ _ (prs l) HBY.out HPL.out.1 HPL.out.2).mono ?_; rintro e w3 ⟨v3, rfl, hO3, ho3⟩)
        go_ret
        exact ⟨_, rfl, hO.trans hO3, by rw [streamB, HB.out, if_pos rfl, ← catB_prs]; exact ho3.lower hO.size⟩
end Go.Proofs.YtailcinidojdjaaDoor

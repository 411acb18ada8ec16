/- Part of this seat's proofs: contracts of functions of the program and plain lemmas, which the claim's theorem uses. -/
import Derived.Test.YtailcinidojdjaaDoorEntry3
namespace Go.Proofs.YtailcinidojdjaaDoor
open Go Go.RowKit
set_option linter.unusedVariables false
set_option linter.unusedSimpArgs false

/-! ### files -/
structure Fil where
  path : ByteArray
  kind : Int
  mode : Int
  time : Int
  dv : Value
  data : List UInt8
  to : ByteArray
def filC (f : Fil) : List Value := [.string f.path, .int .i64 f.kind, .int .i64 f.mode, .int .i64 f.time, f.dv, .string f.to]
theorem filC_len (f : Fil) : (filC f).length = 6 := rfl
/-- v reads as files -/
structure Fs (M : Nat → Prop) (w : World) (v : Value) (l : List Fil) : Prop where
  st : St filC 6 M w v l
  data : ∀ f ∈ l, By M w f.dv f.data
theorem Fs.kept {M : Nat → Prop} {w w' : World} {v : Value} {l : List Fil} (h : Fs M w v l) (k : Only Non w w') : Fs M w' v l := ⟨h.st.kept k, fun f hf => (h.data f hf).kept k⟩
theorem Fs.keep {S M : Nat → Prop} {w w' : World} {v : Value} {l : List Fil} (h : Fs M w v l) (k : Only S w w') (hs : ∀ b, b < w.heap.size → S b → M b) : Fs M w' v l := ⟨h.st.keep k hs, fun f hf => (h.data f hf).keep k hs⟩
theorem Fs.more {M M' : Nat → Prop} {w : World} {v : Value} {l : List Fil} (h : Fs M w v l) (hm : ∀ b, M' b → M b ∨ w.heap.size ≤ b) : Fs M' w v l := ⟨h.st.more hm, fun f hf => (h.data f hf).more hm⟩

def totD (l : List Fil) : Nat := (l.map (·.data.length)).sum
def entOf (a : Nat) (f : Fil) : Ent := ⟨f.path, f.kind, f.mode, f.time, f.to, a, f.data.length⟩
def entsOf : Nat → List Fil → List Ent
  | _, [] => []
  | a, f :: l => entOf a f :: entsOf (a + f.data.length) l
theorem entsOf_snoc (a : Nat) (l : List Fil) (x : Fil) : entsOf a (l ++ [x]) = entsOf a l ++ [entOf (a + totD l) x] := by
  induction l generalizing a with
  | nil => simp [entsOf, totD]
  | cons f l ih => simp only [List.cons_append, entsOf, ih, totD, List.map_cons, List.sum_cons, Nat.add_assoc]
theorem entsOf_length (a : Nat) (l : List Fil) : (entsOf a l).length = l.length := by
  induction l generalizing a with
  | nil => rfl
  | cons f l ih => simp [entsOf, ih]
theorem totD_snoc (l : List Fil) (x : Fil) : totD (l ++ [x]) = totD l + x.data.length := by simp [totD]
theorem totD_take_le (l : List Fil) (k : Nat) : totD (l.take k) ≤ totD l := by
  induction l generalizing k with
  | nil => simp
  | cons f l ih =>
    cases k with
    | zero => simp [totD]
    | succ k => have := ih k; simp only [totD, List.take_succ_cons, List.map_cons, List.sum_cons] at *; omega

theorem info_ent : (Tryd.prog.info? 59).map (fun i => (i.zero, i.size, i.bytes)) = some (some (.agg #[.string ⟨#[]⟩, .int .i64 0, .int .i64 0, .int .i64 0, .string ⟨#[]⟩, .int .i64 0, .int .i64 0]), 7, 72) := by kernel_rfl
theorem entC_one (x : Ent) : ∀ u ∈ entC x, u.oneCell' = true := by
  intro u hu
  simp only [entC, List.mem_cons, List.mem_nil_iff, or_false] at hu
  rcases hu with rfl | rfl | rfl | rfl | rfl | rfl | rfl <;> rfl

set_option maxRecDepth 100000 in
theorem entries_ok (M : Nat → Prop) (w : World) (v : Value) (l : List Fil) (hv : Fs M w v l) (hn : l.length ≤ 1000000) (ht : totD l ≤ 1000000000) :
    Calls Tryd.prog 14 #[v] w fun e w' => ∃ v', e = .returned v' ∧ Only Non w w' ∧ St entC 7 Non w' v' (entsOf 0 l) := by
  have hst := hv.st
  obtain ⟨A, c, rfl, hc1, hc2, hc3⟩ := hst.open
  have HV := Lib.hid hv
  clear hc1 hc2 hc3 hv hst
  go_enter Tryd.func14, Tryd.ntmps14
  go_wp2_with fail
  go_loopw [3, 4, 9] (fun out at_ i wr => ∃ k : Nat, k ≤ l.length ∧ i = .int .i64 k ∧ at_ = .int .i64 (totD (l.take k) : Nat) ∧ Hid (wr.ownsRow w.heap.size 59 7 out k ((entsOf 0 (l.take k)).flatMap entC)) ∧ Only Non w wr) (fun _ _ i _ => l.length - (intOf i).toNat)
  case atStart => exact ⟨0, Nat.zero_le _, rfl, rfl, World.ownsRow_nil _ _ _ _, Only.refl _ _⟩
  case round =>
    obtain ⟨k, hk, rfl, rfl, HOW, hO⟩ := hrel
    by_cases hlt : k < l.length
    · have hV := HV.out.kept hO
      obtain ⟨b, o, rfl, _, _, hc⟩ := hV.st.at filC_len (by omega)
      have hck := hc k hlt
      have hd := hV.data l[k] (List.getElem_mem hlt)
      have HL := Lib.hid (show l[k]? = some l[k] from List.getElem?_eq_getElem hlt)
      generalize l[k] = x at hck HL hd
      obtain ⟨A', c', hdv, _, _, _⟩ := hd.open
      have HSN := Lib.hid (show l.take (k + 1) = l.take k ++ [x] by rw [List.take_add_one, HL.out]; rfl)
      have HT := Lib.hid (show totD (l.take (k + 1)) = totD (l.take k) + x.data.length by rw [HSN.out, totD_snoc])
      have hle : totD (l.take k) + x.data.length ≤ 1000000000 := by rw [← HT.out]; exact Nat.le_trans (totD_take_le _ _) ht
      have c0 := hck 0 _ rfl
      have c1 := hck 1 _ rfl
      have c2 := hck 2 _ rfl
      have c3 := hck 3 _ rfl
      have c4 := hck 4 _ rfl
      have c5 := hck 5 _ rfl
      rw [Nat.add_zero] at c0
      rw [hdv] at c4
      clear hc hck hd hdv hV
      generalize hm : totD (l.take k) = m at *
      have HM := Lib.hid hm
      clear hm
      go_wp2_with (at_builtin; refine ap_rd 44 59 _ 7 72 Tryd.underlying44 info_ent rfl (by decide) (by decide) rfl _ _ rfl _ _ _ _ rfl ((HOW.out.alloc _).alloc _) _ _ 1 _ rfl (Rd.built Non _ 7 1 (entC (entOf m x)).toArray _ _ (by simp) rfl (by omega) (fun _ h => h.elim)) (by intro u hu; exact entC_one _ u (by simpa using hu)) (by omega) ((hO.alloc _).alloc _) ?_)
      intro v2 w2 ho2 hO2 hG hat
      have hfb : w2.cell? ⟨wr.heap.size, 4, none⟩ = some (.slice A' x.data.length c') := by
        rw [hG.cell (p := ⟨wr.heap.size, 4, none⟩) (by simp; omega) (fun e => by have := (HOW.out.lt _ e).2; simp at this)]
        go_simp
      clear hat hG
      have HO := Lib.hid (show w2.ownsRow w.heap.size 59 7 v2 (k + 1) ((entsOf 0 (l.take (k + 1))).flatMap entC) by
        rw [HSN.out, entsOf_snoc, List.flatMap_append, HM.out]
        simpa using ho2)
      clear ho2
      go_wp2
      go_roundw
      case rel => exact ⟨k + 1, by omega, by go_num, by rw [HT.out]; go_num, HO, hO2⟩
      case measure => simp [intOf]; omega
    · go_wp2
      go_ret
      have hk' : k = l.length := by omega
      subst hk'
      have ho := HOW.out
      rw [List.take_of_length_le (Nat.le_refl _)] at ho
      exact ⟨_, rfl, hO, by unfold St; rw [entsOf_length]; exact Rd.of_own ho (fun _ h => h.elim)⟩
end Go.Proofs.YtailcinidojdjaaDoor

/- Part of this seat's proofs: contracts of functions of the program and plain lemmas, which the claim's theorem uses. -/
import Derived.Test.YtailcinidojdjaaDoorSrc6
import Derived.Test.YtailcinidojdjaaDoorRng
import Derived.LoopIn
namespace Go.Proofs.YtailcinidojdjaaDoor
open Go Go.RowKit
set_option linter.unusedVariables false
set_option linter.unusedSimpArgs false
attribute [local go_sem] Oper.semAt_some

theorem plan_cells {W : World} {g : Nat} {ty : TypeId} {fr : Nat × Nat} {c n t : Int} {D : List Value} (h : W.heap[g]? = some (.cells (planC c n t D).toArray ty fr)) :
    W.cell? ⟨g, 0, none⟩ = some (.int .i64 c) ∧ W.cell? ⟨g, 1, none⟩ = some (.int .i64 n) ∧ W.cell? ⟨g, 2, none⟩ = some (.int .i64 t) := by
  refine ⟨?_, ?_, ?_⟩ <;> (rw [cell_of_row _ _ _ _ _ _ h]; rfl)

set_option maxRecDepth 100000 in
set_option maxHeartbeats 2000000 in
/-- the iterator over segments, for whatever its rounds keep (J), so long as they leave alone the blocks H that it reads -/
theorem Chunks1_gives (w : World) (bF bP : Nat) (v : Value) (l : List Fil) (c n : Int) (D : List UInt8) (hD : Hid ((bvs D).length = 32)) (hE : Env w) (hv : Fs Non w v l) (hn : l.length ≤ 1000000) (ht : totD l ≤ 4000000)
    (ty : TypeId) (fr fr' : Nat × Nat) (hF : w.heap[bF]? = some (.cells #[v] ty fr)) (hP : w.heap[bP]? = some (.cells (planC c n ((streamB l).length : Int) (bvs D)).toArray 27 fr'))
    (N : Nat) (hN : segs c n ((streamB l).length : Int) = (N : Int)) (lp : Nat) (J : (Nat → Prop) → Nat → World → Prop) (Jx : World → Prop)
    (h0 : ∀ H W, Only Non w W → (∀ b, H b → b < W.heap.size ∧ (b = bP ∨ w.heap.size ≤ b)) → J H 0 W)
    (hY : ∀ H k u W W1, k < N → J H k W → (∀ b, H b → b < W.heap.size) → Only Non W W1 → OB W1 W.heap.size u (cutB (streamB l) c.toNat k) →
      YieldAt Fence.wide 0 Tryd.prog lp #[.int .i64 (k : Int), u] W1 fun e W' => (e = .returned (.bool true) ∧ J H (k + 1) W' ∧ Only (fun b => ¬ H b) W1 W') ∨ (e = .returned (.bool false) ∧ Jx W')) :
    Calls Tryd.prog 21 #[.func (.yield lp) #[] #[], .pointer (some ⟨bF, 0, none⟩), .pointer (some ⟨bP, 0, none⟩)] w fun e W => (∃ u, e = .returned u) ∧ ((∃ H, J H N W) ∨ Jx W) := by
  have hst := hv.st
  obtain ⟨A, cc, rfl, hc1, hc2, hc3⟩ := hst.open
  have HV := Lib.hid hv
  have HE := Lib.hid hE
  have HP := Lib.hid hP
  have H0 := Lib.hid h0
  have HY := Lib.hid hY
  have cF : w.cell? ⟨bF, 0, none⟩ = some (.slice A l.length cc) := by rw [cell_of_row _ _ _ _ _ _ hF]; rfl
  have CP := Lib.hid (plan_cells hP)
  have HNN := Lib.hid hN
  have HSL := Lib.hid (show (streamB l).length ≤ 4000000 from stream_len ht)
  clear hc1 hc2 hc3 hv hst hE h0 hY hF hP hN
  generalize hsg : segs c n ((streamB l).length : Int) = sg at *
  have HSG := Lib.hid hsg
  clear hsg
  generalize hSB : streamB l = SB at *
  have HSB := Lib.hid hSB
  clear hSB
  go_enter Tryd.func21, Tryd.ntmps21
  go_wp2_with (first
    | (go_at_call 11; refine (Stream_ok Non _ _ l HE.out HV.out hn (by omega)).mono ?_; rintro e w1 ⟨v1, rfl, hO1, ho1⟩; rw [HSB.out] at ho1; obtain ⟨A1, c1, rfl, hq1, hq2, hq3⟩ := ho1.non.open; have p2 := hO1.cellOf CP.out.2.2; have HCL := Lib.hid hq1; clear hq1 hq2 hq3; have HO1 := Lib.hid ho1; clear ho1)
    | (refine wpList_load_row rfl 27 _ rfl _ rfl _ _ _ _ (hO1.heap HP.out id) Tryd.underlying27 rfl (planC_size hD.out) ?_)
    | (go_at_call 10; refine (Segments_ok c n (SB.length : Int) (bvs D) hD _).mono ?_; rintro e w2 ⟨rfl, hO2⟩; rw [HSG.out]))
  have hw2 : w2.heap.size ≥ w.heap.size := (hO1.trans hO2).size
  have HK2 := Lib.hid (HO1.out.kept hO2)
  have HP2 := Lib.hid ((hO1.trans hO2).heap HP.out id)
  have HO2 := Lib.hid (hO1.trans hO2)
  obtain ⟨H, hH⟩ : ∃ H : Nat → Prop, H = fun b => b = bP ∨ Value.ownBlock (.slice A1 SB.length c1) = some b := ⟨_, rfl⟩
  have HHB := Lib.hid (show ∀ b, H b → b < w2.heap.size ∧ (b = bP ∨ w.heap.size ≤ b) by
    intro b hb
    rw [hH] at hb
    rcases hb with rfl | hb
    · exact ⟨lt_of_block HP2.out, .inl rfl⟩
    · exact ⟨(HK2.out.lt b hb).2, .inr (HK2.out.lt b hb).1⟩)
  have HJ0 := Lib.hid (H0.out H w2 HO2.out HHB.out)
  have HH := Lib.hid hH
  clear hH hO1 hO2 p2 H0
  go_loopw [15] (fun i wr => ∃ k : Nat, k ≤ N ∧ i = .int .i64 k ∧ Hid (J H k wr) ∧ Only (fun b => ¬ H b) w2 wr) (fun i _ => N - (intOf i).toNat)
  case atStart => exact ⟨0, Nat.zero_le _, rfl, HJ0, Only.refl _ _⟩
  case round =>
    obtain ⟨k, hk, rfl, HJ, hO⟩ := hrel
    by_cases hlt : k < N
    · have hks : ((k : Nat) : Int) < segs c n (SB.length : Int) := by rw [HSG.out, HNN.out]; omega
      have hf := segs_facts (Int.natCast_nonneg k) hks
      have HJ1 := HJ
      obtain ⟨c, rfl⟩ := Int.eq_ofNat_of_zero_le (show 0 ≤ c by omega)
      have e1 : (k : Int) * (c : Int) = ((k * c : Nat) : Int) := by rw [Int.natCast_mul]
      have e2 : ((k : Int) + 1) * (c : Int) = (((k + 1) * c : Nat) : Int) := by rw [Int.natCast_mul]; rfl
      have hq : (k + 1) * c = k * c + c := Nat.succ_mul k c
      have hkc : k * c < SB.length := by have := hf.2.2.2.2.2.2; rw [e1] at this; omega
      have hcc : c ≤ 65536 := by omega
      have hk4 : k ≤ 4194304 := by omega
      have hll : SB.length ≤ 4000000 := HSL.out
      have HKR := Lib.hid (HK2.out.keep hO (fun b hb h => h (by rw [HH.out]; exact .inr hb)))
      have HPR := Lib.hid (hO.heap HP2.out (fun h => h (by rw [HH.out]; exact .inl rfl)))
      have c0 := (plan_cells HPR.out).1
      have HC := Lib.hid (show cutB SB ((c : Int)).toNat k = (SB.drop (k * c)).take (min ((k + 1) * c) SB.length - k * c) from rfl)
      generalize hCB : cutB SB ((c : Int)).toNat k = CB at *
      have HCB := Lib.hid hCB
      clear hCB
      generalize hm1 : k * c = q1 at *
      generalize hm2 : (k + 1) * c = q2 at *
      have HM := Lib.hid (And.intro hm1 hm2)
      clear hm1 hm2 hf hks
      have hq2 : q2 = q1 + c := by have := HM.out; omega
      obtain ⟨r, hr⟩ : ∃ r, r = min q2 SB.length := ⟨_, rfl⟩
      have hr1 : q1 ≤ r := by omega
      have hr2 : r ≤ SB.length := by omega
      have hmi : min (q2 : Int) (SB.length : Int) = (r : Int) := by omega
      have hqb : q2 ≤ 10000000 := by omega
      rw [← hr] at HC
      clear hr hq2 hq
      have hz1 := HCL.out
      have hcq : ¬ c1 = q1 := by omega
      have hcr : (r : Int) ≤ (c1 : Int) := by omega
      clear hz1
      have hqr : (q1 : Int) ≤ (r : Int) := by omega
      obtain ⟨b1, o1, rfl, _, _, _⟩ := HKR.out.non.at (by omega)
      have g1 : decide ((k : Int) < (sg : Int)) = true := by rw [HNN.out, decide_eq_true_iff]; omega
      refine (wpIn_wide (n := 1)).1 ?_
      gi_wp2
      have hsl := slice_if2 HKR.out.non q1 r hr1 hr2
      rw [if_neg hcq] at hsl
      refine ⟨trivial, callsIn_wide.2 ((Clone_ok Non _ _ _ hsl (by rw [List.length_take]; omega)).mono ?_)⟩
      rintro e w3 ⟨v3, rfl, hO3, ho3⟩
      rw [← HC.out, ← HCB.out] at ho3
      obtain ⟨fn, tmps, assign, body, hy, hR⟩ := HY.out H k v3 wr w3 hlt HJ.out (fun b hb => Nat.lt_of_lt_of_le (HHB.out b hb).1 hO.size) hO3 ho3
      have HJ3 := Lib.hid hO3
      clear hO3 ho3 hsl
      gi_wp2
      refine hR.mono ?_
      rintro e W3 (⟨rfl, hJ3, hk3⟩ | ⟨rfl, hJx3⟩)
      · have HJ4 := Lib.hid hJ3
        have hO4 := (hO.then_ HJ3.out).trans hk3
        clear hJ3 hk3
        gi_wp2
        go_roundw
        case rel => exact ⟨k + 1, by omega, by go_num, HJ4, hO4⟩
        case measure => simp [intOf]; omega
      · have HJ4 := Lib.hid hJx3
        clear hJx3
        gi_wp2
        refine bodyPost_ret (results_none rfl _ _ _) rfl ?_
        exact ⟨⟨_, rfl⟩, .inr HJ4.out⟩
    · obtain rfl : k = N := by omega
      have g1 : decide ((k : Int) < (sg : Int)) = false := by rw [HNN.out, decide_eq_false_iff_not]; omega
      go_wp2
      go_end0
      exact ⟨⟨_, rfl⟩, .inl ⟨H, HJ.out⟩⟩
end Go.Proofs.YtailcinidojdjaaDoor

/- Part of this seat's proofs: contracts of functions of the program and plain lemmas, which the claim's theorem uses. -/
import Derived.Test.YtailcinidojdjaaDoorDig2
namespace Go.Proofs.YtailcinidojdjaaDoor
open Go Go.RowKit
set_option linter.unusedVariables false
set_option linter.unusedSimpArgs false

/-- the first state -/
def startI : List Int := [1779033703, 3144134277, 1013904242, 2773480762, 1359893119, 2600822924, 528734635, 1541459225]

theorem Start_ok (w : World) : Calls Tryd.prog 36 #[] w fun e w' => e = .returned (aggI startI) ∧ Only Non w w' := by
  go_enter Tryd.func36, Tryd.ntmps36
  go_wp2_with (refine wpList_store_row rfl 73 _ _ rfl w.heap.size (words startI) rfl rfl _ (words (List.replicate 8 0)) (heap_new _ _ _ rfl) (info8 rfl) rfl (words_one _) ?_)
  refine bodyPost_ret (results_cell_row rfl _ _ w.heap.size _ _ _ _ rfl (RowI.put (l := List.replicate 8 0) (heap_new _ _ _ rfl) startI) Tryd.underlying73 rfl (info8 rfl)) rfl ?_
  exact ⟨rfl, ((Only.refl _ _).alloc _).setRow (.inr (Nat.le_refl _)) _⟩

/-- what stands behind so many bytes -/
def zerosN (n : Nat) : Nat := (119 - n % 64) % 64
def lenB (n : Nat) : List UInt8 := (List.range 8).map fun k => UInt8.ofNat (n * 8 / 2 ^ (8 * (7 - k)))
def padB (n : Nat) : List UInt8 := 128 :: List.replicate (zerosN n) 0 ++ lenB n
theorem zerosN_at (n k : Nat) (hk : k ≤ zerosN n) : ((n + (1 + k) + 8) % 64 = 0) ↔ k = zerosN n := by
  unfold zerosN at *
  omega

theorem OB.built (w : World) (xs : List UInt8) (h : xs.length ≤ 100000) : OB (w.alloc (.cells (bvs xs).toArray 5)) w.heap.size (.slice (some ⟨w.heap.size, 0, none⟩) xs.length xs.length) xs :=
  ⟨by simp [bvs], .inr ⟨_, _, _, rfl, Nat.le_refl _, heap_alloc_new w _, Nat.le_refl _, by simp only [maxLen]; omega, by simp [bvs], by simp only [bvs, Nat.mul_one]; exact List.take_of_length_le (by simp)⟩⟩

theorem lenB_at (n j : Nat) (hj : j < 8) : lenB n = (lenB n).take j ++ [UInt8.ofNat (n * 8 / 2 ^ (8 * (7 - j)))] ++ (lenB n).drop (j + 1) := by
  obtain rfl | rfl | rfl | rfl | rfl | rfl | rfl | rfl : j = 0 ∨ j = 1 ∨ j = 2 ∨ j = 3 ∨ j = 4 ∨ j = 5 ∨ j = 6 ∨ j = 7 := by omega
  all_goals rfl
theorem lenB_take (n j : Nat) (hj : j < 8) : (lenB n).take (j + 1) = (lenB n).take j ++ [UInt8.ofNat (n * 8 / 2 ^ (8 * (7 - j)))] := by
  obtain rfl | rfl | rfl | rfl | rfl | rfl | rfl | rfl : j = 0 ∨ j = 1 ∨ j = 2 ∨ j = 3 ∨ j = 4 ∨ j = 5 ∨ j = 6 ∨ j = 7 := by omega
  all_goals rfl

set_option maxRecDepth 100000 in
set_option maxHeartbeats 1000000 in
theorem Pad_ok (w : World) (n : Nat) (hn : n ≤ 100000000) :
    Calls Tryd.prog 35 #[.int .i64 (n : Int)] w fun e w' => ∃ v', e = .returned v' ∧ Only Non w w' ∧ OB w' w.heap.size v' (padB n) := by
  have hz := zerosN_at n
  have hz64 : zerosN n < 64 := by unfold zerosN; omega
  have HP := Lib.hid (show padB n = 128 :: List.replicate (zerosN n) 0 ++ lenB n from rfl)
  generalize zerosN n = Z at *
  have HZ := Lib.hid hz
  clear hz
  go_enter Tryd.func35, Tryd.ntmps35
  go_wp2_with fail
  go_loopw [3] (fun b wr => ∃ (k : Nat) (xs : List UInt8), k ≤ Z ∧ Hid (xs = 128 :: List.replicate k 0) ∧ xs.length = k + 1 ∧ OB wr w.heap.size b xs ∧ Only Non w wr) (fun b _ => 200 - (match b with | .slice _ l _ => l | _ => 0))
  case atStart => exact ⟨0, [128], Nat.zero_le _, rfl, rfl, OB.built w [128] (by decide), (Only.refl _ _).alloc _⟩
  case round =>
    obtain ⟨k, xs, hk, HX, hxl, hob, hO⟩ := hrel
    obtain ⟨A, c, rfl, hc1, hc2, hc3⟩ := hob.non.open
    clear hc1 hc2 hc3
    have HO := Lib.hid hob
    clear hob
    by_cases hlt : k = Z
    · have hc : (((n : Int) + ((xs.length : Int)) + 8) % 64 != 0) = false := by
        have := (HZ.out k hk).2 hlt
        rw [bne_eq_false_iff_eq]
        omega
      have hx64 : xs.length ≤ 64 := by omega
      have HL := Lib.hid hxl
      clear hxl
      go_wp2_with fail
      subst hlt
      have HXL := Lib.hid HL.out
      clear HL hc HZ
      go_loopw [3, 4] (fun b i wr => ∃ (q : Nat) (ys : List UInt8), q ≤ 8 ∧ i = .int .i64 ((q : Int) - 1) ∧ Hid (ys = xs ++ (lenB n).take (8 - q)) ∧ ys.length + q = k + 9 ∧ OB wr w.heap.size b ys ∧ Only Non w wr) (fun _ i _ => (intOf i + 1).toNat)
      case atStart => exact ⟨8, xs, by omega, rfl, by show _ = _; simp, by have := HXL.out; omega, HO.out, hO⟩
      case round =>
        obtain ⟨q, ys, hq, rfl, HY, hyl, hob, hO2⟩ := hrel
        obtain ⟨A2, c2, rfl, hc1, hc2, hc3⟩ := hob.non.open
        have HO2 := Lib.hid hob
        clear hob hc1 hc2 hc3
        by_cases hq0 : q = 0
        · have hc : decide ((0 : Int) ≤ (q : Int) - 1) = false := by
            rw [decide_eq_false_iff_not]; omega
          go_wp2_with fail
          go_ret
          have hy := HY.out
          rw [hq0, HX.out, List.take_of_length_le (by simp [lenB])] at hy
          refine ⟨_, rfl, hO2, ?_⟩
          rw [HP.out]
          have h2 := HO2.out
          rw [hy] at h2
          rw [hy]
          exact h2
        · have hc : decide ((0 : Int) ≤ (q : Int) - 1) = true := by
            rw [decide_eq_true_iff]; omega
          have e1 : (q : Int) - 1 = ((q - 1 : Nat) : Int) := by omega
          have hs : 8 * (q - 1) ≤ 56 := by omega
          have e8 : (8 : Int) * ((q - 1 : Nat) : Int) = ((8 * (q - 1) : Nat) : Int) := by omega
          have HQ := Lib.hid (show q - 1 + 1 = q by omega)
          generalize hsq : 8 * (q - 1) = s at *
          generalize hqq : q - 1 = p at *
          have HS := Lib.hid (And.intro hsq hqq)
          have hb : ((n : Int) * 8 / 2 ^ s % 256) = ((UInt8.ofNat (n * 8 / 2 ^ s)).toNat : Int) := by
            rw [UInt8.toNat_ofNat']
            push_cast
            rfl
          have HV := Lib.hid (show (lenB n).take (8 - q + 1) = (lenB n).take (8 - q) ++ [UInt8.ofNat (n * 8 / 2 ^ s)] by
            rw [lenB_take n (8 - q) (by omega), show 8 * (7 - (8 - q)) = s by omega])
          clear hsq hqq
          generalize UInt8.ofNat (n * 8 / 2 ^ s) = bb at hb HV
          have hy64 : ys.length ≤ 100 := by omega
          have HYL := Lib.hid hyl
          clear hyl
          go_wp2_with ((at_builtin; refine ap_by rfl _ _ rfl _ _ _ rfl (HO2.out.alloc _) _ _ _ rfl (By.one _ bb _ _ (by simp)) (by simp; omega) (hO2.alloc _) ?_))
          intro v' w' ho hO' hG hat
          obtain ⟨A', c', rfl, hc1, hc2, hc3⟩ := ho.non.open
          have HO' := Lib.hid ho
          clear hat hG hc1 hc2 hc3 ho HO2
          have hxl' : (ys ++ [bb]).length = ys.length + 1 := by simp
          rw [hxl'] at HO' ⊢
          go_wp2
          go_roundw
          case rel =>
            have h1 := HQ.out
            refine ⟨p, ys ++ [bb], by omega, by rw [show ((p : Nat) : Int) - 1 = (q : Int) - 1 - 1 by omega], ?_, by have := HYL.out; simp; omega, HO'.out, hO'⟩
            show _ = _
            rw [show 8 - p = 8 - q + 1 by omega, HV.out, HY.out]
            simp
          case measure => have h1 := HQ.out; simp [intOf]; omega
    · have hc : (((n : Int) + ((xs.length : Int)) + 8) % 64 != 0) = true := by
        have : ¬ ((n + (1 + k) + 8) % 64 = 0) := fun h => hlt ((HZ.out k hk).1 h)
        rw [bne_iff_ne]
        omega
      have hx64 : xs.length ≤ 64 := by omega
      have HL := Lib.hid hxl
      clear hxl
      go_wp2_with ((at_builtin; refine ap_by rfl _ _ rfl _ _ _ rfl (HO.out.alloc _) _ _ _ rfl (By.one _ 0 _ _ (by simp)) (by have := HL.out; simp; omega) (hO.alloc _) ?_))
      intro v' w' ho hO' hG hat
      obtain ⟨A', c', rfl, hc1, hc2, hc3⟩ := ho.non.open
      have HO' := Lib.hid ho
      clear hat hG hc1 hc2 hc3 ho HO
      have hxl' : (xs ++ [(0 : UInt8)]).length = xs.length + 1 := by simp
      rw [hxl'] at HO' ⊢
      go_wp2
      go_roundw
      case rel => exact ⟨k + 1, xs ++ [0], by omega, by show _ = _; rw [HX.out, List.replicate_succ']; simp, by simp [HL.out], HO'.out, hO'⟩
      case measure => simp; omega
end Go.Proofs.YtailcinidojdjaaDoor

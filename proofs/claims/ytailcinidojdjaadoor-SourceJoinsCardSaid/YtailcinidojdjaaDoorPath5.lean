/- Part of this seat's proofs: contracts of functions of the program and plain lemmas, which the claim's theorem uses. -/
import Derived.Test.YtailcinidojdjaaDoorPath4
namespace Go.Proofs.YtailcinidojdjaaDoor
open Go Go.RowKit
set_option linter.unusedVariables false
set_option linter.unusedSimpArgs false

/-- is place i of a list of paths right, and behind the one ahead? -/
def okAt (l : List ByteArray) (i : Nat) : Bool := rightB (l.getD i ⟨#[]⟩) && (decide (i = 0) || decide (cmpP (l.getD (i - 1) ⟨#[]⟩) (l.getD i ⟨#[]⟩) < 0))
def sortedB (l : List ByteArray) : Bool := (List.range l.length).all (okAt l)
theorem right_size {s : ByteArray} (h : rightB s = true) : s.size ≤ 256 := by
  simp only [rightB, Bool.and_eq_true, decide_eq_true_eq] at h
  exact h.1
theorem sorted_no {l : List ByteArray} {i : Nat} (hi : i < l.length) (h : okAt l i = false) : sortedB l = false := by
  unfold sortedB
  rw [List.all_eq_false]
  exact ⟨i, by simpa using hi, by simp [h]⟩
theorem sorted_yes {l : List ByteArray} (h : ∀ i, i < l.length → okAt l i = true) : sortedB l = true := by
  unfold sortedB
  rw [List.all_eq_true]
  exact fun i hi => h i (by simpa using hi)

set_option maxRecDepth 100000 in
theorem Sorted_ok (M : Nat → Prop) (w : World) (v : Value) (l : List ByteArray) (hE : Env w) (hv : Ss M w v l) (hn : l.length ≤ 1000000) :
    Calls Tryd.prog 28 #[v] w fun e w' => e = .returned (.bool (sortedB l)) ∧ Only Non w w' := by
  obtain ⟨A, c, rfl, hc1, hc2, hc3⟩ := hv.open
  have HV := Lib.hid hv
  clear hc1 hc2 hc3 hv
  go_enter Tryd.func28, Tryd.ntmps28
  go_wp2_with fail
  go_loopw [7] (fun i wr => ∃ k : Nat, k ≤ l.length ∧ i = .int .i64 k ∧ Hid (∀ j, j < k → okAt l j = true) ∧ Only Non w wr) (fun i _ => l.length - (intOf i).toNat)
  case atStart => exact ⟨0, Nat.zero_le _, rfl, fun j hj => absurd hj (by omega), Only.refl _ _⟩
  case round =>
    obtain ⟨k, hk, rfl, HP, hO⟩ := hrel
    by_cases hlt : k < l.length
    · obtain ⟨b, o, rfl, _, _, hc⟩ := (HV.out.kept hO).at (by omega)
      have hck := hc k hlt
      have HC := Lib.hid hc
      clear hc
      have HX := Lib.hid (show l.getD k ⟨#[]⟩ = l[k] by simp [hlt])
      generalize l[k] = x at hck HX
      cases hr : rightB x with
      | false =>
        have HE := Lib.hid (sorted_no hlt (show okAt l k = false by unfold okAt; rw [HX.out, hr]; rfl))
        have HR := Lib.hid hr
        clear hr
        go_wp2_with fail
        refine (Right_ok x _ (hE.non hO)).mono ?_
        rintro e w1 ⟨rfl, hO1⟩
        rw [HR.out]
        go_wp2
        go_ret
        exact ⟨by rw [HE.out]; rfl, hO.trans hO1⟩
      | true =>
        have HR := Lib.hid hr
        have hsz := right_size hr
        clear hr
        by_cases hk0 : k = 0
        · subst hk0
          rw [Nat.add_zero] at hck
          go_wp2_with fail
          refine (Right_ok x _ (hE.non hO)).mono ?_
          rintro e w1 ⟨rfl, hO1⟩
          rw [HR.out]
          go_wp2
          go_roundw
          case rel =>
            refine ⟨1, by omega, by go_num, ?_, hO.trans hO1⟩
            intro j hj
            obtain rfl : j = 0 := by omega
            unfold okAt
            rw [HX.out, HR.out]
            rfl
          case measure => simp [intOf]; omega
        · have hk1 : k - 1 < l.length := by omega
          have HY := Lib.hid (show l.getD (k - 1) ⟨#[]⟩ = l[k - 1] by simp [hk1])
          have hck1 := HC.out (k - 1) hk1
          have hszy : l[k - 1].size ≤ 256 := by
            have := HP.out (k - 1) (by omega)
            simp only [okAt, Bool.and_eq_true] at this
            rw [HY.out] at this
            exact right_size this.1
          generalize l[k - 1] = y at hck1 HY hszy
          obtain ⟨m, rfl⟩ : ∃ m, k = m + 1 := ⟨k - 1, by omega⟩
          simp only [Nat.add_sub_cancel] at hck1 HY
          have e0 : (((m + 1 : Nat) : Int)) = (m : Int) + 1 := by omega
          by_cases hcm : cmpP y x < 0
          · have HE := Lib.hid (show okAt l (m + 1) = true by unfold okAt; rw [HX.out, HR.out, Nat.add_sub_cancel, HY.out]; simp [hcm])
            go_wp2_with fail
            refine (Right_ok x _ (hE.non hO)).mono ?_
            rintro e w1 ⟨rfl, hO1⟩
            rw [HR.out]
            have hck2 := (hO1.cell (p := ⟨b, o + m, none⟩) (World.block_lt_of_cell? _ _ hck1) id).trans hck1
            have hck3 := (hO1.cell (p := ⟨b, o + (m + 1), none⟩) (World.block_lt_of_cell? _ _ hck) id).trans hck
            go_wp2_with fail
            refine (Compare_ok y x _ ((hE.non hO).non hO1) (by show _ ≤ _; omega) (by show _ ≤ _; omega)).mono ?_
            rintro e w2 ⟨rfl, hO2⟩
            go_wp2
            go_roundw
            case rel =>
              refine ⟨m + 2, by omega, by go_num, ?_, (hO.trans hO1).trans hO2⟩
              intro j hj
              by_cases hj' : j < m + 1
              · exact HP.out j hj'
              · obtain rfl : j = m + 1 := by omega
                exact HE.out
            case measure => simp [intOf]; omega
          · have HE := Lib.hid (sorted_no hlt (show okAt l (m + 1) = false by unfold okAt; rw [HX.out, HR.out, Nat.add_sub_cancel, HY.out]; simp; omega))
            go_wp2_with fail
            refine (Right_ok x _ (hE.non hO)).mono ?_
            rintro e w1 ⟨rfl, hO1⟩
            rw [HR.out]
            have hck2 := (hO1.cell (p := ⟨b, o + m, none⟩) (World.block_lt_of_cell? _ _ hck1) id).trans hck1
            have hck3 := (hO1.cell (p := ⟨b, o + (m + 1), none⟩) (World.block_lt_of_cell? _ _ hck) id).trans hck
            go_wp2_with fail
            refine (Compare_ok y x _ ((hE.non hO).non hO1) (by show _ ≤ _; omega) (by show _ ≤ _; omega)).mono ?_
            rintro e w2 ⟨rfl, hO2⟩
            go_wp2
            go_ret
            exact ⟨by rw [HE.out]; rfl, (hO.trans hO1).trans hO2⟩
    · have HE := Lib.hid (show sortedB l = true from sorted_yes fun i hi => HP.out i (by omega))
      go_wp2
      go_ret
      exact ⟨by rw [HE.out]; rfl, hO⟩
end Go.Proofs.YtailcinidojdjaaDoor

/- Part of this seat's proofs: contracts of functions of the program and plain lemmas, which the claim's theorem uses. -/
import Derived.Test.YtailcinidojdjaaDoorEntry4
namespace Go.Proofs.YtailcinidojdjaaDoor
open Go Go.RowKit
set_option linter.unusedVariables false
set_option linter.unusedSimpArgs false

def okF (f : Fil) : Bool := decide (f.path.size ≤ 300) && (decide (f.to.size ≤ 300) && decide (f.data.length ≤ 200))
def fewB (l : List Fil) : Bool := decide (l.length ≤ 12) && l.all okF

set_option maxRecDepth 100000 in
set_option maxHeartbeats 1000000 in
theorem Few_ok (M : Nat → Prop) (w : World) (v : Value) (l : List Fil) (hv : Fs M w v l) :
    Calls Tryd.prog 5 #[v] w fun e w' => e = .returned (.bool (fewB l)) ∧ Only Non w w' := by
  have hst := hv.st
  obtain ⟨A, c, rfl, hc1, hc2, hc3⟩ := hst.open
  have HV := Lib.hid hv
  clear hc1 hc2 hc3 hv hst
  go_enter Tryd.func5, Tryd.ntmps5
  go_wp2_with fail
  go_loopw [3] (fun i wr => ∃ k : Nat, k ≤ l.length ∧ k ≤ 13 ∧ i = .int .i64 k ∧ Hid ((l.take k).all okF = true) ∧ Only Non w wr) (fun i _ => 13 - (intOf i).toNat)
  case atStart => exact ⟨0, Nat.zero_le _, by omega, rfl, by show _ = _; simp, Only.refl _ _⟩
  case round =>
    obtain ⟨k, hk, hk13, rfl, HA, hO⟩ := hrel
    by_cases hlt : k < l.length ∧ k ≤ 12
    · obtain ⟨hlt, h12⟩ := hlt
      have hV := HV.out.kept hO
      obtain ⟨b, o, rfl, _, _, hc⟩ := hV.st.at filC_len (by omega)
      have hck := hc k hlt
      have hd := hV.data l[k] (List.getElem_mem hlt)
      have HL := Lib.hid (show l[k]? = some l[k] from List.getElem?_eq_getElem hlt)
      have HM := Lib.hid (List.getElem_mem hlt)
      generalize l[k] = x at hck HL hd HM
      obtain ⟨A', c', hdv, _, _, _⟩ := hd.open
      have c0 := hck 0 _ rfl
      have c4 := hck 4 _ rfl
      have c5 := hck 5 _ rfl
      rw [Nat.add_zero] at c0
      rw [hdv] at c4
      clear hc hck hd hdv hV
      have g1 : decide ((k : Int) < (l.length : Int)) = true := by rw [decide_eq_true_iff]; omega
      have g2 : decide ((k : Int) ≤ 12) = true := by rw [decide_eq_true_iff]; omega
      cases hok : okF x with
      | true =>
        have HS := Lib.hid (show (l.take (k + 1)).all okF = true by rw [List.take_add_one, HL.out]; simp [HA.out, hok])
        simp only [okF, Bool.and_eq_true, decide_eq_true_eq] at hok
        obtain ⟨q1, q2, q3⟩ := hok
        have t1 : decide ((x.path.size : Int) > 300) = false := by rw [decide_eq_false_iff_not]; omega
        have t2 : decide ((x.to.size : Int) > 300) = false := by rw [decide_eq_false_iff_not]; omega
        have t3 : decide ((x.data.length : Int) > 200) = false := by rw [decide_eq_false_iff_not]; omega
        go_wp2
        go_roundw
        case rel => exact ⟨k + 1, by omega, by omega, by go_num, HS, hO⟩
        case measure => simp [intOf]; omega
      | false =>
        have HF := Lib.hid (show fewB l = false by
          unfold fewB
          have : l.all okF = false := by
            rw [List.all_eq_false]
            exact ⟨x, HM.out, by simp [hok]⟩
          rw [this]
          simp)
        simp only [okF, Bool.and_eq_false_iff, decide_eq_false_iff_not] at hok
        rcases Nat.lt_or_ge 300 x.path.size with q1 | q1
        · have t1 : decide ((x.path.size : Int) > 300) = true := by rw [decide_eq_true_iff]; omega
          go_wp2
          go_ret
          exact ⟨by rw [HF.out]; rfl, hO⟩
        · have t1 : decide ((x.path.size : Int) > 300) = false := by rw [decide_eq_false_iff_not]; omega
          rcases Nat.lt_or_ge 300 x.to.size with q2 | q2
          · have t2 : decide ((x.to.size : Int) > 300) = true := by rw [decide_eq_true_iff]; omega
            go_wp2
            go_ret
            exact ⟨by rw [HF.out]; rfl, hO⟩
          · have t2 : decide ((x.to.size : Int) > 300) = false := by rw [decide_eq_false_iff_not]; omega
            have t3 : decide ((x.data.length : Int) > 200) = true := by rw [decide_eq_true_iff]; omega
            go_wp2
            go_ret
            exact ⟨by rw [HF.out]; rfl, hO⟩
    · have HF := Lib.hid (show fewB l = decide ((l.length : Int) ≤ 12) by
        unfold fewB
        by_cases h : l.length ≤ 12
        · have hkl : k = l.length := by omega
          have := HA.out
          rw [hkl, List.take_length] at this
          rw [this]
          simp [h]
          omega
        · simp [h]
          omega)
      by_cases hkl : k < l.length
      · have g1 : decide ((k : Int) < (l.length : Int)) = true := by rw [decide_eq_true_iff]; omega
        have g2 : decide ((k : Int) ≤ 12) = false := by rw [decide_eq_false_iff_not]; omega
        go_wp2
        go_ret
        exact ⟨by rw [HF.out]; rfl, hO⟩
      · have g1 : decide ((k : Int) < (l.length : Int)) = false := by rw [decide_eq_false_iff_not]; omega
        go_wp2
        go_ret
        exact ⟨by rw [HF.out]; rfl, hO⟩
end Go.Proofs.YtailcinidojdjaaDoor

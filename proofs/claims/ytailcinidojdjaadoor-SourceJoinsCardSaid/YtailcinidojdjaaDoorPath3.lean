/- Part of this seat's proofs: contracts of functions of the program and plain lemmas, which the claim's theorem uses. -/
import Derived.Test.YtailcinidojdjaaDoorSplit
namespace Go.Proofs.YtailcinidojdjaaDoor
open Go Go.RowKit
set_option linter.unusedVariables false
set_option linter.unusedSimpArgs false

theorem ContainsFuncS_ok (f : FuncId) (caps : Array Value) (hcf : CanCall f) (p : ByteArray → Bool) (M : Nat → Prop) (w : World) (v : Value) (l : List ByteArray) (hv : Ss M w v l) (hn : Hid (l.length ≤ 1000000))
    (hf : Hid (∀ x w', x ∈ l → Only Non w w' → Calls Tryd.prog f (#[.string x] ++ caps) w' fun e w'' => e = .returned (.bool (p x)) ∧ Only Non w' w'')) :
    Calls Tryd.prog 42 #[v, .func (.func f) #[] caps] w fun e w' => e = .returned (.bool (l.any p)) ∧ Only Non w w' := by
  have E1 := Lib.hid (show l.any p = decide (0 ≤ idxOf p l) by
    unfold idxOf
    cases h : l.findIdx? p with
    | none =>
      rw [List.findIdx?_eq_none_iff] at h
      simp only [Int.reduceLE, decide_false]
      rw [List.any_eq_false]
      intro x hx
      simp [h x hx]
    | some i =>
      rw [List.findIdx?_eq_some_iff_getElem] at h
      obtain ⟨h1, h2, _⟩ := h
      have : (0 : Int) ≤ (i : Int) := by omega
      simp only [this, decide_true]
      rw [List.any_eq_true]
      exact ⟨_, List.getElem_mem h1, h2⟩)
  go_enter Tryd.func42, Tryd.ntmps42
  go_wp2_with fail
  refine (IndexFuncS_ok f caps hcf p M _ _ l hv hn hf.out).mono ?_
  rintro e w1 ⟨rfl, hO⟩
  generalize idxOf p l = i at E1
  go_wp2
  go_ret
  exact ⟨by rw [E1.out]; rfl, hO⟩

def rightB (s : ByteArray) : Bool := decide (s.size ≤ 256) && !(parts s).any fun x => !partB x

theorem Right1_ok (s : ByteArray) (w : World) : Calls Tryd.prog 40 #[.string s] w fun e w' => e = .returned (.bool (!partB s)) ∧ Only Non w w' := by
  go_enter Tryd.func40, Tryd.ntmps40
  go_wp2_with fail
  refine (part_ok s _).mono ?_
  rintro e w1 ⟨rfl, hO⟩
  go_wp2
  go_ret
  exact ⟨rfl, hO⟩

theorem Right_ok (s : ByteArray) (w : World) (hE : Env w) : Calls Tryd.prog 27 #[.string s] w fun e w' => e = .returned (.bool (rightB s)) ∧ Only Non w w' := by
  by_cases hs : s.size ≤ 256
  · have HB := Lib.hid (show rightB s = !(parts s).any fun x => !partB x by simp [rightB, hs])
    have hpl := parts_len s
    go_enter Tryd.func27, Tryd.ntmps27
    go_wp2_with fail
    refine (Split_ok s _ hE (by show _ < _; omega)).mono ?_
    rintro e w1 ⟨v1, rfl, hO, hv⟩
    go_wp2_with fail
    refine (ContainsFuncS_ok _ #[] can_Right1 (fun x => !partB x) _ _ _ (parts s) hv (by show _ ≤ _; omega) (fun x w' _ _ => Right1_ok x w')).mono ?_
    rintro e w2 ⟨rfl, hO2⟩
    go_wp2
    go_ret
    exact ⟨by rw [HB.out]; rfl, hO.trans hO2⟩
  · have HB := Lib.hid (show rightB s = false by simp [rightB, hs])
    go_enter Tryd.func27, Tryd.ntmps27
    go_wp2
    go_ret
    exact ⟨by rw [HB.out]; rfl, Only.refl _ _⟩
end Go.Proofs.YtailcinidojdjaaDoor

/- Part of this seat's proofs: contracts of functions of the program and plain lemmas, which the claim's theorem uses. -/
import Derived.Test.YtailcinidojdjaaDoorRec1
import Derived.WalkLawsBesides
import Derived.Laws.RangeAny
namespace Go.Proofs.YtailcinidojdjaaDoor
open Go Go.RowKit
set_option linter.unusedVariables false
set_option linter.unusedSimpArgs false

/-- may a byte stand in a part of a path? -/
def okc (c : UInt8) : Bool := decide (33 ≤ c.toNat) && decide (c.toNat ≤ 126) && !(c.toNat == 92)
def partB (s : ByteArray) : Bool := s.data.toList.all okc && (decide (1 ≤ s.size) && decide (s.size ≤ 64)) && (!(s.toList == [46]) && !(s.toList == [46, 46]))

def Before (s : ByteArray) (pos : Nat) : Prop := ∀ c ∈ s.data.toList.take pos, okc c = true

theorem Before.more {s : ByteArray} {pos : Nat} (h : Before s pos) (hp : pos < s.size) (hc : okc s[pos] = true) : Before s (pos + 1) := by
  intro c hcm
  rw [List.take_succ_eq_append_getElem (by simpa using hp), List.mem_append] at hcm
  rcases hcm with hcm | hcm
  · exact h c hcm
  · simp only [List.mem_singleton] at hcm
    subst hcm
    exact hc
theorem part_bad {s : ByteArray} {pos : Nat} (hp : pos < s.size) (hc : okc s[pos] = false) : partB s = false := by
  unfold partB
  have : s.data.toList.all okc = false := by
    rw [List.all_eq_false]
    exact ⟨s[pos], by show s.data[pos] ∈ _; simp, by simp [hc]⟩
  rw [this]
  rfl
theorem part_whole {s : ByteArray} {pos : Nat} (hp : ¬ pos < s.size) (hb : Before s pos) : partB s = ((decide (1 ≤ s.size) && decide (s.size ≤ 64)) && (!(s.toList == [46]) && !(s.toList == [46, 46]))) := by
  unfold partB
  have : s.data.toList.all okc = true := by
    rw [List.all_eq_true]
    intro c hc
    exact hb c (by rw [List.take_of_length_le (by simp; omega)]; exact hc)
  rw [this]
  rfl
theorem iter_only (w : World) (s : ByteArray) (pos : Nat) : Only Non w (w.iter s pos) := (Only.refl _ _).alloc _

theorem part_ok (s : ByteArray) (w : World) :
    Calls Tryd.prog 41 #[.string s] w fun e w' => e = .returned (.bool (partB s)) ∧ Only Non w w' := by
  go_enter Tryd.func41, Tryd.ntmps41
  go_wp2
  go_loopw [] (fun w' => ∃ (pos : Nat), w' = w.iter s pos ∧ Before s pos) (fun w' => s.size - w'.iterPos w.heap.size)
  case atStart => exact ⟨0, rfl, by simp [Before]⟩
  case round =>
    obtain ⟨pos, rfl, hb⟩ := hrel
    by_cases hp : pos < s.size
    · by_cases ha : (s[pos]'hp).toNat < 128
      · have hnx : ∀ ty, (Instr.next (.pointer (some ⟨w.heap.size, 0, none⟩)) true ty).run Tryd.prog (w.iter s pos) = _ := fun ty => run_next_ascii w s pos ty hp ha
        cases hk : okc (s[pos]'hp) with
        | true =>
          have HM := Lib.hid (hb.more hp hk)
          simp only [okc, Bool.and_eq_true, decide_eq_true_eq, Bool.not_eq_true', beq_eq_false_iff_ne] at hk
          obtain ⟨⟨k1, k2⟩, k3⟩ := hk
          generalize (s[pos]'hp).toNat = r at hnx k1 k2 k3 ha
          have e1 : ((r : Int) == 92) = false := by simp; omega
          have K3 := Lib.hid k3
          clear k3 ha hb
          go_wp2
          go_roundw
          case rel => exact ⟨pos + 1, rfl, HM.out⟩
          case measure => simp; omega
        | false =>
          have HB := Lib.hid (part_bad hp hk)
          have hk' : ¬ (33 ≤ (s[pos]'hp).toNat ∧ (s[pos]'hp).toNat ≤ 126 ∧ (s[pos]'hp).toNat ≠ 92) := by
            intro ⟨a, b, c⟩
            simp [okc, a, b, c] at hk
          generalize (s[pos]'hp).toNat = r at hnx hk' ha
          clear hk ha hb
          by_cases k1 : r < 33
          · clear hk'
            go_wp2
            go_ret
            exact ⟨by rw [HB.out]; rfl, iter_only _ _ _⟩
          · by_cases k2 : 126 < r
            · clear hk'
              go_wp2
              go_ret
              exact ⟨by rw [HB.out]; rfl, iter_only _ _ _⟩
            · obtain rfl : r = 92 := by omega
              clear hk'
              go_wp2
              go_ret
              exact ⟨by rw [HB.out]; rfl, iter_only _ _ _⟩
      · have hnx : ∀ ty, (Instr.next (.pointer (some ⟨w.heap.size, 0, none⟩)) true ty).run Tryd.prog (w.iter s pos) = _ := fun ty => run_next_any w s pos ty hp
        have HB := Lib.hid (part_bad hp (show okc (s[pos]'hp) = false by
          have : ¬ (s[pos]'hp).toNat ≤ 126 := by omega
          simp [okc, this]))
        have hd := (decode_high s pos hp (by omega)).1
        generalize (Utf8.decode s pos).2 = wd at hnx
        generalize (Utf8.decode s pos).1 = r at hnx hd
        clear hb ha
        go_wp2
        go_ret
        exact ⟨by rw [HB.out]; rfl, iter_only _ _ _⟩
    · have hnx : ∀ ty, (Instr.next (.pointer (some ⟨w.heap.size, 0, none⟩)) true ty).run Tryd.prog (w.iter s pos) = _ := fun ty => run_next_end w s pos ty hp
      have HW := Lib.hid (part_whole hp hb)
      clear hb
      go_wp2
      all_goals
        go_ret
        refine ⟨?_, iter_only _ _ _⟩
        rw [HW.out]
      · rename_i h1 h2 h3
        simp [h3]
      · rename_i h1 h2 h3
        have a : 1 ≤ s.size := by omega
        have b : s.size ≤ 64 := by omega
        simp [a, b]
      · rename_i h1 h2
        have b : ¬ s.size ≤ 64 := by omega
        simp [b]
      · rename_i h1
        have b : ¬ 1 ≤ s.size := by omega
        simp [b]
end Go.Proofs.YtailcinidojdjaaDoor

/- Part of this seat's proofs: contracts of functions of the program and plain lemmas, which the claim's theorem uses. -/
import Derived.Test.YtailcinidojdjaaDoorOctet2
namespace Go.Proofs.YtailcinidojdjaaDoor
open Go Go.RowKit
set_option linter.unusedVariables false
set_option linter.unusedSimpArgs false

theorem within_ok (n lo hi : Int) (w : World) : Calls Tryd.prog 38 #[.int .i64 n, .int .i64 lo, .int .i64 hi] w fun e w' => e = .returned (.bool (decide (lo ≤ n) && decide (n ≤ hi))) ∧ w = w' := by
  by_cases h1 : lo ≤ n
  · go_enter Tryd.func38, Tryd.ntmps38
    go_wp2
    go_ret
    exact ⟨by simp [h1], rfl⟩
  · have E := Lib.hid (decide_eq_false h1)
    go_enter Tryd.func38, Tryd.ntmps38
    go_wp2
    go_ret
    exact ⟨by rw [E.out]; rfl, rfl⟩

/-- the cells of a plan: Chunk, Window, Total, and 32 bytes -/
def planC (c n t : Int) (D : List Value) : List Value := .int .i64 c :: .int .i64 n :: .int .i64 t :: D
def mayB (c n t : Int) : Bool := decide (1 ≤ c) && decide (c ≤ 65536) && (decide (1 ≤ n) && decide (n ≤ 32768)) && (decide (0 ≤ t) && decide (t ≤ 4194304))

theorem planC0 (c n t : Int) (D : List Value) : (planC c n t D)[0]? = some (.int .i64 c) := rfl
theorem planC1 (c n t : Int) (D : List Value) : (planC c n t D)[1]? = some (.int .i64 n) := rfl
theorem planC2 (c n t : Int) (D : List Value) : (planC c n t D)[2]? = some (.int .i64 t) := rfl

theorem may_ok (c n t : Int) (D : List Value) (w : World) : Calls Tryd.prog 23 #[.agg (planC c n t D).toArray] w fun e w' => e = .returned (.bool (mayB c n t)) ∧ Only Non w w' := by
  have p0 := planC0 c n t D
  have p1 := planC1 c n t D
  have p2 := planC2 c n t D
  by_cases h1 : 1 ≤ c ∧ c ≤ 65536
  · by_cases h2 : 1 ≤ n ∧ n ≤ 32768
    · have e1 : (decide (1 ≤ c) && decide (c ≤ 65536)) = true := by simp [h1]
      have e2 : (decide (1 ≤ n) && decide (n ≤ 32768)) = true := by simp [h2]
      have e3 : mayB c n t = (decide (0 ≤ t) && decide (t ≤ 4194304)) := by unfold mayB; rw [e1, e2]; simp
      have E3 := Lib.hid e3
      clear e3
      go_enter Tryd.func23, Tryd.ntmps23
      go_wp2_with (first | (go_at_call 38; refine (within_ok _ _ _ _).mono ?_; rintro e w' ⟨rfl, rfl⟩))
      go_ret
      exact ⟨by rw [E3.out]; rfl, (Only.refl _ _).alloc _⟩
    · have e1 : (decide (1 ≤ c) && decide (c ≤ 65536)) = true := by simp [h1]
      have e2 : (decide (1 ≤ n) && decide (n ≤ 32768)) = false := by simp; omega
      have e3 : mayB c n t = false := by unfold mayB; rw [e1, e2]; simp
      have E3 := Lib.hid e3
      clear e3 h1 h2
      go_enter Tryd.func23, Tryd.ntmps23
      go_wp2_with (first | (go_at_call 38; refine (within_ok _ _ _ _).mono ?_; rintro e w' ⟨rfl, rfl⟩))
      go_ret
      exact ⟨by rw [E3.out]; rfl, (Only.refl _ _).alloc _⟩
  · have e1 : (decide (1 ≤ c) && decide (c ≤ 65536)) = false := by simp; omega
    have e3 : mayB c n t = false := by unfold mayB; rw [e1]; simp
    have E3 := Lib.hid e3
    clear e3 h1
    go_enter Tryd.func23, Tryd.ntmps23
    go_wp2_with (first | (go_at_call 38; refine (within_ok _ _ _ _).mono ?_; rintro e w' ⟨rfl, rfl⟩))
    go_ret
    exact ⟨by rw [E3.out]; rfl, (Only.refl _ _).alloc _⟩

theorem info_plan : (Tryd.prog.info? 27).map (·.size) = some 35 := by kernel_rfl
theorem planC_size {c n t : Int} {D : List Value} (hD : D.length = 32) : (Tryd.prog.info? 27).map (·.size) = some (planC c n t D).toArray.size := by rw [info_plan]; simp [planC, hD]

def segs (c n t : Int) : Int := if mayB c n t then (t + c - 1) / c else 0

theorem Segments_ok (c n t : Int) (D : List Value) (hD : Hid (D.length = 32)) (w : World) : Calls Tryd.prog 10 #[.agg (planC c n t D).toArray] w fun e w' => e = .returned (.int .i64 (segs c n t)) ∧ Only Non w w' := by
  have p0 := planC0 c n t D
  have p1 := planC1 c n t D
  have p2 := planC2 c n t D
  cases hb : mayB c n t with
  | false =>
    have HB := Lib.hid hb
    clear hb
    go_enter Tryd.func10, Tryd.ntmps10
    go_wp2_with (refine wpList_load_row rfl 27 _ rfl _ rfl _ _ _ _ (heap_alloc_new w _) Tryd.underlying27 rfl (planC_size hD.out) ?_)
    refine (may_ok c n t D _).mono ?_
    rintro e w1 ⟨rfl, hO⟩
    rw [HB.out]
    go_wp2
    go_ret
    exact ⟨by simp [segs, HB.out], ((Only.refl _ _).alloc _).trans hO⟩
  | true =>
    have hB := hb
    have HB := Lib.hid hb
    unfold mayB at hb
    simp only [Bool.and_eq_true, decide_eq_true_eq] at hb
    obtain ⟨⟨⟨h1, h2⟩, h3, h4⟩, h5, h6⟩ := hb
    have HS := Lib.hid (show segs c n t = (t + c - 1) / c by simp [segs, hB])
    clear hB
    go_enter Tryd.func10, Tryd.ntmps10
    go_wp2_with (refine wpList_load_row rfl 27 _ rfl _ rfl _ _ _ _ (heap_alloc_new w _) Tryd.underlying27 rfl (planC_size hD.out) ?_)
    refine (may_ok c n t D _).mono ?_
    rintro e w1 ⟨rfl, hO⟩
    rw [HB.out]
    have hh := hO.heap (heap_alloc_new w (.cells (planC c n t D).toArray 27)) id
    have c0 : w1.cell? ⟨w.heap.size, 0, none⟩ = some (.int .i64 c) := by rw [cell_of_row _ _ _ _ _ _ hh]; simpa using p0
    have c2 : w1.cell? ⟨w.heap.size, 2, none⟩ = some (.int .i64 t) := by rw [cell_of_row _ _ _ _ _ _ hh]; simpa using p2
    have HH := Lib.hid hh
    clear hh p0 p1 p2
    go_wp2
    go_ret
    exact ⟨by rw [HS.out]; rfl, ((Only.refl _ _).alloc _).trans hO⟩
end Go.Proofs.YtailcinidojdjaaDoor

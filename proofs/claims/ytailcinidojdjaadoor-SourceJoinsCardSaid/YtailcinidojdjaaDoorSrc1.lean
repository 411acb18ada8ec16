/- Part of this seat's proofs: contracts of functions of the program and plain lemmas, which the claim's theorem uses. -/
import Derived.Test.YtailcinidojdjaaDoorRec1
import Derived.Deep.RegionHeld3
namespace Go.Proofs.YtailcinidojdjaaDoor
open Go Go.RowKit
set_option linter.unusedVariables false
set_option linter.unusedSimpArgs false

theorem Only.cellOf {w w' : World} {a : Addr} {v : Value} (k : Only Non w w') (h : w.cell? a = some v) : w'.cell? a = some v := (k.cell (World.block_lt_of_cell? _ _ h) id).trans h

/-- a label's body -/
def bodyB (c n t : Int) (D : List UInt8) : List UInt8 := numB c.toNat ++ numB n.toNat ++ numB t.toNat ++ D

theorem slice32 (W : World) (g o : Nat) : (Instr.sliceAt 25 (.pointer (some ⟨g, o, none⟩)) none none none).run Tryd.prog W = .ok (.slice (some ⟨g, o, none⟩) 32 32) W := by
  have h : Tryd.prog.underlying 25 = some (.array (Tryd.prog.arrayLen 25) (Tryd.prog.elem 25)) := by kernel_rfl
  have hn : Tryd.prog.arrayLen 25 = 32 := by kernel_rfl
  have hs : (sizeOf (Tryd.prog.elem 25)).run Tryd.prog W = .ok 1 W := by kernel_rfl
  rw [run_sliceAt_array_all W _ _ h, hs, hn]
  have h0 : ¬ 32 = 0 := by decide
  simp only [slicedAt, if_neg h0, Result.andThen_ok, Nat.zero_mul, add_at, Nat.add_zero]
theorem By.of_plan {W : World} {g : Nat} {ty : TypeId} {fr : Nat × Nat} {c n t : Int} {D : List UInt8} (h : W.heap[g]? = some (.cells (planC c n t (bvs D)).toArray ty fr)) (hD : D.length = 32) : By Non W (.slice (some ⟨g, 3, none⟩) 32 32) D := by
  unfold By
  rw [hD]
  refine ⟨by simp [bvs, hD], _, _, rfl, Nat.le_refl _, by simp [maxLen], nofun, fun _ => ⟨g, 3, rfl, id, (Array.getElem?_eq_some_iff.1 h).1, fun j u hu => ?_⟩⟩
  rw [cell_of_row _ _ _ _ _ _ h]
  show (planC c n t (bvs D)).toArray[3 + j]? = some u
  rw [Nat.add_comm]
  simpa [planC] using hu
def BodyPost (c n t : Int) (D : List UInt8) (w : World) (e : Ending) (w' : World) : Prop :=
  Only Non w w' ∧ ((mayB c n t = true ∧ ∃ v', e = .returned (.tuple #[v', .int .i64 0]) ∧ OB w' w.heap.size v' (bodyB c n t D)) ∨ (mayB c n t = false ∧ e = .returned (.tuple #[.slice none 0 0, .int .i64 1])))
theorem may_facts {c n t : Int} (h : mayB c n t = true) : 1 ≤ c ∧ c ≤ 65536 ∧ 1 ≤ n ∧ n ≤ 32768 ∧ 0 ≤ t ∧ t ≤ 4194304 := by
  simp only [mayB, Bool.and_eq_true, decide_eq_true_eq] at h
  omega

set_option maxRecDepth 100000 in
set_option maxHeartbeats 1000000 in
theorem Body_ok (c n t : Int) (D : List UInt8) (hD : Hid (D.length = 32)) (w : World) :
    Calls Tryd.prog 20 #[.agg (planC c n t (bvs D)).toArray] w (BodyPost c n t D w) := by
  have hDl : Hid ((bvs D).length = 32) := by show _ = _; simp [bvs, hD.out]
  have p0 := planC0 c n t (bvs D)
  have p1 := planC1 c n t (bvs D)
  have p2 := planC2 c n t (bvs D)
  cases hb : mayB c n t with
  | false =>
    have HB := Lib.hid hb
    clear hb
    go_enter Tryd.func20, Tryd.ntmps20
    go_wp2_with (first
      | (refine wpList_load_row rfl 27 _ rfl _ rfl _ _ _ _ (heap_alloc_new w _) Tryd.underlying27 rfl (planC_size hDl.out) ?_)
      | (go_at_call 23; refine (may_ok c n t (bvs D) _).mono ?_; rintro e w1 ⟨rfl, hO1⟩; rw [HB.out]))
    go_ret2
    exact ⟨((Only.refl _ _).alloc _).trans hO1, .inr ⟨HB.out, rfl⟩⟩
  | true =>
    have HB := Lib.hid hb
    clear hb
    have hf := may_facts HB.out
    have d0 : (w.alloc (.cells (planC c n t (bvs D)).toArray 27)).cell? ⟨w.heap.size, 0, none⟩ = some (.int .i64 c) := by rw [cell_of_row _ _ _ _ _ _ (heap_alloc_new w _)]; rfl
    have d1 : (w.alloc (.cells (planC c n t (bvs D)).toArray 27)).cell? ⟨w.heap.size, 1, none⟩ = some (.int .i64 n) := by rw [cell_of_row _ _ _ _ _ _ (heap_alloc_new w _)]; rfl
    have d2 : (w.alloc (.cells (planC c n t (bvs D)).toArray 27)).cell? ⟨w.heap.size, 2, none⟩ = some (.int .i64 t) := by rw [cell_of_row _ _ _ _ _ _ (heap_alloc_new w _)]; rfl
    have HH0 := Lib.hid (heap_alloc_new w (.cells (planC c n t (bvs D)).toArray 27))
    have HO0 := Lib.hid ((Only.refl Non w).alloc (.cells (planC c n t (bvs D)).toArray 27))
    have HN := Lib.hid (show (numB c.toNat).length ≤ 6 ∧ (numB n.toNat).length ≤ 6 ∧ (numB t.toNat).length ≤ 6 from ⟨(numB_len _ (by omega)).2, (numB_len _ (by omega)).2, (numB_len _ (by omega)).2⟩)
    go_enter Tryd.func20, Tryd.ntmps20
    go_wp2_with (first
      | (refine wpList_load_row rfl 27 _ rfl _ rfl _ _ _ _ (heap_alloc_new w _) Tryd.underlying27 rfl (planC_size hDl.out) ?_)
      | (go_at_call 23; refine (may_ok c n t (bvs D) _).mono ?_; rintro e w1 ⟨rfl, hO1⟩; rw [HB.out]))
    have e0 := hO1.cellOf d0
    have e1 := hO1.cellOf d1
    have e2 := hO1.cellOf d2
    have HH1 := Lib.hid (hO1.heap HH0.out id)
    have HO1 := Lib.hid (HO0.out.trans hO1)
    clear d0 d1 d2 HH0 HO0 hO1
    generalize w.heap.size = g at *
    go_region_held3 (fun W => W.cell? ⟨g, 0, none⟩ = some (.int .i64 c) ∧ W.cell? ⟨g, 1, none⟩ = some (.int .i64 n) ∧ W.cell? ⟨g, 2, none⟩ = some (.int .i64 t) ∧ Only Non w1 W)
      ((go_split_ands; refine ⟨?_, ?_, ?_, ?_⟩ <;> (first | assumption | exact e0 | exact e1 | exact e2 | exact (Only.refl _ _).drew | exact Only.cellOf hN (by assumption) | exact Only.trans (by assumption) hN)))
      (first
        | (go_at_call_of 33 (Value.slice none 0 0); refine (Number_ok Non _ _ [] _ (Rd.nil _ _ _) (by simp) (by omega) (by omega)).mono ?_; rintro e w2 ⟨v2, rfl, hN, ho2⟩; have hN2 := hN)
        | (go_at_call_of 33 v2; refine (Number_ok Non _ _ _ _ ho2.non (by have := HN.out; simp; omega) (by omega) (by omega)).mono ?_; rintro e w3 ⟨v3, rfl, hN, ho3⟩; have hN3 := hN)
        | (go_at_call_of 33 v3; refine (Number_ok Non _ _ _ _ ho3.non (by have := HN.out; simp; omega) (by omega) (by omega)).mono ?_; rintro e w4 ⟨v4, rfl, hN, ho4⟩; have hN4 := hN))
    have hO4 : Only Non w1 w4 := (((Only.refl Non w1).drew.trans hN2).trans hN3).trans hN4
    have HR := Lib.hid (By.of_plan (hO4.heap HH1.out id) hD.out)
    have HOB := Lib.hid ho4
    have hsl := fun W => slice32 W g 3
    have HO3 := Lib.hid (HO1.out.trans (((Only.refl Non w1).drew.trans hN2).trans hN3))
    clear hO4 ho4
    go_wp2_with (at_builtin; refine ap_by rfl _ _ rfl _ _ _ rfl HOB.out _ _ _ rfl HR.out (by have := HN.out; have := hD.out; simp; omega) hN4 ?_)
    intro v5 w5 ho5 hO5 hG hat
    have HO5 := Lib.hid ho5
    clear hat hG ho5
    go_wp2
    go_ret2
    refine ⟨HO3.out.trans hO5, .inl ⟨HB.out, _, rfl, ?_⟩⟩
    have := HO5.out.lower HO3.out.size
    rw [bodyB]
    simpa using this
end Go.Proofs.YtailcinidojdjaaDoor

/- Part of this seat's proofs: contracts of functions of the program and plain lemmas, which the claim's theorem uses. -/
import Derived.Test.YtailcinidojdjaaDoorEntry4
namespace Go.Proofs.YtailcinidojdjaaDoor
open Go Go.RowKit
set_option linter.unusedVariables false
set_option linter.unusedSimpArgs false

theorem Of_ok (M : Nat → Prop) (w : World) (v : Value) (l : List Fil) (hE : Env w) (hv : Fs M w v l) (hn : l.length ≤ 1000000) (ht : totD l ≤ 1000000000) :
    Calls Tryd.prog 16 #[v] w fun e w' => ∃ v', e = .returned (.tuple #[v', .int .i64 (whyE (entsOf 0 l))]) ∧ Only Non w w' ∧
      (whyE (entsOf 0 l) = 0 → St entC 7 Non w' v' (entsOf 0 l)) ∧ (whyE (entsOf 0 l) ≠ 0 → v' = .slice none 0 0) := by
  have hn' : (entsOf 0 l).length ≤ 1000000 := by rw [entsOf_length]; exact hn
  go_enter Tryd.func16, Tryd.ntmps16
  go_wp2_with fail
  refine (entries_ok M _ _ l hv hn ht).mono ?_
  rintro e w1 ⟨v1, rfl, hO1, hv1⟩
  go_wp2_with fail
  refine (why_ok Non _ _ _ (hE.non hO1) hv1 hn').mono ?_
  rintro e w2 ⟨rfl, hO2⟩
  by_cases h0 : whyE (entsOf 0 l) = 0
  · have H0 := Lib.hid h0
    rw [h0]
    clear h0
    go_wp2
    go_ret2
    exact ⟨_, by rw [H0.out]; rfl, hO1.trans hO2, fun _ => hv1.kept hO2, fun h => (h H0.out).elim⟩
  · have e1 : (whyE (entsOf 0 l) != 0) = true := by simpa using h0
    have H0 := Lib.hid h0
    clear h0
    go_wp2
    go_ret2
    exact ⟨_, rfl, hO1.trans hO2, fun h => (H0.out h).elim, fun _ => rfl⟩

theorem ERight_ok (M : Nat → Prop) (w : World) (v : Value) (l : List Fil) (hE : Env w) (hv : Fs M w v l) (hn : l.length ≤ 1000000) (ht : totD l ≤ 1000000000) :
    Calls Tryd.prog 6 #[v] w fun e w' => e = .returned (.bool (whyE (entsOf 0 l) == 0)) ∧ Only Non w w' := by
  have hn' : (entsOf 0 l).length ≤ 1000000 := by rw [entsOf_length]; exact hn
  go_enter Tryd.func6, Tryd.ntmps6
  go_wp2_with fail
  refine (entries_ok M _ _ l hv hn ht).mono ?_
  rintro e w1 ⟨v1, rfl, hO1, hv1⟩
  go_wp2_with fail
  refine (why_ok Non _ _ _ (hE.non hO1) hv1 hn').mono ?_
  rintro e w2 ⟨rfl, hO2⟩
  go_wp2
  go_ret
  exact ⟨rfl, hO1.trans hO2⟩

/-! ### Fine, Total -/
def sumS (l : List Ent) : Int := (l.map (·.size)).sum
def begins (l : List Ent) : Bool := (List.range l.length).all fun k => (l.getD k ⟨⟨#[]⟩, 0, 0, 0, ⟨#[]⟩, 0, 0⟩).beg == sumS (l.take k)
def fineB (l : List Ent) : Bool := whyE l == 0 && begins l

theorem sumS_snoc (l : List Ent) (x : Ent) : sumS (l ++ [x]) = sumS l + x.size := by simp [sumS]

theorem Fine1_ok (x : Ent) (B : Nat) (s : Int) (w : World) (h : w.heap[B]? = some (.cells #[.int .i64 s] 3 (0, 0))) (hs : 0 ≤ s) (hs1 : s ≤ 2000000000) (hx : 0 ≤ x.size) (hx1 : x.size ≤ 1048576) :
    Calls Tryd.prog 45 #[.agg (entC x).toArray, .pointer (some ⟨B, 0, none⟩)] w fun e w' => e = .returned (.bool (x.beg == s)) ∧ Only (One B) w w' ∧ w'.heap[B]? = some (.cells #[.int .i64 (s + x.size)] 3 (0, 0)) := by
  have HC := Lib.hid (show (entC x).toArray = #[.string x.path, .int .i64 x.kind, .int .i64 x.mode, .int .i64 x.time, .string x.to, .int .i64 x.beg, .int .i64 x.size] from rfl)
  rw [HC.out]
  have hlt := lt_of_block h
  have H := Lib.hid h
  have hc := cell_of_one h
  have hf := free_of_one h
  clear h
  go_enter Tryd.func45, Tryd.ntmps45
  go_wp2
  go_ret
  exact ⟨rfl, ((Only.refl (One B) w).setCell (p := ⟨B, 0, none⟩) (.inl rfl) _).alloc _, (Below.heap_alloc _ _ _ (by simpa using hlt)).trans (one_setCell H.out)⟩

theorem can_Fine1 : CanCall 45 := fun _ _ => by kernel_rfl

theorem why0_bound {l : List Ent} (h : whyE l = 0) : l.length ≤ 1024 ∧ (∀ x ∈ l, 0 ≤ x.size ∧ x.size ≤ 1048576) ∧ atOf l ≤ 4194304 := by
  unfold whyE at h
  split at h; · omega
  split at h; · omega
  split at h; · omega
  split at h; · omega
  split at h; · omega
  split at h; · omega
  rename_i h1 h2 h3 h4 h5 h6
  refine ⟨by omega, fun x hx => ?_, by omega⟩
  have := List.all_eq_true.1 (by simpa using h6) x hx
  unfold plainB at this
  split at this; · cases this
  split at this; · cases this
  split at this; · cases this
  split at this; · cases this
  split at this; · cases this
  split at this; · cases this
  omega
theorem sum_bound : ∀ (l : List Ent), (∀ x ∈ l, 0 ≤ x.size ∧ x.size ≤ 1048576) → 0 ≤ sumS l ∧ sumS l ≤ 1048576 * l.length
  | [], _ => by simp [sumS]
  | x :: l, h => by
    have h1 := sum_bound l (fun y hy => h y (List.mem_cons_of_mem _ hy))
    have h2 := h x List.mem_cons_self
    simp only [sumS, List.map_cons, List.sum_cons, List.length_cons] at *
    omega

theorem Fine_ok (M : Nat → Prop) (w : World) (v : Value) (l : List Ent) (hE : Env w) (hv : St entC 7 M w v l) (hn : l.length ≤ 1000000) :
    Calls Tryd.prog 32 #[v] w fun e w' => e = .returned (.bool (fineB l)) ∧ Only Non w w' := by
  go_enter Tryd.func32, Tryd.ntmps32
  go_wp2_with fail
  refine (why_ok M _ _ l hE hv hn).mono ?_
  rintro e w1 ⟨rfl, hO1⟩
  by_cases h0 : whyE l = 0
  · have H0 := Lib.hid h0
    obtain ⟨hb1, hb2, _⟩ := why0_bound h0
    rw [h0]
    clear h0
    have HB2 := Lib.hid hb2
    clear hb2
    go_wp2_with fail
    have hA : Only Non w1 (w1.alloc (.cells #[.int .i64 0] 3)) := (Only.refl _ _).alloc _
    have hb := heap_alloc_new w1 (.cells #[.int .i64 0] 3)
    have key := allE_ok 45 #[.pointer (some ⟨w1.heap.size, 0, none⟩)] can_Fine1 (One w1.heap.size) (fun b => M b ∨ w1.heap.size ≤ b)
      (fun k w' => w'.heap[w1.heap.size]? = some (.cells #[.int .i64 (sumS (l.take k))] 3 (0, 0))) (fun k => (l.getD k ⟨⟨#[]⟩, 0, 0, 0, ⟨#[]⟩, 0, 0⟩).beg == sumS (l.take k)) (w1.alloc (.cells #[.int .i64 0] 3)) v l
      (((hv.kept hO1).more (fun b hb => hb)).keep hA (fun _ _ h => h.elim)) hn (fun b _ h => .inr (by cases h; omega)) (by simpa [sumS] using hb) (fun k w' w'' h1 h2 => h2.heap h1 id)
      (fun k x w' hx hJ hO => by
        have hxm := HB2.out x (List.mem_of_getElem? hx)
        have hsb := sum_bound (l.take k) (fun y hy => HB2.out y (List.mem_of_mem_take hy))
        have hlk : (l.take k).length ≤ l.length := by rw [List.length_take]; omega
        refine (Fine1_ok x w1.heap.size _ w' hJ hsb.1 (by omega) hxm.1 hxm.2).mono ?_
        rintro e w'' ⟨h1, h2, h3⟩
        refine ⟨by rw [h1, List.getD_eq_getElem?_getD, hx]; rfl, h2, fun _ => ?_⟩
        rw [List.take_add_one, hx]
        simp only [Option.toList_some, sumS_snoc]
        exact h3)
    refine key.mono ?_
    rintro e w2 ⟨rfl, hO2⟩
    go_wp2
    go_ret
    exact ⟨by simp only [fineB, H0.out]; rfl, hO1.trans (hA.step hO2 (fun b h => .inr (by cases h; exact Nat.le_refl _)))⟩
  · have e1 : (whyE l != 0) = true := by simpa using h0
    have HE := Lib.hid (show fineB l = false by simp [fineB, h0])
    clear h0
    go_wp2
    go_ret
    exact ⟨by rw [HE.out]; rfl, hO1⟩
end Go.Proofs.YtailcinidojdjaaDoor

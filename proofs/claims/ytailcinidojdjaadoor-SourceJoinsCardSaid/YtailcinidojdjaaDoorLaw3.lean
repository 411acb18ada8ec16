/- Part of this seat's proofs: contracts of functions of the program and plain lemmas, which the claim's theorem uses. -/
import Derived.Test.YtailcinidojdjaaDoorLaw2
namespace Go.Proofs.YtailcinidojdjaaDoor
open Go Go.RowKit
set_option linter.unusedVariables false
set_option linter.unusedSimpArgs false
attribute [local go_sem] Oper.semAt_some

/-! ### plain facts of files and segments -/
theorem entsOf_get : ∀ (l : List Fil) (a k : Nat) (h : k < (entsOf a l).length), ((entsOf a l)[k]).beg = (a : Int) + sumS ((entsOf a l).take k)
  | [], _, _, h => by simp [entsOf] at h
  | f :: l, a, 0, _ => by simp [entsOf, entOf, sumS]
  | f :: l, a, k + 1, h => by
    have h' : k < (entsOf (a + f.data.length) l).length := by simpa [entsOf] using h
    have := entsOf_get l (a + f.data.length) k h'
    simp only [entsOf, List.getElem_cons_succ, List.take_succ_cons, sumS, List.map_cons, List.sum_cons, entOf] at this ⊢
    omega
theorem begins_of (l : List Fil) : begins (entsOf 0 l) = true := by
  unfold begins
  rw [List.all_eq_true]
  intro k hk
  have hk' := List.mem_range.1 hk
  have := entsOf_get l 0 k hk'
  rw [List.getD_eq_getElem?_getD, List.getElem?_eq_getElem hk', Option.getD_some, this]
  simp
theorem fine_of {l : List Fil} (h : whyE (entsOf 0 l) = 0) : fineB (entsOf 0 l) = true := by
  unfold fineB
  rw [h, begins_of]
  rfl
theorem sumS_ents : ∀ (l : List Fil) (a : Nat), sumS (entsOf a l) = (totD l : Int)
  | [], _ => by simp [entsOf, sumS, totD]
  | f :: l, a => by
    have := sumS_ents l (a + f.data.length)
    simp only [entsOf, sumS, List.map_cons, List.sum_cons, entOf, totD] at this ⊢
    omega
theorem few_facts {l : List Fil} (h : fewB l = true) : l.length ≤ 12 ∧ totD l ≤ 2400 := by
  simp only [fewB, Bool.and_eq_true, decide_eq_true_eq, List.all_eq_true] at h
  refine ⟨h.1, ?_⟩
  have key : ∀ m : List Fil, (∀ x ∈ m, okF x = true) → totD m ≤ 200 * m.length := by
    intro m
    induction m with
    | nil => simp [totD]
    | cons x m ih =>
      intro hm
      have h1 := hm x List.mem_cons_self
      have h2 := ih (fun y hy => hm y (List.mem_cons_of_mem _ hy))
      simp only [okF, Bool.and_eq_true, decide_eq_true_eq] at h1
      simp only [totD, List.map_cons, List.sum_cons, List.length_cons] at h2 ⊢
      omega
  have := key l h.2
  omega
theorem ok_stream {l : List Fil} (h : filOk l = true) : (streamB l).length = totD l ∧ totB (entsOf 0 l) = (totD l : Int) ∧ whyE (entsOf 0 l) = 0 ∧ (streamB l) = l.flatMap (·.data) := by
  have h0 : whyE (entsOf 0 l) = 0 := by unfold filOk at h; exact beq_iff_eq.1 h
  refine ⟨?_, ?_, h0, ?_⟩
  · rw [streamB, if_pos h, flat_len]
  · rw [totB, if_pos (fine_of h0), sumS_ents]
  · rw [streamB, if_pos h]

/-- how many segments -/
def segN (c T : Nat) : Nat := (T + c - 1) / c
theorem segs_N (c T : Nat) (h1 : 1 ≤ c) (h2 : c ≤ 65536) (hT : T ≤ 4194304) : segs (c : Int) 1 (T : Int) = (segN c T : Int) := by
  unfold segs segN mayB
  rw [if_pos (by simp; omega)]
  rw [show (T : Int) + (c : Int) - 1 = ((T + c - 1 : Nat) : Int) by omega]
  exact (Int.natCast_ediv _ _).symm
theorem seg_lt {c T k : Nat} (hc : 1 ≤ c) : k < segN c T ↔ k * c < T := by
  unfold segN
  rw [Nat.lt_iff_add_one_le, Nat.le_div_iff_mul_le (by omega), Nat.add_mul]
  omega
theorem cut_len (b : List UInt8) (c k : Nat) : (cutB b c k).length = min ((k + 1) * c) b.length - k * c := by
  unfold cutB
  rw [List.length_take, List.length_drop]
  omega
theorem cut_round {b : List UInt8} {c k : Nat} (hc : 1 ≤ c) (hk : k < segN c b.length) :
    ((cutB b c k).length : Int) = (if (k : Int) = (segN c b.length : Int) - 1 then (b.length : Int) - (k : Int) * (c : Int) else (c : Int)) ∧ 1 ≤ (cutB b c k).length ∧ min (k * c) b.length + (cutB b c k).length = min ((k + 1) * c) b.length := by
  have h1 := (seg_lt hc).1 hk
  have hq : (k + 1) * c = k * c + c := Nat.succ_mul k c
  have hl := cut_len b c k
  have hm : (k : Int) * (c : Int) = ((k * c : Nat) : Int) := by rw [Int.natCast_mul]
  refine ⟨?_, by omega, by omega⟩
  rw [hm]
  split
  · rename_i he
    have hn : ¬ (k + 1 < segN c b.length) := by omega
    rw [seg_lt hc] at hn
    omega
  · rename_i he
    have hn : k + 1 < segN c b.length := by omega
    rw [seg_lt hc] at hn
    omega
theorem seg_end {c T : Nat} (hc : 1 ≤ c) : min (segN c T * c) T = T ∧ (T ≤ c → segN c T ≤ 1) := by
  have h1 : ¬ (segN c T < segN c T) := Nat.lt_irrefl _
  rw [seg_lt hc] at h1
  refine ⟨by omega, fun h => ?_⟩
  rcases Nat.lt_or_ge 1 (segN c T) with h2 | h2
  · rw [seg_lt hc] at h2
    omega
  · exact h2

/-- a box and what it lets be -/
theorem box_cell {w w' : World} {g : Nat} {u : Value} {t : TypeId} (h : w.heap[g]? = some (.cells #[u] t (0, 0))) (hO : Only Non w w') : w'.cell? ⟨g, 0, none⟩ = some u ∧ w'.frozen? ⟨g, 0, none⟩ = false :=
  ⟨cell_of_one (hO.heap h id), free_of_one (hO.heap h id)⟩

theorem results_bool {fn : Func} {p : Tmp} (h : fn.results = #[.cell p 4]) (tmps : Array Value) (w : World) (g : Nat) (b : Bool)
    (hp : tmps.getD p undef = .pointer (some ⟨g, 0, none⟩)) (hc : w.cell? ⟨g, 0, none⟩ = some (.bool b)) : (results fn tmps).run Tryd.prog w = .ok (.bool b) w := by
  have hp' : tmps[p]?.getD undef = .pointer (some ⟨g, 0, none⟩) := by simpa using hp
  simp [results, h, hp', asAddr, go_sem, hc]
/-- the world behind the two boxes of SourceSizes -/
def sizesW (w : World) (c : Int) : World := (w.alloc (.cells #[.int .i64 c] 3)).alloc (.cells #[.bool false] 4)
theorem sizesW_facts (w : World) (c : Int) : Only Non w (sizesW w c) ∧ (sizesW w c).heap[w.heap.size]? = some (.cells #[.int .i64 c] 3 (0, 0)) ∧ (sizesW w c).heap[w.heap.size + 1]? = some (.cells #[.bool false] 4 (0, 0)) :=
  ⟨((Only.refl Non w).alloc _).alloc _, heap_keep (heap_new _ _ _ rfl) _, heap_new _ _ _ (by simp)⟩

set_option maxRecDepth 100000 in
set_option maxHeartbeats 2000000 in
/-- where the guard does not let the input in -/
theorem Sizes_out (w : World) (v : Value) (l : List Fil) (c : Int) (hE : Env w) (hv : Fs Non w v l) (h : ¬ (fewB l = true ∧ 1 ≤ c ∧ c ≤ 65536 ∧ filOk l = true)) :
    Calls Tryd.prog 3 #[v, .int .i64 c] w fun e w' => e = .returned (.bool true) ∧ Only Non w w' := by
  have hst := hv.st
  obtain ⟨A, cc, rfl, hc1, hc2, hc3⟩ := hst.open
  have HV := Lib.hid hv
  have HE := Lib.hid hE
  clear hc1 hc2 hc3 hv hst hE
  obtain ⟨hO0, hb3, hb4⟩ := sizesW_facts w c
  have HO0 := Lib.hid hO0
  have HB3 := Lib.hid hb3
  have HB4 := Lib.hid hb4
  clear hO0 hb3 hb4
  cases hf : fewB l with
  | false =>
    have HF := Lib.hid hf
    clear hf h
    go_enter Tryd.func3, Tryd.ntmps3
    go_wp2_with (first
      | (go_at_call 5; refine (Few_ok Non _ _ l (HV.out.kept HO0.out)).mono ?_; rintro e w1 ⟨rfl, hO1⟩; rw [HF.out]; have b3 := (box_cell HB3.out hO1).1)
      | (go_at_call 7; refine (awake_ok _ (HE.out.non (HO0.out.trans hO1))).mono ?_; rintro e w2 ⟨rfl, hO2⟩; have b4 := box_cell HB4.out (hO1.trans hO2)))
    (try simp only [Exit.inBlock, Exit.then])
    refine bodyPost_ret (results_bool rfl _ _ (w.heap.size + 1) true rfl (World.cell?_setCell_same' _ _ _ (by rw [b4.1]; rfl))) rfl ?_
    exact ⟨rfl, ((HO0.out.trans hO1).trans hO2).setCell (.inr (by simp)) _⟩
  | true =>
    have HF := Lib.hid hf
    have hff := few_facts hf
    have HFF := Lib.hid (show l.length ≤ 1000000 ∧ totD l ≤ 10000000 from ⟨by omega, by omega⟩)
    clear hff
    by_cases h1 : c < 1
    · have g1 : decide (c < 1) = true := decide_eq_true h1
      clear hf h h1
      go_enter Tryd.func3, Tryd.ntmps3
      go_wp2_with (first
        | (go_at_call 5; refine (Few_ok Non _ _ l (HV.out.kept HO0.out)).mono ?_; rintro e w1 ⟨rfl, hO1⟩; rw [HF.out]; have b3 := (box_cell HB3.out hO1).1)
        | (go_at_call 7; refine (awake_ok _ (HE.out.non (HO0.out.trans hO1))).mono ?_; rintro e w2 ⟨rfl, hO2⟩; have b4 := box_cell HB4.out (hO1.trans hO2)))
      (try simp only [Exit.inBlock, Exit.then])
      refine bodyPost_ret (results_bool rfl _ _ (w.heap.size + 1) true rfl (World.cell?_setCell_same' _ _ _ (by rw [b4.1]; rfl))) rfl ?_
      exact ⟨rfl, ((HO0.out.trans hO1).trans hO2).setCell (.inr (by simp)) _⟩
    · have g1 : decide (c < 1) = false := decide_eq_false h1
      by_cases h2 : 65536 < c
      · have g2 : decide (c > 65536) = true := decide_eq_true h2
        clear hf h h1 h2
        go_enter Tryd.func3, Tryd.ntmps3
        go_wp2_with (first
          | (go_at_call 5; refine (Few_ok Non _ _ l (HV.out.kept HO0.out)).mono ?_; rintro e w1 ⟨rfl, hO1⟩; rw [HF.out]; have b3 := (box_cell HB3.out hO1).1)
          | (go_at_call 7; refine (awake_ok _ (HE.out.non (HO0.out.trans hO1))).mono ?_; rintro e w2 ⟨rfl, hO2⟩; have b4 := box_cell HB4.out (hO1.trans hO2)))
        (try simp only [Exit.inBlock, Exit.then])
        refine bodyPost_ret (results_bool rfl _ _ (w.heap.size + 1) true rfl (World.cell?_setCell_same' _ _ _ (by rw [b4.1]; rfl))) rfl ?_
        exact ⟨rfl, ((HO0.out.trans hO1).trans hO2).setCell (.inr (by simp)) _⟩
      · have g2 : decide (c > 65536) = false := decide_eq_false h2
        have HR := Lib.hid (show filOk l = false by
          cases hr : filOk l with
          | false => rfl
          | true => exact absurd ⟨hf, by omega, by omega, hr⟩ h)
        clear hf h h1 h2
        go_enter Tryd.func3, Tryd.ntmps3
        go_wp2_with (first
          | (go_at_call 5; refine (Few_ok Non _ _ l (HV.out.kept HO0.out)).mono ?_; rintro e w1 ⟨rfl, hO1⟩; rw [HF.out]; have b3 := (box_cell HB3.out hO1).1)
          | (go_at_call 6; refine (ERight_ok Non _ _ l (HE.out.non (HO0.out.trans hO1)) (HV.out.kept (HO0.out.trans hO1)) HFF.out.1 (by have := HFF.out.2; omega)).mono ?_; rintro e w3 ⟨rfl, hO3⟩; rw [show (whyE (entsOf 0 l) == 0) = false from HR.out])
          | (go_at_call 7; refine (awake_ok _ (HE.out.non ((HO0.out.trans hO1).trans hO3))).mono ?_; rintro e w2 ⟨rfl, hO2⟩; have b4 := box_cell HB4.out ((hO1.trans hO3).trans hO2)))
        (try simp only [Exit.inBlock, Exit.then])
        refine bodyPost_ret (results_bool rfl _ _ (w.heap.size + 1) true rfl (World.cell?_setCell_same' _ _ _ (by rw [b4.1]; rfl))) rfl ?_
        exact ⟨rfl, (((HO0.out.trans hO1).trans hO3).trans hO2).setCell (.inr (by simp)) _⟩
end Go.Proofs.YtailcinidojdjaaDoor

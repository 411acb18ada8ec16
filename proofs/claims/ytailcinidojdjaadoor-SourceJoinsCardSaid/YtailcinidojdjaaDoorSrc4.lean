/- Part of this seat's proofs: contracts of functions of the program and plain lemmas, which the claim's theorem uses. -/
import Derived.Test.YtailcinidojdjaaDoorSrc3
import Derived.Test.YtailcinidojdjaaDoorSrc1
import Derived.Test.YtailcinidojdjaaDoorEntry6
import Derived.Great.BuildSlice
namespace Go.Proofs.YtailcinidojdjaaDoor
open Go Go.RowKit
set_option linter.unusedVariables false
set_option linter.unusedSimpArgs false

theorem uncons {α : Type} {l : List α} {n : Nat} (h : l.length = n + 1) : ∃ x r, l = x :: r ∧ r.length = n := by
  cases l with
  | nil => cases h
  | cons x r => exact ⟨x, r, rfl, Nat.succ.inj h⟩
theorem built_plan (c n t : Int) (D : List Value) (h : D.length = 32) : Tryd.prog.built 27 [(0, .int .i64 c), (1, .int .i64 n), (2, .int .i64 t), (3, .agg D.toArray)] = some (planC c n t D).toArray := by
  obtain ⟨x0, D0, rfl, h0⟩ := uncons h
  obtain ⟨x1, D1, rfl, h1⟩ := uncons h0
  obtain ⟨x2, D2, rfl, h2⟩ := uncons h1
  obtain ⟨x3, D3, rfl, h3⟩ := uncons h2
  obtain ⟨x4, D4, rfl, h4⟩ := uncons h3
  obtain ⟨x5, D5, rfl, h5⟩ := uncons h4
  obtain ⟨x6, D6, rfl, h6⟩ := uncons h5
  obtain ⟨x7, D7, rfl, h7⟩ := uncons h6
  obtain ⟨x8, D8, rfl, h8⟩ := uncons h7
  obtain ⟨x9, D9, rfl, h9⟩ := uncons h8
  obtain ⟨x10, D10, rfl, h10⟩ := uncons h9
  obtain ⟨x11, D11, rfl, h11⟩ := uncons h10
  obtain ⟨x12, D12, rfl, h12⟩ := uncons h11
  obtain ⟨x13, D13, rfl, h13⟩ := uncons h12
  obtain ⟨x14, D14, rfl, h14⟩ := uncons h13
  obtain ⟨x15, D15, rfl, h15⟩ := uncons h14
  obtain ⟨x16, D16, rfl, h16⟩ := uncons h15
  obtain ⟨x17, D17, rfl, h17⟩ := uncons h16
  obtain ⟨x18, D18, rfl, h18⟩ := uncons h17
  obtain ⟨x19, D19, rfl, h19⟩ := uncons h18
  obtain ⟨x20, D20, rfl, h20⟩ := uncons h19
  obtain ⟨x21, D21, rfl, h21⟩ := uncons h20
  obtain ⟨x22, D22, rfl, h22⟩ := uncons h21
  obtain ⟨x23, D23, rfl, h23⟩ := uncons h22
  obtain ⟨x24, D24, rfl, h24⟩ := uncons h23
  obtain ⟨x25, D25, rfl, h25⟩ := uncons h24
  obtain ⟨x26, D26, rfl, h26⟩ := uncons h25
  obtain ⟨x27, D27, rfl, h27⟩ := uncons h26
  obtain ⟨x28, D28, rfl, h28⟩ := uncons h27
  obtain ⟨x29, D29, rfl, h29⟩ := uncons h28
  obtain ⟨x30, D30, rfl, h30⟩ := uncons h29
  obtain ⟨x31, D31, rfl, h31⟩ := uncons h30
  obtain rfl : D31 = [] := List.eq_nil_of_length_eq_zero h31
  kernel_rfl
theorem results_cell_tmp {P : Program} {fn : Func} {p t : Tmp} {ty : TypeId} (h : fn.results = #[.cell p ty, .tmp t]) (tmps : Array Value) (w : World) (g : Nat) (bt : TypeId) (cs : Array Value) (fr : Nat × Nat) (d : TypeDesc)
    (hp : tmps.getD p undef = .pointer (some ⟨g, 0, none⟩)) (hg : w.heap[g]? = some (.cells cs bt fr))
    (hu : P.underlying ty = some d) (hd : (match d with | .struct _ | .array _ _ => true | _ => false) = true) (hi : (P.info? ty).map (·.size) = some cs.size) :
    (results fn tmps).run P w = .ok (.tuple #[.agg cs, tmps.getD t undef]) w := by
  have hp' : tmps[p]?.getD undef = .pointer (some ⟨g, 0, none⟩) := by simpa using hp
  simp [results, h, hp', asAddr, run_loadVar_row w g bt ty cs fr d hg hu hd hi]

def zD : List UInt8 := List.replicate 32 0
theorem zD_len : zD.length = 32 := rfl
def zplan : Value := .agg (planC 0 0 0 (bvs zD)).toArray
/-- the digest that a plan of files has -/
def planD (l : List Fil) : List UInt8 := digestB ((if fineB (entsOf 0 l) then encL (entsOf 0 l) else []) ++ streamB l)
/-- what source.Plan tells -/
def PlanPost (l : List Fil) (c n : Int) (w : World) (e : Ending) (w' : World) : Prop :=
  Only Non w w' ∧
  ((whyE (entsOf 0 l) ≠ 0 ∧ e = .returned (.tuple #[zplan, .int .i64 (whyE (entsOf 0 l))])) ∨
   (whyE (entsOf 0 l) = 0 ∧ mayB c n (totB (entsOf 0 l)) = true ∧ e = .returned (.tuple #[.agg (planC c n (totB (entsOf 0 l)) (bvs (planD l))).toArray, .int .i64 0])) ∨
   (whyE (entsOf 0 l) = 0 ∧ mayB c n (totB (entsOf 0 l)) = false ∧ e = .returned (.tuple #[zplan, .int .i64 1])))

theorem zrow : (Tryd.prog.info? 27).map (·.size) = some (planC 0 0 0 (bvs zD)).toArray.size := planC_size (by simp [bvs, zD])
theorem planC_one (c n t : Int) (D : List UInt8) : (planC c n t (bvs D)).toArray.all (·.oneCell') = true := by
  rw [Array.all_eq_true]
  intro i hi
  obtain rfl | rfl | rfl | h : i = 0 ∨ i = 1 ∨ i = 2 ∨ 3 ≤ i := by omega
  · rfl
  · rfl
  · rfl
  · obtain ⟨j, rfl⟩ : ∃ j, i = j + 3 := ⟨i - 3, by omega⟩
    simp [planC, bvs, bv, Value.oneCell']

theorem stream_len {l : List Fil} {n : Nat} (h : totD l ≤ n) : (streamB l).length ≤ n := by
  unfold streamB
  split
  · rw [flat_len]; exact h
  · simp
theorem encL_len {l : List Ent} (hf : fineB l = true) : (encL l).length ≤ 1200000 := by
  have hF := fine_facts hf
  have h1 : ∀ x ∈ l, (encE x).length ≤ 1000 := fun x hx => by
    obtain ⟨hp, hr, hs⟩ := hF.2.1 x hx
    have hpn := plain_nums hp
    have hps := right_size hr
    obtain ⟨k, hk⟩ := List.getElem?_of_mem hx
    have hb := hF.2.2.2.2 k x hk
    have hb2 := sumS_take_le l (fun y hy => (hF.2.1 y hy).2.2.1) k
    have hb3 := hF.2.2.2.1
    have h5 := nums_len (encNums x) (by
      intro n hn
      simp only [encNums, List.mem_cons, List.mem_nil_iff, or_false] at hn
      rcases hn with rfl | rfl | rfl | rfl | rfl <;> omega)
    have h6 := (numB_len x.path.size (by omega)).2
    have h7 := (numB_len x.to.size (by omega)).2
    have h8 : (encNums x).length = 5 := rfl
    have h9 : x.path.data.toList.length = x.path.size := by simp
    have h10 : x.to.data.toList.length = x.to.size := by simp
    simp only [encE, strB, List.length_append]
    omega
  have h2 : ∀ m : List Ent, (∀ x ∈ m, (encE x).length ≤ 1000) → (m.flatMap encE).length ≤ 1000 * m.length := by
    intro m
    induction m with
    | nil => intro _; simp
    | cons x m ih =>
      intro h
      have h3 := h x List.mem_cons_self
      have h4 := ih (fun y hy => h y (List.mem_cons_of_mem _ hy))
      simp only [List.flatMap_cons, List.length_append, List.length_cons]
      omega
  have h3 := h2 l h1
  have h4 := (numB_len l.length (by have := hF.1; omega)).2
  have h5 := hF.1
  simp only [encL, List.length_append]
  omega
theorem BodyPost.any {c n t : Int} {D : List UInt8} {w w' : World} {e : Ending} (h : BodyPost c n t D w e w') : Only Non w w' ∧ ∃ vb, (mayB c n t = true ∧ e = .returned (.tuple #[vb, .int .i64 0])) ∨ (mayB c n t = false ∧ e = .returned (.tuple #[vb, .int .i64 1])) := by
  obtain ⟨hO, h | h⟩ := h
  · obtain ⟨hm, v', rfl, _⟩ := h
    exact ⟨hO, v', .inl ⟨hm, rfl⟩⟩
  · exact ⟨hO, _, .inr h⟩
theorem planRow {w5 : World} (P6 : Array Value) : ((w5.alloc (.cells (planC 0 0 0 (bvs zD)).toArray 27)).setRow w5.heap.size P6).heap[w5.heap.size]? = some (.cells P6 27 (0, 0)) ∧
    Only Non w5 ((w5.alloc (.cells (planC 0 0 0 (bvs zD)).toArray 27)).setRow w5.heap.size P6) :=
  ⟨setRow_heap _ _ _ _ _ _ (heap_new _ _ _ rfl), ((Only.refl _ _).alloc _).setRow (.inr (Nat.le_refl _)) _⟩
theorem EncPost.any {l : List Ent} {w w' : World} {e : Ending} (h : EncPost l w e w') : ∃ vb x, e = .returned (.tuple #[vb, .int .i64 x]) ∧ Only Non w w' ∧ OB w' w.heap.size vb (if fineB l then encL l else []) := by
  obtain ⟨hO, h | h⟩ := h
  · obtain ⟨hf, v', rfl, ho⟩ := h
    exact ⟨v', 0, rfl, hO, by rw [hf]; exact ho⟩
  · obtain ⟨hf, rfl⟩ := h
    exact ⟨_, 1, rfl, hO, by rw [hf]; exact ⟨rfl, .inl ⟨rfl, rfl⟩⟩⟩
theorem Bys.two {W : World} {va vb : Value} {xs ys : List UInt8} (ha : By Non W va xs) (hb : By Non W vb ys) (t : TypeId) :
    Bys Non (W.alloc (.cells #[va, vb] t)) (.slice (some ⟨W.heap.size, 0, none⟩) 2 2) [(va, xs), (vb, ys)] :=
  ⟨Rd.built Non W 1 2 #[va, vb] t _ rfl rfl (by omega) (fun _ h => h.elim), fun p hp => by
    simp only [List.mem_cons, List.mem_nil_iff, or_false] at hp
    rcases hp with rfl | rfl
    · exact ha.kept ((Only.refl _ _).alloc _)
    · exact hb.kept ((Only.refl _ _).alloc _)⟩
theorem encOr_len (l : List Ent) (h : ∀ hf : fineB l = true, (encL l).length ≤ 1200000) : (if fineB l then encL l else []).length ≤ 1200000 := by
  split
  · exact h ‹_›
  · simp

set_option maxRecDepth 100000 in
set_option maxHeartbeats 1000000 in
theorem Plan_ok (M : Nat → Prop) (w : World) (v : Value) (l : List Fil) (c n : Int) (hE : Env w) (hv : Fs M w v l) (hn : l.length ≤ 1000000) (ht : totD l ≤ 4000000) :
    Calls Tryd.prog 8 #[v, .int .i64 c, .int .i64 n] w (PlanPost l c n w) := by
  have hst := hv.st
  obtain ⟨A, cc, rfl, hc1, hc2, hc3⟩ := hst.open
  have HV := Lib.hid (hv.more (M' := Non) fun _ h => h.elim)
  have HE := Lib.hid hE
  clear hc1 hc2 hc3 hv hst hE
  have HZ := Lib.hid (heap_alloc_new w (.cells (planC 0 0 0 (bvs zD)).toArray 27))
  have HO0 := Lib.hid ((Only.refl Non w).alloc (.cells (planC 0 0 0 (bvs zD)).toArray 27))
  by_cases hy : whyE (entsOf 0 l) = 0
  · have HY := Lib.hid hy
    have hne : (whyE (entsOf 0 l) != 0) = false := by rw [bne_eq_false_iff_eq]; exact hy
    have HLN := Lib.hid (show (entsOf 0 l).length ≤ 1000000 by rw [entsOf_length]; exact hn)
    have HEL := Lib.hid (encOr_len (entsOf 0 l) (fun hf => encL_len hf))
    have HPD := Lib.hid (show planD l = digestB ((if fineB (entsOf 0 l) then encL (entsOf 0 l) else []) ++ streamB l) from rfl)
    have HSL := Lib.hid (stream_len ht)
    obtain ⟨EB, hEB⟩ : ∃ EB, EB = (if fineB (entsOf 0 l) then encL (entsOf 0 l) else []) := ⟨_, rfl⟩
    obtain ⟨SB, hSB⟩ : ∃ SB, SB = streamB l := ⟨_, rfl⟩
    have HEB := Lib.hid hEB
    have HSB := Lib.hid hSB
    rw [← HEB.out] at HPD HEL
    rw [← HSB.out] at HPD HSL
    clear hEB hSB
    clear hy
    go_enter Tryd.func8, Tryd.ntmps8
    go_wp2_with (first
      | (go_at_call 16; refine (Of_ok Non _ _ l (HE.out.non HO0.out) (HV.out.kept HO0.out) hn (by omega)).mono ?_; rintro e w1 ⟨v1, rfl, hO1, hs1, -⟩)
      | (go_at_call 17; refine (Encode_ok Non _ v1 (entsOf 0 l) (HE.out.non (HO0.out.trans hO1)) (hs1 HY.out) HLN.out).mono ?_; intro e w2 hp2; obtain ⟨v2, x2, rfl, hO2, ho2⟩ := hp2.any; rw [← HEB.out] at ho2; obtain ⟨A2, c2, rfl, hq1, hq2, hq3⟩ := ho2.non.open; have HO2 := Lib.hid ho2; clear hp2 hq1 hq2 hq3 ho2)
      | (go_at_call 18; refine (Total_ok Non _ v1 (entsOf 0 l) (HE.out.non ((HO0.out.trans hO1).trans hO2)) ((hs1 HY.out).kept hO2) HLN.out).mono ?_; rintro e w3 ⟨rfl, hO3⟩)
      | (go_at_call 11; refine (Stream_ok Non _ _ l (HE.out.non (((HO0.out.trans hO1).trans hO2).trans hO3)) (HV.out.kept (((HO0.out.trans hO1).trans hO2).trans hO3)) hn (by omega)).mono ?_; rintro e w4 ⟨v4, rfl, hO4, ho4⟩; rw [← HSB.out] at ho4; obtain ⟨A4, c4, rfl, hq1, hq2, hq3⟩ := ho4.non.open; have HO4 := Lib.hid ho4; clear hq1 hq2 hq3 ho4))
    have HOw := Lib.hid (((((HO0.out.trans hO1).trans hO2).trans hO3).trans hO4).alloc (.cells #[.slice A2 EB.length c2, .slice A4 SB.length c4] 33))
    refine (Digest_ok _ _ [(.slice A2 EB.length c2, EB), (.slice A4 SB.length c4, SB)] (HE.out.non HOw.out) (Bys.two ((HO2.out.non.kept hO3).kept hO4) HO4.out.non _) (by simp) (by have := HEL.out; have := HSL.out; simp only [catB, List.flatMap_cons, List.flatMap_nil, List.append_nil, List.length_append]; omega)).mono ?_
    rintro e w5 ⟨rfl, hO5⟩
    have hcat : catB [(Value.slice A2 EB.length c2, EB), (Value.slice A4 SB.length c4, SB)] = EB ++ SB := by simp [catB]
    rw [hcat, ← HPD.out]
    have HW5 := Lib.hid (HOw.out.trans hO5)
    have HZ5 := Lib.hid (((((hO1.trans hO2).trans hO3).trans hO4).alloc (.cells #[.slice A2 EB.length c2, .slice A4 SB.length c4] 33)).trans hO5 |>.heap HZ.out id)
    have HDL := Lib.hid (show (planD l).length = 32 from digestB_len _)
    have HPT := Lib.hid (show PlanPost l c n w = PlanPost l c n w from rfl)
    generalize hD : planD l = D at *
    have HD := Lib.hid hD
    have HBD := Lib.hid (show (bvs D).length = 32 by simp [bvs, HDL.out])
    clear hD hcat HPD HEL HSL HEB HSB HO2 HO4 HOw hO1 hO2 hO3 hO4 hO5 hs1
    unfold aggB
    generalize hT : totB (entsOf 0 l) = T at *
    have HT := Lib.hid hT
    clear hT
    have HP6 := Lib.hid (planRow (w5 := w5) (planC c n T (bvs D)).toArray)
    go_wp2_with (first
      | (refine wpList_load_row rfl 27 _ rfl _ rfl _ _ _ _ HP6.out.1 Tryd.underlying27 rfl (planC_size HBD.out) ?_)
      | (refine wpList_buildTo rfl 27 _ rfl _ rfl (planC c n T (bvs D)).toArray (by refine Eq.trans (congrArg (Tryd.prog.built 27) (?_ : _ = [(0, Value.int .i64 c), (1, Value.int .i64 n), (2, Value.int .i64 T), (3, Value.agg (bvs D).toArray)])) (built_plan c n T (bvs D) HBD.out); kernel_rfl) ?_)
      | (refine wpList_store_row rfl 27 _ _ rfl w5.heap.size (planC c n T (bvs D)).toArray rfl rfl _ (planC 0 0 0 (bvs zD)).toArray (heap_new _ _ _ rfl) (planC_size HBD.out) (by simp [planC, bvs, HDL.out, zD]) (planC_one _ _ _ _) ?_))
    refine (Body_ok c n T D HDL _).mono ?_
    intro e w7 hp7
    obtain ⟨hO7, vb, hcase⟩ := hp7.any
    have H7 := Lib.hid (HP6.out.2.trans hO7)
    have HA7 := Lib.hid (hO7.heap HP6.out.1 id)
    have HZ7 := Lib.hid (H7.out.heap HZ5.out id)
    clear hp7 hO7
    rcases hcase with ⟨hm, rfl⟩ | ⟨hm, rfl⟩
    · have HM := Lib.hid hm
      clear hm
      go_wp2_with (first
        | (refine wpList_load_row rfl 27 _ rfl _ rfl _ _ _ _ HA7.out Tryd.underlying27 rfl (planC_size HBD.out) ?_)
        | (refine wpList_store_row rfl 27 _ _ rfl w.heap.size (planC c n T (bvs D)).toArray rfl rfl _ (planC 0 0 0 (bvs zD)).toArray HZ7.out (planC_size HBD.out) (by simp [planC, bvs, HDL.out, zD]) (planC_one _ _ _ _) ?_))
      refine bodyPost_ret (results_cell_tmp rfl _ _ w.heap.size _ _ _ _ rfl (setRow_heap w7 w.heap.size _ _ _ _ HZ7.out) Tryd.underlying27 rfl (planC_size HBD.out)) rfl ?_
      exact ⟨(HW5.out.trans H7.out).setRow (.inr (Nat.le_refl _)) _, .inr (.inl ⟨HY.out, by rw [HT.out]; exact HM.out, by rw [HT.out, HD.out]; rfl⟩)⟩
    · have HM := Lib.hid hm
      clear hm
      go_wp2_with (refine wpList_store_row rfl 27 _ _ rfl w.heap.size (planC 0 0 0 (bvs zD)).toArray rfl rfl _ (planC 0 0 0 (bvs zD)).toArray HZ7.out zrow rfl (planC_one _ _ _ _) ?_)
      refine bodyPost_ret (results_cell_tmp rfl _ _ w.heap.size _ _ _ _ rfl (setRow_heap w7 w.heap.size _ _ _ _ HZ7.out) Tryd.underlying27 rfl zrow) rfl ?_
      exact ⟨(HW5.out.trans H7.out).setRow (.inr (Nat.le_refl _)) _, .inr (.inr ⟨HY.out, by rw [HT.out]; exact HM.out, rfl⟩)⟩
  · have HY := Lib.hid hy
    have hne : (whyE (entsOf 0 l) != 0) = true := by rw [bne_iff_ne]; exact hy
    clear hy
    go_enter Tryd.func8, Tryd.ntmps8
    go_wp2_with (first
      | (go_at_call 16; refine (Of_ok Non _ _ l (HE.out.non HO0.out) (HV.out.kept HO0.out) hn (by omega)).mono ?_; rintro e w1 ⟨v1, rfl, hO1, -, -⟩)
      | (refine wpList_store_row rfl 27 _ _ rfl w.heap.size (planC 0 0 0 (bvs zD)).toArray rfl rfl _ (planC 0 0 0 (bvs zD)).toArray (hO1.heap HZ.out id) zrow rfl (planC_one _ _ _ _) ?_))
    refine bodyPost_ret (results_cell_tmp rfl _ _ w.heap.size _ _ _ _ rfl (setRow_heap w1 w.heap.size _ _ _ _ (hO1.heap HZ.out id)) Tryd.underlying27 rfl zrow) rfl ?_
    exact ⟨(HO0.out.trans hO1).setRow (.inr (Nat.le_refl _)) _, .inl ⟨HY.out, rfl⟩⟩
end Go.Proofs.YtailcinidojdjaaDoor

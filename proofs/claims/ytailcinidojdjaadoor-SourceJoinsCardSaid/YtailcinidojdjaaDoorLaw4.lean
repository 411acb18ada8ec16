/- Part of this seat's proofs: contracts of functions of the program and plain lemmas, which the claim's theorem uses. -/
import Derived.Test.YtailcinidojdjaaDoorLaw3
import Derived.Test.YtailcinidojdjaaDoorLex
namespace Go.Proofs.YtailcinidojdjaaDoor
open Go Go.RowKit
set_option linter.unusedVariables false
set_option linter.unusedSimpArgs false
attribute [local go_sem] Oper.semAt_some

theorem listIn_load_row {F : Fence} {n : Nat} {P : Program} {ops : Array Oper} {rest : List Oper} {o : Oper} {a : Act} {w : World} {Q : Exit → Act → World → Prop} (hgd : o.guard = none) (ty : TypeId) (x : Operand) (ho : o.op = .load ty x)
    (g : Nat) (hx : a.eval x = .pointer (some ⟨g, 0, none⟩)) (t : TypeId) (cs : Array Value) (fr : Nat × Nat) (d : TypeDesc) (hg : w.heap[g]? = some (.cells cs t fr))
    (hu : P.underlying ty = some d) (hd : (match d with | .struct _ | .array _ _ => true | _ => false) = true) (hi : (P.info? ty).map (·.size) = some cs.size)
    (h : wpListIn F n P ops Q rest (a.put o.dst (.agg cs)) w) : wpListIn F n P ops Q (o :: rest) a w :=
  wpListIn_plain hgd fun K hK => ⟨fun f hf => by simp [Oper.about, ho] at hf, by
    rw [Oper.semAt_eq _ _ _ (by simp [ho])]
    simp only [execOp, ho, hx, Instr.loadAt, Instr.sureAddr, Sem.run_bind, Sem.run_pure, Result.andThen_ok, run_loadVar_row w g t ty cs fr d hg hu hd hi]
    exact hK _ _ h⟩

theorem Only.someOf {w w' : World} {a : Addr} (k : Only Non w w') (h : (w.cell? a).isSome = true) : (w'.cell? a).isSome = true := by
  obtain ⟨v, hv⟩ := Option.isSome_iff_exists.1 h
  rw [k.cellOf hv]
  rfl
theorem Only.frozenOf {w w' : World} {a : Addr} (k : Only Non w w') (h : (w.cell? a).isSome = true) (hf : w.frozen? a = false) : w'.frozen? a = false := by
  obtain ⟨v, hv⟩ := Option.isSome_iff_exists.1 h
  have hb := k.block a.block (World.block_lt_of_cell? _ _ hv) id
  unfold World.frozen? at hf ⊢
  rw [hb]
  exact hf
theorem Only.rangeOf {w w' : World} {b o : Nat} {cs : List Value} (k : Only Non w w') (h : w.rangeAt b o cs) : w'.rangeAt b o cs := fun j v hv => k.cellOf (h j v hv)
theorem plan_at {W : World} {b : Nat} {cs : List Value} (h : W.rangeAt b 0 cs) (j : Nat) (v : Value) (hv : cs[j]? = some v) : W.cell? ⟨b, j, none⟩ = some v := by
  have := h j v hv
  rwa [Nat.zero_add] at this
/-- what Plan tells of files that are let in -/
theorem in_plan {l : List Fil} {c : Nat} {w w' : World} {e : Ending} (hr : filOk l = true) (hf : fewB l = true) (h1 : 1 ≤ c) (h2 : c ≤ 65536) (h : PlanPost l (c : Int) 1 w e w') :
    Only Non w w' ∧ ∃ D : List UInt8, (bvs D).length = 32 ∧ e = .returned (.tuple #[.agg (planC (c : Int) 1 ((streamB l).length : Int) (bvs D)).toArray, .int .i64 0]) := by
  obtain ⟨q1, q2, q3, _⟩ := ok_stream hr
  have q4 := (few_facts hf).2
  obtain ⟨hO, ⟨h1', _⟩ | ⟨_, _, h3⟩ | ⟨_, h2', _⟩⟩ := h
  · exact absurd q3 h1'
  · rw [q2, ← q1] at h3
    exact ⟨hO, planD l, by simp [bvs, planD, digestB_len], h3⟩
  · rw [q2] at h2'
    exact absurd h2' (by simp only [mayB]; simp; omega)

/-- what holds between two rounds of SourceSizes: b4, b5: where the plan's box lies, where the two sums' boxes begin -/
def SzJ (w : World) (b4 b5 : Nat) (c T : Nat) (P : Array Value) (rec : Loop) (H : Nat → Prop) (k : Nat) (W : World) : Prop :=
  Only Non w W ∧ W.heap[w.heap.size]? = some (.cells #[.int .i64 (c : Int)] 3 (0, 0)) ∧ W.heap[w.heap.size + 1]? = some (.cells #[.bool false] 4 (0, 0)) ∧ W.heap[b4]? = some (.cells P 27 (0, 0)) ∧
    W.heap[b5]? = some (.cells #[.int .i64 ((min (k * c) T : Nat) : Int)] 3 (0, 0)) ∧ W.heap[b5 + 1]? = some (.cells #[.int .i64 (k : Int)] 3 (0, 0)) ∧ W.heap[b5 + 4]? = some (.deferred (some [])) ∧ W.heap[b5 + 4 + 1]? = some (.loop rec) ∧
    ∀ b, H b → b = b5 + 3 ∨ b5 + 6 ≤ b
theorem szj_step {w W1 W2 W3 : World} {b4 b5 c T : Nat} {P : Array Value} {rec : LoopState → Option Code → Loop} {H : Nat → Prop} {k m L : Nat} {a : Act} (hb : w.heap.size + 2 ≤ b4 ∧ b4 < b5) (hX : Only Non w W2)
    (hz : W2.heap[w.heap.size]? = some (.cells #[.int .i64 (c : Int)] 3 (0, 0)) ∧ W2.heap[w.heap.size + 1]? = some (.cells #[.bool false] 4 (0, 0)) ∧ W2.heap[b4]? = some (.cells P 27 (0, 0)) ∧
      W2.heap[b5]? = some (.cells #[.int .i64 (m : Int)] 3 (0, 0)) ∧ W2.heap[b5 + 1]? = some (.cells #[.int .i64 (k : Int)] 3 (0, 0)) ∧ W2.heap[b5 + 4]? = some (.deferred (some [])) ∧
      W2.heap[b5 + 4 + 1]? = some (.loop (rec .busy none)) ∧ Only (fun b => b = b5 + 4 + 1) W1 W2)
    (hO3 : Only Non W2 W3) (hH : ∀ b, H b → b = b5 + 3 ∨ b5 + 6 ≤ b) (hm : m + L = min ((k + 1) * c) T) :
    rndPost (b5 + 4 + 1) rec (fun e W' => e = .returned (.bool true) ∧ SzJ w b4 b5 c T P (rec .ready none) H (k + 1) W' ∧ Only (fun b => ¬ H b) W1 W' ∨ e = .returned (.bool false) ∧ False) .normal a
      ((W3.setCell ⟨b5, 0, none⟩ (.int .i64 ((m : Int) + (L : Int)))).setCell ⟨b5 + 1, 0, none⟩ (.int .i64 ((k : Int) + 1))) := by
  obtain ⟨z2, z3, z4, z5, z6, z7, z8, hO2⟩ := hz
  have q5 := hO3.heap z5 id
  have hS1 : Only (fun b => b = b5) W3 (W3.setCell ⟨b5, 0, none⟩ (.int .i64 ((m : Int) + (L : Int)))) := (Only.refl (fun b => b = b5) _).setCell (.inl rfl) _
  have q5' := one_setCell (u := .int .i64 ((m : Int) + (L : Int))) q5
  generalize W3.setCell ⟨b5, 0, none⟩ (.int .i64 ((m : Int) + (L : Int))) = W4 at *
  have hS2 : Only (fun b => b = b5 + 1) W4 (W4.setCell ⟨b5 + 1, 0, none⟩ (.int .i64 ((k : Int) + 1))) := (Only.refl (fun b => b = b5 + 1) _).setCell (.inl rfl) _
  have q6 := one_setCell (u := .int .i64 ((k : Int) + 1)) (hS1.heap (hO3.heap z6 id) (by omega))
  generalize W4.setCell ⟨b5 + 1, 0, none⟩ (.int .i64 ((k : Int) + 1)) = W5 at *
  have hz8 : W5.heap[b5 + 4 + 1]? = some (.loop (rec .busy none)) := hS2.heap (hS1.heap (hO3.heap z8 id) (by omega)) (by omega)
  refine ⟨hz8, .inl ⟨rfl, ?_, ?_⟩⟩
  · have hlt := lt_of_block hz8
    have hS3 : Only (fun b => b = b5 + 4 + 1) W5 (W5.putObj (b5 + 4 + 1) (.loop (rec .ready none))) := (Only.refl (fun b => b = b5 + 4 + 1) _).putObj (.inl rfl) _
    have hr := World.putObj_heap_same (w := W5) (o := .loop (rec .ready none)) hlt
    generalize W5.putObj (b5 + 4 + 1) (.loop (rec .ready none)) = W6 at *
    have hall : Only Non w W6 := (((hX.trans hO3).step hS1 (fun b hb' => by subst hb'; exact .inr (by omega))).step hS2 (fun b hb' => by subst hb'; exact .inr (by omega))).step hS3 (fun b hb' => by subst hb'; exact .inr (by omega))
    refine ⟨hall, ?_, ?_, ?_, ?_, ?_, ?_, hr, hH⟩
    · exact hS3.heap (hS2.heap (hS1.heap (hO3.heap z2 id) (by omega)) (by omega)) (by omega)
    · exact hS3.heap (hS2.heap (hS1.heap (hO3.heap z3 id) (by omega)) (by omega)) (by omega)
    · exact hS3.heap (hS2.heap (hS1.heap (hO3.heap z4 id) (by omega)) (by omega)) (by omega)
    · rw [← hm]
      exact hS3.heap (hS2.heap q5' (by omega)) (by omega)
    · exact hS3.heap q6 (by omega)
    · exact hS3.heap (hS2.heap (hS1.heap (hO3.heap z7 id) (by omega)) (by omega)) (by omega)
  · have hS3 : Only (fun b => b = b5 + 4 + 1) W5 (W5.putObj (b5 + 4 + 1) (.loop (rec .ready none))) := (Only.refl (fun b => b = b5 + 4 + 1) _).putObj (.inl rfl) _
    have hn : ∀ b, (b = b5 + 4 + 1 ∨ b = b5 ∨ b = b5 + 1) → ¬ H b := fun b hb' h => by
      have := hH b h
      omega
    exact ((((hO2.mono (S' := fun b => ¬ H b) fun b _ hb' => hn b (.inl hb')).then_ hO3).step hS1 (fun b hb' => .inl (hn b (.inr (.inl hb'))))).step hS2 (fun b hb' => .inl (hn b (.inr (.inr hb'))))).step hS3 (fun b hb' => .inl (hn b (.inl hb')))
theorem can_Chunks1 : CanCall 21 := fun _ _ => by kernel_rfl

set_option maxRecDepth 100000 in
set_option maxHeartbeats 2000000 in
theorem Sizes_in (w : World) (v : Value) (l : List Fil) (c : Nat) (hE : Env w) (hv : Fs Non w v l) (hf : fewB l = true) (h1 : 1 ≤ c) (h2 : c ≤ 65536) (hr : filOk l = true) :
    Calls Tryd.prog 3 #[v, .int .i64 (c : Int)] w fun e w' => e = .returned (.bool true) ∧ Only Non w w' := by
  have hst := hv.st
  obtain ⟨A, cc, rfl, hc1, hc2, hc3⟩ := hst.open
  have HV := Lib.hid hv
  have HE := Lib.hid hE
  clear hc1 hc2 hc3 hv hst hE
  obtain ⟨hO0, hb3, hb4⟩ := sizesW_facts w (c : Int)
  have HO0 := Lib.hid hO0
  have HB3 := Lib.hid hb3
  have HB4 := Lib.hid hb4
  have HF := Lib.hid hf
  have HR := Lib.hid hr
  have hff := few_facts hf
  have HFF := Lib.hid (show l.length ≤ 1000000 ∧ totD l ≤ 2400 from ⟨by omega, by omega⟩)
  have HC := Lib.hid (And.intro h1 h2)
  have g1 : decide ((c : Int) < 1) = false := by rw [decide_eq_false_iff_not]; omega
  have g2 : decide ((c : Int) > 65536) = false := by rw [decide_eq_false_iff_not]; omega
  clear hO0 hb3 hb4 hff hf h1 h2 hr
  refine calls_of_marks Tryd.func3 rfl ?_
  simp only [Tryd.ntmps3, List.size_toArray, List.length_cons, List.length_nil, Nat.reduceAdd, Nat.reduceSub, Array.replicate_succ, Array.replicate_zero, List.push_toArray, List.append_toArray, List.nil_append, List.cons_append]
  go_wp2_with (first
    | (go_at_call 5; refine (Few_ok Non _ _ l (HV.out.kept HO0.out)).mono ?_; rintro e w1 ⟨rfl, hO1⟩; rw [HF.out]; have b3 := (box_cell HB3.out hO1).1)
    | (go_at_call 6; refine (ERight_ok Non _ _ l (HE.out.non (HO0.out.trans hO1)) (HV.out.kept (HO0.out.trans hO1)) HFF.out.1 (by have := HFF.out.2; omega)).mono ?_; rintro e w3 ⟨rfl, hO3⟩; rw [show (whyE (entsOf 0 l) == 0) = true from HR.out]; have b3' := (box_cell HB3.out (hO1.trans hO3)).1)
    | (go_at_call 8; refine (Plan_ok Non _ _ l (c : Int) 1 (HE.out.non ((HO0.out.trans hO1).trans hO3)) (HV.out.kept ((HO0.out.trans hO1).trans hO3)) HFF.out.1 (by have := HFF.out.2; omega)).mono ?_; intro e w4 hp; obtain ⟨hO4, D, hD, rfl⟩ := in_plan HR.out HF.out HC.out.1 HC.out.2 hp; have HO4 := Lib.hid ((hO1.trans hO3).trans hO4); have HD := Lib.hid hD; have HP6 := Lib.hid (planRow (w5 := w4) (planC (c : Int) 1 ((streamB l).length : Int) (bvs D)).toArray); clear hp hO1 hO3 hO4 hD b3 b3')
    | (refine wpList_store_row rfl 27 _ _ rfl w4.heap.size (planC (c : Int) 1 ((streamB l).length : Int) (bvs D)).toArray rfl rfl _ (planC 0 0 0 (bvs zD)).toArray (heap_new _ _ _ rfl) (planC_size HD.out) (by have := HD.out; simp [bvs] at this; simp [planC, bvs, this, zD]) (planC_one _ _ _ _) ?_; refine wpList_name ?_; intro w5 hw5; have hP6 := HP6.out; clear HP6; rw [show (w4.alloc (.cells (planC 0 0 0 (bvs zD)).toArray 27)).setRow w4.heap.size (planC (c : Int) 1 ((streamB l).length : Int) (bvs D)).toArray = w5 from hw5.symm] at hP6; have HP5 := Lib.hid hP6.1; have HO5 := Lib.hid (HO4.out.trans hP6.2); have HZ := Lib.hid (And.intro (show w.heap.size + 2 ≤ w4.heap.size by have := HO4.out.size; simpa [sizesW] using this) (lt_of_block HP5.out)); clear hw5 hP6 HO4)
    | (refine wpList_load_row rfl 27 _ rfl _ rfl _ _ _ _ (Only.heap (((Only.refl Non w5).alloc _).alloc _) HP5.out id) Tryd.underlying27 rfl (planC_size HD.out) ?_))
  refine (Chunks_ok _ _ _ _ _).mono ?_
  rintro e w7 ⟨rfl, rfl⟩
  have h75 : Only Non w5 (boxedW ((w5.alloc (.cells #[.int .i64 0] 3)).alloc (.cells #[.int .i64 0] 3)) (.slice A l.length cc) (planC (c : Int) 1 ((streamB l).length : Int) (bvs D)).toArray) := ((((Only.refl _ _).alloc _).alloc _).alloc _).alloc _
  have h7 := (HO0.out.trans HO5.out).trans h75
  have B3 := (HO5.out.trans h75).heap HB3.out id
  have B4 := (HO5.out.trans h75).heap HB4.out id
  have B5 := h75.heap HP5.out id
  have B7 : (boxedW ((w5.alloc (.cells #[.int .i64 0] 3)).alloc (.cells #[.int .i64 0] 3)) (.slice A l.length cc) (planC (c : Int) 1 ((streamB l).length : Int) (bvs D)).toArray).heap[w5.heap.size]? = some (.cells #[.int .i64 0] 3 (0, 0)) :=
    heap_keep (heap_keep (heap_keep (heap_new _ _ _ rfl) _) _) _
  have B8 : (boxedW ((w5.alloc (.cells #[.int .i64 0] 3)).alloc (.cells #[.int .i64 0] 3)) (.slice A l.length cc) (planC (c : Int) 1 ((streamB l).length : Int) (bvs D)).toArray).heap[w5.heap.size + 1]? = some (.cells #[.int .i64 0] 3 (0, 0)) :=
    heap_keep (heap_keep (heap_new _ _ _ (by simp)) _) _
  have BF : (boxedW ((w5.alloc (.cells #[.int .i64 0] 3)).alloc (.cells #[.int .i64 0] 3)) (.slice A l.length cc) (planC (c : Int) 1 ((streamB l).length : Int) (bvs D)).toArray).heap[w5.heap.size + 1 + 1]? = some (.cells #[.slice A l.length cc] 22 (0, 0)) :=
    heap_keep (heap_new _ _ _ (by simp)) _
  have BP : (boxedW ((w5.alloc (.cells #[.int .i64 0] 3)).alloc (.cells #[.int .i64 0] 3)) (.slice A l.length cc) (planC (c : Int) 1 ((streamB l).length : Int) (bvs D)).toArray).heap[w5.heap.size + 1 + 1 + 1]? = some (.cells (planC (c : Int) 1 ((streamB l).length : Int) (bvs D)).toArray 27 (0, 0)) :=
    heap_new _ _ _ (by simp)
  have SZ : (boxedW ((w5.alloc (.cells #[.int .i64 0] 3)).alloc (.cells #[.int .i64 0] 3)) (.slice A l.length cc) (planC (c : Int) 1 ((streamB l).length : Int) (bvs D)).toArray).heap.size = w5.heap.size + 4 := by simp [boxedW]
  have hsz : ((w5.alloc (.cells #[.int .i64 0] 3)).alloc (.cells #[.int .i64 0] 3)).heap.size = w5.heap.size + 1 + 1 := by simp
  rw [hsz]
  generalize boxedW ((w5.alloc (.cells #[.int .i64 0] 3)).alloc (.cells #[.int .i64 0] 3)) (.slice A l.length cc) (planC (c : Int) 1 ((streamB l).length : Int) (bvs D)).toArray = w7 at *
  have H7 := Lib.hid h7
  have HW75 := Lib.hid h75
  have HB := Lib.hid (And.intro B3 (And.intro B4 (And.intro B5 (And.intro B7 (And.intro B8 (And.intro BF BP))))))
  have HSZ := Lib.hid SZ
  clear h75 h7 B3 B4 B5 B7 B8 BF BP SZ hsz HB3 HB4 HP5
  obtain ⟨T, hT⟩ : ∃ T, T = (streamB l).length := ⟨_, rfl⟩
  rw [← hT] at HB
  rw [← hT]
  have HT := Lib.hid hT
  have HTB := Lib.hid (show T ≤ 2400 by rw [hT, (ok_stream HR.out).1]; exact HFF.out.2)
  clear hT
  go_wp2
  refine wp_range rfl can_Chunks1 ?_
  intro fn rec hrec
  rw [HSZ.out] at hrec ⊢
  have HREC := Lib.hid hrec
  clear hrec
  obtain ⟨x3, x4, x5, x7, x8, xF, xP⟩ := HB.out
  have hOL := loopW_only w7 (rec .ready none)
  have hLd := loopW_def w7 (rec .ready none)
  have hLr := loopW_rec w7 (rec .ready none)
  have hLs := loopW_size w7 (rec .ready none)
  rw [HSZ.out] at hLd hLr hLs
  refine (Chunks1_gives _ _ _ _ l (c : Int) 1 D HD ?_ ?_ HFF.out.1 (by have := HFF.out.2; omega) _ _ _ (hOL.heap xF id) (by rw [← HT.out]; exact hOL.heap xP id) (segN c T) (by rw [← HT.out]; exact segs_N c T HC.out.1 HC.out.2 (by have := HTB.out; omega)) _
    (SzJ w w4.heap.size w5.heap.size c T (planC (c : Int) 1 (T : Int) (bvs D)).toArray (rec .ready none)) (fun _ => False) ?_ ?_).mono ?_
  · exact HE.out.non ((((HO0.out.trans HO5.out)).trans HW75.out).trans hOL)
  · exact HV.out.kept ((((HO0.out.trans HO5.out)).trans HW75.out).trans hOL)
  · intro H W hO hH
    refine ⟨(H7.out.trans hOL).trans hO, (hOL.trans hO).heap x3 id, (hOL.trans hO).heap x4 id, (hOL.trans hO).heap x5 id, ?_, (hOL.trans hO).heap x8 id, hO.heap hLd id, hO.heap hLr id, ?_⟩
    · rw [Nat.zero_mul, Nat.zero_min]
      exact (hOL.trans hO).heap x7 id
    · intro b hb
      rcases (hH b hb).2 with rfl | h
      · exact .inl rfl
      · rw [hLs] at h
        exact .inr (by omega)
  · intro H k u W W1 hk hJ hHB hO hob
    obtain ⟨A', cu, rfl, _, _, _⟩ := hob.non.open
    have hcr := cut_round (b := streamB l) (c := c) (k := k) HC.out.1 (by rw [← HT.out]; exact hk)
    have hmm := seg_lt (c := c) (T := T) (k := k) HC.out.1
    have hcl := cut_len (streamB l) c k
    rw [← HT.out] at hcr hcl
    have hcn : ((c : Int)).toNat = c := Int.toNat_natCast c
    rw [hcn] at hob ⊢
    obtain ⟨j1, j2, j3, j4, j5, j6, j7, j8, j9⟩ := hJ
    have HJ := Lib.hid (And.intro (j1.trans hO) (And.intro (hO.heap j2 id) (And.intro (hO.heap j3 id) (And.intro (hO.heap j4 id) (And.intro (hO.heap j5 id) (And.intro (hO.heap j6 id) (And.intro (hO.heap j7 id) (And.intro (hO.heap j8 id) j9))))))))
    clear j1 j2 j3 j4 j5 j6 j7 j8 j9 hOL hLd hLr x3 x4 x5 x7 x8 xF xP hob
    generalize (cutB (streamB l) c k).length = L at hcr hcl ⊢
    have HCR := Lib.hid hcr
    have HMM0 := Lib.hid hmm
    clear hcr hmm hcl
    refine yield_at HREC.out HJ.out.2.2.2.2.2.2.2.1 rfl ?a1 ?assign ?body
    case assign =>
      intro K hK
      gi_wp2
      exact hK
    case body =>
      intro W2 hW2
      obtain ⟨y1, y2, y3, y4, y5, y6, y7, y8, y9⟩ := HJ.out
      have hzz := HZ.out
      have hcr := HCR.out
      have hmm := HMM0.out
      clear HCR HMM0
      have hlt1 := lt_of_block y8
      have hO2 : Only (fun b => b = w5.heap.size + 4 + 1) W1 W2 := by rw [hW2]; exact (Only.refl (fun b => b = w5.heap.size + 4 + 1) _).putObj (.inl rfl) _
      have z2 := hO2.heap y2 (by omega)
      have z3 := hO2.heap y3 (by omega)
      have z4 := hO2.heap y4 (by omega)
      have z5 := hO2.heap y5 (by omega)
      have z6 := hO2.heap y6 (by omega)
      have z7 := hO2.heap y7 (by omega)
      have z8 : W2.heap[w5.heap.size + 4 + 1]? = some (.loop (rec .busy none)) := by rw [hW2]; exact World.putObj_heap_same hlt1
      have HX := Lib.hid (show Only Non w W2 by rw [hW2]; exact y1.putObj (.inr (by omega)) _)
      have hq : ((k : Nat) : Int) * (c : Int) = ((k * c : Nat) : Int) := by rw [Int.natCast_mul]
      have hN0 := hk
      have hN1 : segN c T ≤ 2400 := by
        rcases Nat.lt_or_ge 2400 (segN c T) with h | h
        · have h' := (seg_lt (k := 2400) HC.out.1).1 h
          have := HTB.out
          have := HC.out.1
          have : 2400 * 1 ≤ 2400 * c := Nat.mul_le_mul_left _ (by omega)
          omega
        · exact h
      have hTB := HTB.out
      have hSG := segs_N c T HC.out.1 HC.out.2 (by omega)
      have HSG := Lib.hid hSG
      have hmb : min (k * c) T ≤ 2400 := by omega
      have hkc : k * c < T := hmm.1 hk
      generalize hNN : segN c T = N at *
      have HMM := Lib.hid hcr.2.2
      generalize hqq : k * c = q at *
      generalize hmq : min q T = m at *
      have HZ2 := Lib.hid (And.intro z2 (And.intro z3 (And.intro z4 (And.intro z5 (And.intro z6 (And.intro z7 (And.intro z8 hO2)))))))
      have c3 := cell_of_one z2
      have c5 := plan_cells z4
      have c7 := cell_of_one z5
      have f7 := free_of_one z5
      have c8 := cell_of_one z6
      have f8 := free_of_one z6
      obtain ⟨p0, p1, p2⟩ := c5
      have HL1 := Lib.hid hcr.2.1
      have HKN := Lib.hid (And.intro hNN (And.intro hqq hmq))
      clear hW2 y1 y2 y3 y4 y5 y6 y7 y8 y9 z2 z3 z4 z5 z6 z7 z8 hO2 hSG hmm hNN hqq hmq
      by_cases he : (k : Int) = (N : Int) - 1
      · have e1 : ((k : Int) == (N : Int) - 1) = true := beq_iff_eq.2 he
        rw [if_pos he] at hcr
        rw [hq] at hcr
        have g3 : ((L : Int) != (T : Int) - (q : Int)) = false := by rw [bne_eq_false_iff_eq]; exact hcr.1
        have g4 : decide ((T : Int) - (q : Int) < 1) = false := by rw [decide_eq_false_iff_not]; omega
        have HL := Lib.hid hcr.1
        have hL4 : L ≤ 2400 := by omega
        clear he hcr
        gi_wp2_with (refine listIn_load_row rfl 27 _ rfl _ rfl _ _ _ _ HZ2.out.2.2.1 Tryd.underlying27 rfl (planC_size HD.out) ?_)
        refine ⟨trivial, rfl, (calls_in (Segments_ok (c : Int) 1 (T : Int) (bvs D) HD _)).mono ?_⟩
        rintro e W3 ⟨rfl, hO3⟩
        rw [HSG.out]
        have c3' := hO3.cellOf c3
        have p2' := hO3.cellOf p2
        have d7 := box_cell HZ2.out.2.2.2.1 hO3
        have d8 := box_cell HZ2.out.2.2.2.2.1 hO3
        have HO3 := Lib.hid hO3
        clear hO3
        gi_wp2
        exact szj_step HZ.out HX.out HZ2.out HO3.out HJ.out.2.2.2.2.2.2.2.2 HMM.out
      · have e1 : ((k : Int) == (N : Int) - 1) = false := beq_eq_false_iff_ne.2 he
        rw [if_neg he] at hcr
        have g3 : ((L : Int) != (c : Int)) = false := by rw [bne_eq_false_iff_eq]; exact hcr.1
        have hL4 : L ≤ 65536 := by have := HC.out.2; omega
        have HL := Lib.hid hcr.1
        clear he hcr
        gi_wp2_with (refine listIn_load_row rfl 27 _ rfl _ rfl _ _ _ _ HZ2.out.2.2.1 Tryd.underlying27 rfl (planC_size HD.out) ?_)
        refine ⟨trivial, rfl, (calls_in (Segments_ok (c : Int) 1 (T : Int) (bvs D) HD _)).mono ?_⟩
        rintro e W3 ⟨rfl, hO3⟩
        rw [HSG.out]
        have c3' := hO3.cellOf c3
        have d7 := box_cell HZ2.out.2.2.2.1 hO3
        have d8 := box_cell HZ2.out.2.2.2.2.1 hO3
        have HO3 := Lib.hid hO3
        clear hO3
        gi_wp2
        exact szj_step HZ.out HX.out HZ2.out HO3.out HJ.out.2.2.2.2.2.2.2.2 HMM.out
  · rintro e W ⟨⟨u, rfl⟩, ⟨H, hJ⟩ | h⟩
    · obtain ⟨j1, j2, j3, j4, j5, j6, j7, j8, j9⟩ := hJ
      refine ⟨⟨_, rfl⟩, .inl ⟨j8, fun W' hW' => ?_⟩⟩
      have hzz := HZ.out
      have hlt1 := lt_of_block j8
      have hO2 : Only (fun b => b = w5.heap.size + 4 + 1) W W' := by rw [hW']; exact (Only.refl (fun b => b = w5.heap.size + 4 + 1) _).putObj (.inl rfl) _
      have z2 := hO2.heap j2 (by omega)
      have z3 := hO2.heap j3 (by omega)
      have z4 := hO2.heap j4 (by omega)
      have z5 := hO2.heap j5 (by omega)
      have z6 := hO2.heap j6 (by omega)
      have z7 := hO2.heap j7 (by omega)
      have hX : Only Non w W' := by rw [hW']; exact j1.putObj (.inr (by omega)) _
      have hse := seg_end (c := c) (T := T) HC.out.1
      rw [hse.1] at z5
      have HSE := Lib.hid hse.2
      have hSG := segs_N c T HC.out.1 HC.out.2 (by have := HTB.out; omega)
      have HSG := Lib.hid hSG
      have hTB := HTB.out
      generalize segN c T = N at *
      have c3 := cell_of_one z2
      have c4 := cell_of_one z3
      have f4 := free_of_one z3
      have p2 := (plan_cells z4).2.2
      have hrg : W'.rangeAt w4.heap.size 0 (planC (c : Int) 1 (T : Int) (bvs D)) := fun j v hv => by rw [cell_of_row _ _ _ _ _ _ z4]; simpa using hv
      have c7 := cell_of_one z5
      have c8 := cell_of_one z6
      have HX := Lib.hid hX
      clear hW' j1 j2 j3 j4 j5 j6 j7 j8 j9 hO2 hlt1 hse hSG hOL hLd hLr hLs x3 x4 x5 x7 x8 xF xP hTB
      have hE' := Lib.hid (HE.out.non HX.out)
      clear HREC HB HV HE HO0 HF HR HFF g1 g2 HO5 H7 HW75 HT c3 c4 f4 p2 hrg c7 c8
      obtain ⟨S, hSd⟩ : ∃ S : World → Prop, S = Only (fun b => b = w.heap.size + 1) W' := ⟨_, rfl⟩
      have HS := Lib.hid hSd
      have HZ0 := Lib.hid (show S W'.drew by rw [hSd]; exact (Only.refl _ _).drew)
      have c3 : ∀ X, S X → X.cell? ⟨w.heap.size, 0, none⟩ = some (.int .i64 (c : Int)) := fun X hX => by rw [hSd] at hX; exact cell_of_one (hX.heap z2 (by omega))
      have p2 : ∀ X, S X → X.cell? ⟨w4.heap.size, 2, none⟩ = some (.int .i64 (T : Int)) := fun X hX => by rw [hSd] at hX; exact (plan_cells (hX.heap z4 (by omega))).2.2
      have HP := Lib.hid (show ∀ X, S X → X.heap[w4.heap.size]? = some (.cells (planC (c : Int) 1 (T : Int) (bvs D)).toArray 27 (0, 0)) from fun X hX => by rw [hSd] at hX; exact hX.heap z4 (by omega))
      have c7 : ∀ X, S X → X.cell? ⟨w5.heap.size, 0, none⟩ = some (.int .i64 (T : Int)) := fun X hX => by rw [hSd] at hX; exact cell_of_one (hX.heap z5 (by omega))
      have c8 : ∀ X, S X → X.cell? ⟨w5.heap.size + 1, 0, none⟩ = some (.int .i64 (N : Int)) := fun X hX => by rw [hSd] at hX; exact cell_of_one (hX.heap z6 (by omega))
      have HZ3 := Lib.hid z3
      have HZ7 := Lib.hid z7
      have HX' := Lib.hid hX
      clear hSd z2 z3 z4 z5 z6 z7 hX
      have eT : ((T : Int) == (T : Int)) = true := beq_self_eq_true _
      have eN : ((N : Int) == (N : Int)) = true := beq_self_eq_true _
      by_cases hgt : c < T
      · have g3 : decide ((T : Int) > (c : Int)) = true := by rw [decide_eq_true_iff]; omega
        have g5 : decide ((c : Int) < (T : Int)) = true := by rw [decide_eq_true_iff]; omega
        clear HSE
        go_wp2_with fail
        refine wp_region_lex S [(true, 0), (true, 1), (true, 2), (true, 3), (true, 4), (true, 5), (true, 6), (true, 7), (true, 8), (true, 9), (true, 10), (false, 11), (true, 12), (true, 13), (true, 14), (true, 15), (true, 16), (true, 17), (true, 18), (true, 19), (true, 20), (true, 21), (true, 22), (true, 23), (true, 24), (false, 25), (true, 26), (false, 27)]
          (by kernel_rfl) (by kernel_rfl) HZ0.out ?_
        iterate 10 (refine' lexT (o := _) (v := _) ?_ (by kernel_rfl) ?_ ?_; rotate_left; rotate_left; (focus (simp only [List.getElem?_toArray, List.getElem?_cons_succ, List.getElem?_cons_zero]; rfl)); (focus (intro W hW; (have q1 := c3 W hW; have q2 := p2 W hW; have q3 := c7 W hW; have q4 := c8 W hW); go_simp; all_goals with_reducible rfl)); simp only [Act.put, List.setIfInBounds_toArray, List.set_cons_zero, List.set_cons_succ])
        (refine' lexT (o := _) (v := _) ?_ (by kernel_rfl) ?_ ?_; rotate_left; rotate_left; (focus (simp only [List.getElem?_toArray, List.getElem?_cons_succ, List.getElem?_cons_zero]; rfl)); (focus (intro W hW; refine' row_exec 27 _ ?_ _ ?_ _ _ _ _ (HP.out W hW) Tryd.underlying27 rfl (planC_size HD.out); rotate_left; (focus rfl); (focus rfl))); simp only [Act.put, List.setIfInBounds_toArray, List.set_cons_zero, List.set_cons_succ])
        (refine' lexC (o := _) ?_ (by kernel_rfl) ?_; rotate_left; (focus (simp only [List.getElem?_toArray, List.getElem?_cons_succ, List.getElem?_cons_zero]; rfl)); intro K HK; go_wp2_with (go_at_call 10; refine (Segments_ok (c : Int) 1 (T : Int) (bvs D) HD _).mono ?_; rintro e W3 ⟨rfl, hN⟩; rw [HSG.out]))
        refine HK.out _ _ (by rw [HS.out]; exact (Only.refl _ _).drew.then_ hN) ?_
        clear HK
        try simp only [Act.put, List.setIfInBounds_toArray, List.set_cons_zero, List.set_cons_succ]
        iterate 8 (refine' lexT (o := _) (v := _) ?_ (by kernel_rfl) ?_ ?_; rotate_left; rotate_left; (focus (simp only [List.getElem?_toArray, List.getElem?_cons_succ, List.getElem?_cons_zero]; rfl)); (focus (intro W hW; (have q1 := c3 W hW; have q2 := p2 W hW; have q3 := c7 W hW; have q4 := c8 W hW); go_simp; all_goals with_reducible rfl)); simp only [Act.put, List.setIfInBounds_toArray, List.set_cons_zero, List.set_cons_succ])
        (refine' lexU (o := _) ?_ (by kernel_rfl) ?_; rotate_left; (focus (simp only [List.getElem?_toArray, List.getElem?_cons_succ, List.getElem?_cons_zero]; rfl)); simp only [Act.put, List.setIfInBounds_toArray, List.set_cons_zero, List.set_cons_succ])
        (refine' lexU (o := _) ?_ (by kernel_rfl) ?_; rotate_left; (focus (simp only [List.getElem?_toArray, List.getElem?_cons_succ, List.getElem?_cons_zero]; rfl)); simp only [Act.put, List.setIfInBounds_toArray, List.set_cons_zero, List.set_cons_succ])
        iterate 3 (refine' lexT (o := _) (v := _) ?_ (by kernel_rfl) ?_ ?_; rotate_left; rotate_left; (focus (simp only [List.getElem?_toArray, List.getElem?_cons_succ, List.getElem?_cons_zero]; rfl)); (focus (intro W hW; (have q1 := c3 W hW; have q2 := p2 W hW; have q3 := c7 W hW; have q4 := c8 W hW); go_simp; all_goals with_reducible rfl)); simp only [Act.put, List.setIfInBounds_toArray, List.set_cons_zero, List.set_cons_succ])
        (refine' lexC (o := _) ?_ (by kernel_rfl) ?_; rotate_left; (focus (simp only [List.getElem?_toArray, List.getElem?_cons_succ, List.getElem?_cons_zero]; rfl)); intro K HK; go_wp2_with (go_at_call 7; refine (awake_ok _ (hE'.out.non ((Only.refl _ _).drew.trans hN))).mono ?_; rintro e W4 ⟨rfl, hN4⟩))
        refine HK.out _ _ (by rw [HS.out]; exact ((Only.refl _ _).drew.then_ hN).then_ hN4) ?_
        clear HK
        try simp only [Act.put, List.setIfInBounds_toArray, List.set_cons_zero, List.set_cons_succ]
        iterate 1 (refine' lexT (o := _) (v := _) ?_ (by kernel_rfl) ?_ ?_; rotate_left; rotate_left; (focus (simp only [List.getElem?_toArray, List.getElem?_cons_succ, List.getElem?_cons_zero]; rfl)); (focus (intro W hW; (have q1 := c3 W hW; have q2 := p2 W hW; have q3 := c7 W hW; have q4 := c8 W hW); go_simp; all_goals with_reducible rfl)); simp only [Act.put, List.setIfInBounds_toArray, List.set_cons_zero, List.set_cons_succ])
        have b4 := box_cell HZ3.out (((Only.refl _ _).drew.trans hN).trans hN4)
        (refine' lexC (o := _) ?_ (by kernel_rfl) ?_; rotate_left; (focus (simp only [List.getElem?_toArray, List.getElem?_cons_succ, List.getElem?_cons_zero]; rfl)); intro K HK; go_wp2_with fail)
        refine HK.out _ _ (by rw [HS.out]; exact (((Only.refl (fun b => b = w.heap.size + 1) _).drew.then_ hN).then_ hN4).setCell (.inl rfl) _) ?_
        clear HK
        refine lexNil ?_
        go_wp2
        have hb4 := one_setCell (u := .bool true) (((((Only.refl Non W').drew.trans hN).trans hN4)).heap HZ3.out id)
        have hO5 : Only (fun b => b = w.heap.size + 1) W' (W4.setCell ⟨w.heap.size + 1, 0, none⟩ (.bool true)) := (((Only.refl (fun b => b = w.heap.size + 1) _).drew.then_ hN).then_ hN4).setCell (.inl rfl) _
        generalize W4.setCell ⟨w.heap.size + 1, 0, none⟩ (.bool true) = W5 at *
        refine leave_mark (hO5.heap HZ7.out (by omega)) ?_
        have hP : Only (fun b => b = w5.heap.size + 4) W5 (W5.putObj (w5.heap.size + 4) (.deferred none)) := (Only.refl (fun b => b = w5.heap.size + 4) _).putObj (.inl rfl) _
        exact ⟨_, results_bool rfl _ _ (w.heap.size + 1) true rfl (cell_of_one (hP.heap hb4 (by omega))), rfl, (HX'.out.step hO5 (fun b hb => .inr (by omega))).step hP (fun b hb => .inr (by omega))⟩
      · have g3 : decide ((T : Int) > (c : Int)) = false := by rw [decide_eq_false_iff_not]; omega
        have g5 : decide ((c : Int) < (T : Int)) = false := by rw [decide_eq_false_iff_not]; omega
        have g6 : decide ((N : Int) ≤ 1) = true := by rw [decide_eq_true_iff]; have := HSE.out (by omega); omega
        have hle : ¬ c < T := hgt
        clear HSE
        go_wp2_with fail
        refine wp_region_lex S [(true, 0), (true, 1), (true, 2), (true, 3), (true, 4), (true, 5), (true, 6), (true, 7), (true, 8), (true, 9), (true, 10), (false, 11), (true, 12), (true, 13), (true, 14), (true, 15), (true, 16), (true, 17), (true, 18), (true, 19), (true, 20), (true, 21), (true, 22), (true, 23), (true, 24), (false, 25), (true, 26), (false, 27)]
          (by kernel_rfl) (by kernel_rfl) HZ0.out ?_
        iterate 10 (refine' lexT (o := _) (v := _) ?_ (by kernel_rfl) ?_ ?_; rotate_left; rotate_left; (focus (simp only [List.getElem?_toArray, List.getElem?_cons_succ, List.getElem?_cons_zero]; rfl)); (focus (intro W hW; (have q1 := c3 W hW; have q2 := p2 W hW; have q3 := c7 W hW; have q4 := c8 W hW); go_simp; all_goals with_reducible rfl)); simp only [Act.put, List.setIfInBounds_toArray, List.set_cons_zero, List.set_cons_succ])
        (refine' lexT (o := _) (v := _) ?_ (by kernel_rfl) ?_ ?_; rotate_left; rotate_left; (focus (simp only [List.getElem?_toArray, List.getElem?_cons_succ, List.getElem?_cons_zero]; rfl)); (focus (intro W hW; refine' row_exec 27 _ ?_ _ ?_ _ _ _ _ (HP.out W hW) Tryd.underlying27 rfl (planC_size HD.out); rotate_left; (focus rfl); (focus rfl))); simp only [Act.put, List.setIfInBounds_toArray, List.set_cons_zero, List.set_cons_succ])
        (refine' lexC (o := _) ?_ (by kernel_rfl) ?_; rotate_left; (focus (simp only [List.getElem?_toArray, List.getElem?_cons_succ, List.getElem?_cons_zero]; rfl)); intro K HK; go_wp2_with (go_at_call 10; refine (Segments_ok (c : Int) 1 (T : Int) (bvs D) HD _).mono ?_; rintro e W3 ⟨rfl, hN⟩; rw [HSG.out]))
        refine HK.out _ _ (by rw [HS.out]; exact (Only.refl _ _).drew.then_ hN) ?_
        clear HK
        try simp only [Act.put, List.setIfInBounds_toArray, List.set_cons_zero, List.set_cons_succ]
        iterate 8 (refine' lexT (o := _) (v := _) ?_ (by kernel_rfl) ?_ ?_; rotate_left; rotate_left; (focus (simp only [List.getElem?_toArray, List.getElem?_cons_succ, List.getElem?_cons_zero]; rfl)); (focus (intro W hW; (have q1 := c3 W hW; have q2 := p2 W hW; have q3 := c7 W hW; have q4 := c8 W hW); go_simp; all_goals with_reducible rfl)); simp only [Act.put, List.setIfInBounds_toArray, List.set_cons_zero, List.set_cons_succ])
        iterate 2 (refine' lexT (o := _) (v := _) ?_ (by kernel_rfl) ?_ ?_; rotate_left; rotate_left; (focus (simp only [List.getElem?_toArray, List.getElem?_cons_succ, List.getElem?_cons_zero]; rfl)); (focus (intro W hW; (have q1 := c3 W hW; have q2 := p2 W hW; have q3 := c7 W hW; have q4 := c8 W hW); go_simp; all_goals with_reducible rfl)); simp only [Act.put, List.setIfInBounds_toArray, List.set_cons_zero, List.set_cons_succ])
        iterate 3 (refine' lexT (o := _) (v := _) ?_ (by kernel_rfl) ?_ ?_; rotate_left; rotate_left; (focus (simp only [List.getElem?_toArray, List.getElem?_cons_succ, List.getElem?_cons_zero]; rfl)); (focus (intro W hW; (have q1 := c3 W hW; have q2 := p2 W hW; have q3 := c7 W hW; have q4 := c8 W hW); go_simp; all_goals with_reducible rfl)); simp only [Act.put, List.setIfInBounds_toArray, List.set_cons_zero, List.set_cons_succ])
        (refine' lexC (o := _) ?_ (by kernel_rfl) ?_; rotate_left; (focus (simp only [List.getElem?_toArray, List.getElem?_cons_succ, List.getElem?_cons_zero]; rfl)); intro K HK; go_wp2_with (go_at_call 7; refine (awake_ok _ (hE'.out.non ((Only.refl _ _).drew.trans hN))).mono ?_; rintro e W4 ⟨rfl, hN4⟩))
        refine HK.out _ _ (by rw [HS.out]; exact ((Only.refl _ _).drew.then_ hN).then_ hN4) ?_
        clear HK
        try simp only [Act.put, List.setIfInBounds_toArray, List.set_cons_zero, List.set_cons_succ]
        iterate 1 (refine' lexT (o := _) (v := _) ?_ (by kernel_rfl) ?_ ?_; rotate_left; rotate_left; (focus (simp only [List.getElem?_toArray, List.getElem?_cons_succ, List.getElem?_cons_zero]; rfl)); (focus (intro W hW; (have q1 := c3 W hW; have q2 := p2 W hW; have q3 := c7 W hW; have q4 := c8 W hW); go_simp; all_goals with_reducible rfl)); simp only [Act.put, List.setIfInBounds_toArray, List.set_cons_zero, List.set_cons_succ])
        have b4 := box_cell HZ3.out (((Only.refl _ _).drew.trans hN).trans hN4)
        (refine' lexC (o := _) ?_ (by kernel_rfl) ?_; rotate_left; (focus (simp only [List.getElem?_toArray, List.getElem?_cons_succ, List.getElem?_cons_zero]; rfl)); intro K HK; go_wp2_with fail)
        refine HK.out _ _ (by rw [HS.out]; exact (((Only.refl (fun b => b = w.heap.size + 1) _).drew.then_ hN).then_ hN4).setCell (.inl rfl) _) ?_
        clear HK
        refine lexNil ?_
        go_wp2
        have hb4 := one_setCell (u := .bool true) (((((Only.refl Non W').drew.trans hN).trans hN4)).heap HZ3.out id)
        have hO5 : Only (fun b => b = w.heap.size + 1) W' (W4.setCell ⟨w.heap.size + 1, 0, none⟩ (.bool true)) := (((Only.refl (fun b => b = w.heap.size + 1) _).drew.then_ hN).then_ hN4).setCell (.inl rfl) _
        generalize W4.setCell ⟨w.heap.size + 1, 0, none⟩ (.bool true) = W5 at *
        refine leave_mark (hO5.heap HZ7.out (by omega)) ?_
        have hP : Only (fun b => b = w5.heap.size + 4) W5 (W5.putObj (w5.heap.size + 4) (.deferred none)) := (Only.refl (fun b => b = w5.heap.size + 4) _).putObj (.inl rfl) _
        exact ⟨_, results_bool rfl _ _ (w.heap.size + 1) true rfl (cell_of_one (hP.heap hb4 (by omega))), rfl, (HX'.out.step hO5 (fun b hb => .inr (by omega))).step hP (fun b hb => .inr (by omega))⟩
    · exact h.elim
end Go.Proofs.YtailcinidojdjaaDoor

/- Part of this seat's proofs: contracts of functions of the program and plain lemmas, which the claim's theorem uses. -/
import Derived.Test.YtailcinidojdjaaDoorSrc4
namespace Go.Proofs.YtailcinidojdjaaDoor
open Go Go.RowKit
set_option linter.unusedVariables false
set_option linter.unusedSimpArgs false

theorem load_wanted {P : Program} {ops : Array Oper} {rest : List Oper} {o : Oper} {a : Act} {w : World} {Q : Exit → Act → World → Prop} (ty : TypeId) (x : Operand) (ho : o.op = .load ty x)
    (g : Nat) (hx : a.eval x = .pointer (some ⟨g, 0, none⟩)) (t : TypeId) (cs : Array Value) (fr : Nat × Nat) (d : TypeDesc) (hg : w.heap[g]? = some (.cells cs t fr))
    (hu : P.underlying ty = some d) (hd : (match d with | .struct _ | .array _ _ => true | _ => false) = true) (hi : (P.info? ty).map (·.size) = some cs.size)
    (hw : Region.wanted o (yielded ops a.tmps) = true)
    (h : wpList P ops Q rest (a.put o.dst (.agg cs)) w) : wpList P ops Q (o :: rest) a w :=
  wpList_step fun K hK => by
    rw [if_pos hw]
    exact wp_load_row ty x ho g hx t cs fr d hg hu hd hi (hK _ _ h)
theorem slice_if2 {M : Nat → Prop} {w : World} {b o c : Nat} {xs : List UInt8} (h : By M w (.slice (some ⟨b, o, none⟩) xs.length c) xs) (l r : Nat) (hl : l ≤ r) (hr : r ≤ xs.length) :
    By M w (.slice (if c = l then some ⟨b, o, none⟩ else some ⟨b, o + l, none⟩) (r - l) (c - l)) ((xs.drop l).take (r - l)) := by
  obtain ⟨_, A, c', e, h2, h3, h4, h5⟩ := h
  injection e with e1 e2 e3
  subst e1 e3
  have hlen : ((xs.drop l).take (r - l)).length = r - l := by rw [List.length_take, List.length_drop]; omega
  refine ⟨by simp [bvs], _, _, by rw [hlen], by rw [hlen]; omega, by simp only [maxLen] at *; omega, ?_, ?_⟩
  · intro h
    split at h <;> cases h
  · intro hn
    rw [hlen] at hn
    obtain ⟨b', o', e, hM, hb, hc⟩ := h5 (by omega)
    injection e with e
    injection e with e1 e2
    subst e1 e2
    refine ⟨b, o + l, by rw [if_neg (by omega)], hM, hb, fun j u hu => ?_⟩
    rw [Nat.add_assoc]
    refine hc _ _ ?_
    have hj : j < r - l := by
      have := (List.getElem?_eq_some_iff.1 hu).1
      simp only [bvs, List.length_map, hlen] at this
      exact this
    simp only [bvs, List.getElem?_map, List.getElem?_take, List.getElem?_drop] at hu ⊢
    rwa [if_pos hj] at hu

/-- segment k of bytes -/
def cutB (b : List UInt8) (c k : Nat) : List UInt8 := (b.drop (k * c)).take (min ((k + 1) * c) b.length - k * c)
def chunkB (l : List Fil) (c n t k : Int) : List UInt8 := if 0 ≤ k ∧ k < segs c n t ∧ t = (streamB l).length then cutB (streamB l) c.toNat k.toNat else []
theorem segs_facts {c n t k : Int} (h0 : 0 ≤ k) (h : k < segs c n t) : mayB c n t = true ∧ 1 ≤ c ∧ c ≤ 65536 ∧ 0 ≤ t ∧ t ≤ 4194304 ∧ k ≤ 4194304 ∧ k * c < t := by
  unfold segs at h
  split at h
  · rename_i hm
    have hf := may_facts hm
    have h1 : k * c < t := by
      have h2 : (k + 1) * c ≤ t + c - 1 := (Int.le_ediv_iff_mul_le (by omega)).1 (by omega)
      rw [Int.add_mul] at h2
      omega
    have h2 : k ≤ k * c := by
      have := Int.mul_le_mul_of_nonneg_left hf.1 h0
      omega
    exact ⟨hm, hf.1, hf.2.1, hf.2.2.2.2.1, hf.2.2.2.2.2, by omega, h1⟩
  · omega
theorem pl0 (c n t : Int) (D : List Value) (w : World) : (w.alloc (.cells (planC c n t D).toArray 27)).cell? ⟨w.heap.size, 0, none⟩ = some (.int .i64 c) ∧ (w.alloc (.cells (planC c n t D).toArray 27)).cell? ⟨w.heap.size, 2, none⟩ = some (.int .i64 t) := by
  constructor
  · rw [cell_of_row _ _ _ _ _ _ (heap_alloc_new w _)]; rfl
  · rw [cell_of_row _ _ _ _ _ _ (heap_alloc_new w _)]; rfl

set_option maxRecDepth 100000 in
set_option maxHeartbeats 1000000 in
theorem Chunk_none (M : Nat → Prop) (w : World) (v : Value) (l : List Fil) (c n t k : Int) (D : List UInt8) (hD : Hid ((bvs D).length = 32)) (hE : Env w) (hv : Fs M w v l) (hn : l.length ≤ 1000000) (ht : totD l ≤ 4000000) (hk : k < 0) :
    Calls Tryd.prog 15 #[v, .agg (planC c n t (bvs D)).toArray, .int .i64 k] w fun e w' => ∃ v', e = .returned v' ∧ Only Non w w' ∧ OB w' w.heap.size v' [] := by
  have hst := hv.st
  obtain ⟨A, cc, rfl, hc1, hc2, hc3⟩ := hst.open
  have HV := Lib.hid (hv.more (M' := Non) fun _ h => h.elim)
  have HE := Lib.hid hE
  have HO0 := Lib.hid ((Only.refl Non w).alloc (.cells (planC c n t (bvs D)).toArray 27))
  have hk0 : decide (k < 0) = true := by rw [decide_eq_true_iff]; exact hk
  clear hc1 hc2 hc3 hv hst hE hk
  go_enter Tryd.func15, Tryd.ntmps15
  go_wp2_with (go_at_call 11; refine (Stream_ok Non _ _ l (HE.out.non HO0.out) (HV.out.kept HO0.out) hn (by omega)).mono ?_; rintro e w1 ⟨v1, rfl, hO1, -⟩)
  go_ret
  exact ⟨_, rfl, HO0.out.trans hO1, rfl, .inl ⟨rfl, rfl⟩⟩
set_option maxRecDepth 100000 in
set_option maxHeartbeats 1000000 in
theorem Chunk_past (M : Nat → Prop) (w : World) (v : Value) (l : List Fil) (c n t k : Int) (D : List UInt8) (hD : Hid ((bvs D).length = 32)) (hE : Env w) (hv : Fs M w v l) (hn : l.length ≤ 1000000) (ht : totD l ≤ 4000000) (hk : 0 ≤ k) (hs : segs c n t ≤ k) :
    Calls Tryd.prog 15 #[v, .agg (planC c n t (bvs D)).toArray, .int .i64 k] w fun e w' => ∃ v', e = .returned v' ∧ Only Non w w' ∧ OB w' w.heap.size v' [] := by
  have hst := hv.st
  obtain ⟨A, cc, rfl, hc1, hc2, hc3⟩ := hst.open
  have HV := Lib.hid (hv.more (M' := Non) fun _ h => h.elim)
  have HE := Lib.hid hE
  have HO0 := Lib.hid ((Only.refl Non w).alloc (.cells (planC c n t (bvs D)).toArray 27))
  have HB0 := Lib.hid (heap_alloc_new w (.cells (planC c n t (bvs D)).toArray 27))
  have hk0 : decide (k < 0) = false := by rw [decide_eq_false_iff_not]; omega
  have hk1 : segs c n t ≤ k := hs
  clear hc1 hc2 hc3 hv hst hE hk hs
  generalize hsg : segs c n t = sg at *
  have HSG := Lib.hid hsg
  clear hsg
  go_enter Tryd.func15, Tryd.ntmps15
  go_wp2_with (first
    | (go_at_call 11; refine (Stream_ok Non _ _ l (HE.out.non HO0.out) (HV.out.kept HO0.out) hn (by omega)).mono ?_; rintro e w1 ⟨v1, rfl, hO1, -⟩)
    | (refine load_wanted 27 _ rfl _ rfl _ _ _ _ (hO1.heap HB0.out id) Tryd.underlying27 rfl (planC_size hD.out) (by rfl) ?_)
    | (go_at_call 10; refine (Segments_ok c n t (bvs D) hD _).mono ?_; rintro e w2 ⟨rfl, hO2⟩; rw [HSG.out]))
  go_ret
  exact ⟨_, rfl, (HO0.out.trans hO1).trans hO2, rfl, .inl ⟨rfl, rfl⟩⟩

set_option maxRecDepth 100000 in
set_option maxHeartbeats 1000000 in
theorem Chunk_ok (M : Nat → Prop) (w : World) (v : Value) (l : List Fil) (c n t k : Int) (D : List UInt8) (hD : Hid ((bvs D).length = 32)) (hE : Env w) (hv : Fs M w v l) (hn : l.length ≤ 1000000) (ht : totD l ≤ 4000000) (hk : 0 ≤ k) (hs : k < segs c n t) (hl : t = (streamB l).length) :
    Calls Tryd.prog 15 #[v, .agg (planC c n t (bvs D)).toArray, .int .i64 k] w fun e w' => ∃ v', e = .returned v' ∧ Only Non w w' ∧ OB w' w.heap.size v' (cutB (streamB l) c.toNat k.toNat) := by
  have hst := hv.st
  obtain ⟨A, cc, rfl, hc1, hc2, hc3⟩ := hst.open
  have hf := segs_facts hk hs
  have HV := Lib.hid (hv.more (M' := Non) fun _ h => h.elim)
  have HE := Lib.hid hE
  have HO0 := Lib.hid ((Only.refl Non w).alloc (.cells (planC c n t (bvs D)).toArray 27))
  have HB0 := Lib.hid (heap_alloc_new w (.cells (planC c n t (bvs D)).toArray 27))
  have hk0 : decide (k < 0) = false := by rw [decide_eq_false_iff_not]; omega
  have hk1 : decide (k ≥ segs c n t) = false := by rw [decide_eq_false_iff_not]; omega
  obtain ⟨c, rfl⟩ := Int.eq_ofNat_of_zero_le (show 0 ≤ c by omega)
  obtain ⟨k, rfl⟩ := Int.eq_ofNat_of_zero_le hk
  subst hl
  have HP := pl0 (c : Int) n ((streamB l).length : Int) (bvs D) w
  have e1 : (k : Int) * (c : Int) = ((k * c : Nat) : Int) := by rw [Int.natCast_mul]
  have e2 : ((k : Int) + 1) * (c : Int) = (((k + 1) * c : Nat) : Int) := by rw [Int.natCast_mul]; rfl
  have hq : (k + 1) * c = k * c + c := Nat.succ_mul k c
  have hkc : k * c < (streamB l).length := by have := hf.2.2.2.2.2.2; rw [e1] at this; omega
  have hcc : c ≤ 65536 := by omega
  have hk4 : k ≤ 4194304 := by omega
  have hll : (streamB l).length ≤ 4000000 := stream_len ht
  clear hc1 hc2 hc3 hv hst hE hk hs hf
  generalize hsg : segs (c : Int) n ((streamB l).length : Int) = sg at *
  have HSG := Lib.hid hsg
  clear hsg
  have HC := Lib.hid (show cutB (streamB l) ((c : Int)).toNat ((k : Int)).toNat = ((streamB l).drop (k * c)).take (min ((k + 1) * c) (streamB l).length - k * c) from rfl)
  generalize cutB (streamB l) ((c : Int)).toNat ((k : Int)).toNat = CB at *
  generalize hm1 : k * c = q1 at *
  generalize hm2 : (k + 1) * c = q2 at *
  have HM := Lib.hid (And.intro hm1 hm2)
  clear hm1 hm2
  generalize hSB : streamB l = SB at *
  have HSB := Lib.hid hSB
  clear hSB
  have hq2 : q2 = q1 + c := by have := HM.out; omega
  obtain ⟨r, hr⟩ : ∃ r, r = min q2 SB.length := ⟨_, rfl⟩
  have hr1 : q1 ≤ r := by omega
  have hr2 : r ≤ SB.length := by omega
  have hmi : min (q2 : Int) (SB.length : Int) = (r : Int) := by omega
  have hqb : q2 ≤ 10000000 := by omega
  rw [← hr] at HC
  clear hr hq2 hq
  go_enter Tryd.func15, Tryd.ntmps15
  go_wp2_with (first
    | (go_at_call 11; refine (Stream_ok Non _ _ l (HE.out.non HO0.out) (HV.out.kept HO0.out) hn (by omega)).mono ?_; rintro e w1 ⟨v1, rfl, hO1, ho1⟩; rw [HSB.out] at ho1; obtain ⟨A1, c1, rfl, hq1, hq2, hq3⟩ := ho1.non.open; have hcq : ¬ c1 = q1 := (by omega); have hcr : (r : Int) ≤ (c1 : Int) := (by omega); have hqr : (q1 : Int) ≤ (r : Int) := (by omega); clear hq1 hq2 hq3; obtain ⟨b1, o1, rfl, _, _, _⟩ := ho1.non.at (by omega); have HO1 := Lib.hid ho1; clear ho1)
    | (refine load_wanted 27 _ rfl _ rfl _ _ _ _ (hO1.heap HB0.out id) Tryd.underlying27 rfl (planC_size hD.out) (by rfl) ?_)
    | (go_at_call 10; refine (Segments_ok (c : Int) n (SB.length : Int) (bvs D) hD _).mono ?_; rintro e w2 ⟨rfl, hO2⟩; rw [HSG.out]; have c0 := (hO1.trans hO2).cellOf HP.1; have c2 := (hO1.trans hO2).cellOf HP.2))
  have hsl := slice_if2 (HO1.out.non.kept hO2) q1 r hr1 hr2
  rw [if_neg hcq] at hsl
  refine (Clone_ok Non _ _ _ hsl (by rw [List.length_take]; omega)).mono ?_
  rintro e w3 ⟨v3, rfl, hO3, ho3⟩
  go_wp2
  go_ret
  exact ⟨_, rfl, ((HO0.out.trans hO1).trans hO2).trans hO3, by rw [HC.out]; exact ho3.lower ((HO0.out.trans hO1).trans hO2).size⟩
end Go.Proofs.YtailcinidojdjaaDoor

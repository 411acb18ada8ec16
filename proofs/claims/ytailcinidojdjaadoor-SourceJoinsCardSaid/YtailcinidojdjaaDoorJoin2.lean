/- Part of this seat's proofs: contracts of functions of the program and plain lemmas, which the claim's theorem uses. -/
import Derived.Test.YtailcinidojdjaaDoorJoin1
namespace Go.Proofs.YtailcinidojdjaaDoor
open Go Go.RowKit
set_option linter.unusedVariables false
set_option linter.unusedSimpArgs false
attribute [local go_sem] Oper.semAt_some

set_option maxRecDepth 100000 in
set_option maxHeartbeats 2000000 in
theorem Joins_out (w : World) (v : Value) (l : List Fil) (c d : Int) (hE : Env w) (hv : Fs Non w v l) (h : ¬ (fewB l = true ∧ filOk l = true)) :
    Calls Tryd.prog 4 #[v, .int .i64 c, .int .i64 d] w fun e w' => e = .returned (.bool true) ∧ Only Non w w' := by
  have hst := hv.st
  obtain ⟨A, cc, rfl, hc1, hc2, hc3⟩ := hst.open
  have HV := Lib.hid hv
  have HE := Lib.hid hE
  clear hc1 hc2 hc3 hv hst hE
  cases hf : fewB l with
  | false =>
    have HF := Lib.hid hf
    clear hf h
    go_enter Tryd.func4, Tryd.ntmps4
    go_wp2_with (first
      | (go_at_call 5; refine (Few_ok Non _ _ l HV.out).mono ?_; rintro e w1 ⟨rfl, hO1⟩; rw [HF.out])
      | (go_at_call 7; refine (awake_ok _ (HE.out.non hO1)).mono ?_; rintro e w2 ⟨rfl, hO2⟩))
    go_ret
    exact ⟨rfl, hO1.trans hO2⟩
  | true =>
    have HF := Lib.hid hf
    have hff := few_facts hf
    have HFF := Lib.hid (show l.length ≤ 1000000 ∧ totD l ≤ 10000000 from ⟨by omega, by omega⟩)
    have HR := Lib.hid (show filOk l = false by
      cases hr : filOk l with
      | false => rfl
      | true => exact absurd ⟨hf, hr⟩ h)
    clear hff hf h
    go_enter Tryd.func4, Tryd.ntmps4
    go_wp2_with (first
      | (go_at_call 5; refine (Few_ok Non _ _ l HV.out).mono ?_; rintro e w1 ⟨rfl, hO1⟩; rw [HF.out])
      | (go_at_call 6; refine (ERight_ok Non _ _ l (HE.out.non hO1) (HV.out.kept hO1) HFF.out.1 (by have := HFF.out.2; omega)).mono ?_; rintro e w3 ⟨rfl, hO3⟩; rw [show (whyE (entsOf 0 l) == 0) = false from HR.out])
      | (go_at_call 7; refine (awake_ok _ (HE.out.non (hO1.trans hO3))).mono ?_; rintro e w2 ⟨rfl, hO2⟩))
    go_ret
    exact ⟨rfl, (hO1.trans hO3).trans hO2⟩

set_option maxRecDepth 100000 in
set_option maxHeartbeats 2000000 in
theorem Joins_in (w : World) (v : Value) (l : List Fil) (one other : Int) (hE : Env w) (hv : Fs Non w v l) (hf : fewB l = true) (hr : filOk l = true) :
    Calls Tryd.prog 4 #[v, .int .i64 one, .int .i64 other] w fun e w' => e = .returned (.bool true) ∧ Only Non w w' := by
  have hst := hv.st
  obtain ⟨A, cc, rfl, hc1, hc2, hc3⟩ := hst.open
  have HV := Lib.hid hv
  have HE := Lib.hid hE
  clear hc1 hc2 hc3 hv hst hE
  have HF := Lib.hid hf
  have HR := Lib.hid hr
  have hff := few_facts hf
  have HFF := Lib.hid (show l.length ≤ 1000000 ∧ totD l ≤ 2400 from ⟨by omega, by omega⟩)
  clear hff hf hr
  refine calls_of_marks Tryd.func4 rfl ?_
  simp only [Tryd.ntmps4, List.size_toArray, List.length_cons, List.length_nil, Nat.reduceAdd, Nat.reduceSub, Array.replicate_succ, Array.replicate_zero, List.push_toArray, List.append_toArray, List.nil_append, List.cons_append]
  obtain ⟨SB, hSB⟩ : ∃ SB, SB = streamB l := ⟨_, rfl⟩
  have HSB := Lib.hid hSB
  clear hSB
  go_wp2_with (first
    | (go_at_call 5; refine (Few_ok Non _ _ l HV.out).mono ?_; rintro e w1 ⟨rfl, hO1⟩; rw [HF.out])
    | (go_at_call 6; refine (ERight_ok Non _ _ l (HE.out.non hO1) (HV.out.kept hO1) HFF.out.1 (by have := HFF.out.2; omega)).mono ?_; rintro e w3 ⟨rfl, hO3⟩; rw [show (whyE (entsOf 0 l) == 0) = true from HR.out])
    | (go_at_call 11; refine (Stream_ok Non _ _ l (HE.out.non (hO1.trans hO3)) (HV.out.kept (hO1.trans hO3)) HFF.out.1 (by have := HFF.out.2; omega)).mono ?_; rintro e w4 ⟨v4, rfl, hO4, ho4⟩; rw [← HSB.out] at ho4; have hcv := conv_str ho4.non; have HO4 := Lib.hid ((hO1.trans hO3).trans hO4); clear ho4 hO1 hO3 hO4))
  refine wp_loop (fun a W => ∃ (k : Nat) (ds : List Deferred) (u9 u10 u11 u12 u14 u31 u32 u33 u34 u35 u36 u37 u38 u39 u40 u41 u42 u43 u46 u47 u48 u49 u50 u51 u52 u53 u54 u55 : Value), a = { tmps := #[.slice A l.length cc, .int .i64 one, .int .i64 other, undef, undef, undef, .bool false, .string ⟨SB.toArray⟩, undef, u9, u10, u11, u12, undef, u14, .slice A l.length cc, .bool true, .bool false, .bool false, .slice A l.length cc, .bool true, .bool false, .bool false, undef, .slice A l.length cc, v4, .string ⟨SB.toArray⟩, .int .i64 one, .int .i64 other, .agg #[.int .i64 one, .int .i64 other], .int .i64 (k : Int), u31, u32, u33, u34, u35, u36, u37, u38, u39, u40, u41, u42, u43, undef, undef, u46, u47, u48, u49, u50, u51, u52, u53, u54, u55, undef], defers := ds } ∧ k ≤ 2 ∧ Only Non w W ∧ Marks w ds W) (fun a _ => 2 - (intOf (a.tmps.getD 30 undef)).toNat) ?_ ?_
  · exact ⟨0, [], _, _, _, _, _, _, _, _, _, _, _, _, _, _, _, _, _, _, _, _, _, _, _, _, _, _, _, _, rfl, by omega, HO4.out, trivial⟩
  · rintro a W ⟨k, ds, u9, u10, u11, u12, u14, u31, u32, u33, u34, u35, u36, u37, u38, u39, u40, u41, u42, u43, u46, u47, u48, u49, u50, u51, u52, u53, u54, u55, rfl, hk, hO, hM⟩
    by_cases hk2 : k = 2
    · subst hk2
      have HO := Lib.hid hO
      have HM := Lib.hid hM
      clear hO hM
      go_wp2_with (go_at_call 7; refine (awake_ok _ (HE.out.non HO.out)).mono ?_; rintro e w5 ⟨rfl, hO5⟩)
      (try simp only [Exit.inBlock, Exit.then])
      exact leave_all (HO.out.trans hO5) (HM.out.keep hO5 fun _ _ h => h) fun W' hO' => ⟨_, results_tmp rfl _ _ _, rfl, hO'⟩
    · obtain ⟨x, hx⟩ : ∃ x : Int, (#[Value.int .i64 one, Value.int .i64 other] : Array Value)[k]? = some (.int .i64 x) := by
        obtain rfl | rfl : k = 0 ∨ k = 1 := by omega
        · exact ⟨one, rfl⟩
        · exact ⟨other, rfl⟩
      have hix := fun W => index_row (t := 37) (e := 3) (n := 2) Tryd.underlying37 (fun _ => by kernel_rfl) (fun _ => by kernel_rfl) hx (by omega) W
      have g1 : decide ((k : Int) < 2) = true := by rw [decide_eq_true_iff]; omega
      have HO := Lib.hid hO
      have HM := Lib.hid hM
      have HK := Lib.hid (And.intro hk hk2)
      clear hO hM hx hk2
      go_wp2_with fail
      refine (Plan_ok Non _ _ l x 1 (HE.out.non HO.out) (HV.out.kept HO.out) HFF.out.1 (by have := HFF.out.2; omega)).mono ?_
      intro e w5 hp
      cases hm : mayB x 1 (totB (entsOf 0 l)) with
      | false =>
        obtain ⟨hO5, h1 | h2 | h3⟩ := hp
        · exact absurd (ok_stream HR.out).2.2.1 h1.1
        · rw [hm] at h2
          exact absurd h2.2.1 (by simp)
        · obtain ⟨_, _, rfl⟩ := h3
          have HO5 := Lib.hid hO5
          clear hO5 hm
          go_wp2_with (refine wpList_store_row rfl 27 _ _ rfl w5.heap.size (planC 0 0 0 (bvs zD)).toArray rfl rfl _ (planC 0 0 0 (bvs zD)).toArray (heap_new _ _ _ rfl) zrow rfl (planC_one _ _ _ _) ?_)
          have hO6 := HO5.out.trans (planRow (w5 := w5) (planC 0 0 0 (bvs zD)).toArray).2
          refine ⟨⟨k + 1, ds, _, _, _, _, _, _, _, _, _, _, _, _, _, _, _, _, _, _, _, _, _, _, _, _, _, _, _, _, rfl, by have := HK.out; omega, HO.out.trans hO6, HM.out.keep hO6 fun _ _ h => h⟩, by have := HK.out; simp [intOf]; omega⟩
      | true =>
        obtain ⟨c, rfl⟩ := Int.eq_ofNat_of_zero_le (show 0 ≤ x by have := (may_facts hm).1; omega)
        have hc1 : 1 ≤ c := by have := (may_facts hm).1; omega
        have hc2 : c ≤ 65536 := by have := (may_facts hm).2.1; omega
        obtain ⟨hO5, D, hD, rfl⟩ := in_plan HR.out HF.out hc1 hc2 hp
        rw [← HSB.out]
        have HO5 := Lib.hid (HO.out.trans hO5)
        have HM5 := Lib.hid (HM.out.keep hO5 fun _ _ h => h)
        have HD := Lib.hid hD
        have HC := Lib.hid (And.intro hc1 hc2)
        have HP6 := Lib.hid (planRow (w5 := w5) (planC (c : Int) 1 (SB.length : Int) (bvs D)).toArray)
        clear hp hO5 hD hc1 hc2 hm HM
        go_wp2_with (first
          | (refine wpList_store_row rfl 27 _ _ rfl w5.heap.size (planC (c : Int) 1 (SB.length : Int) (bvs D)).toArray rfl rfl _ (planC 0 0 0 (bvs zD)).toArray (heap_new _ _ _ rfl) (planC_size HD.out) (by have := HD.out; simp [bvs] at this; simp [planC, bvs, this, zD]) (planC_one _ _ _ _) ?_; refine wpList_name ?_; intro w6 hw6; have hP6 := HP6.out; clear HP6; rw [show (w5.alloc (.cells (planC 0 0 0 (bvs zD)).toArray 27)).setRow w5.heap.size (planC (c : Int) 1 (SB.length : Int) (bvs D)).toArray = w6 from hw6.symm] at hP6; have HP7 := Lib.hid hP6.1; have HO6 := Lib.hid (HO5.out.trans hP6.2); have HM6 := Lib.hid (HM5.out.keep hP6.2 fun _ _ h => h); have HZ := Lib.hid (And.intro (show w.heap.size ≤ w5.heap.size from HO5.out.size) (lt_of_block hP6.1)); clear hw6 hP6 HO5 HM5)
          | (refine wpList_load_row rfl 27 _ rfl _ rfl _ _ _ _ (Only.heap ((Only.refl Non w6).alloc _) HP7.out id) Tryd.underlying27 rfl (planC_size HD.out) ?_))
        refine (Chunks_ok _ _ _ _ _).mono ?_
        rintro e w7 ⟨rfl, rfl⟩
        have h76 : Only Non w6 (boxedW (w6.alloc (.cells #[.slice none 0 0] 38)) (.slice A l.length cc) (planC (c : Int) 1 (SB.length : Int) (bvs D)).toArray) := (((Only.refl _ _).alloc _).alloc _).alloc _
        have h7 := HO6.out.trans h76
        have M7 := HM6.out.keep h76 fun _ _ h => h
        have B5 := h76.heap HP7.out id
        have B0 : (boxedW (w6.alloc (.cells #[.slice none 0 0] 38)) (.slice A l.length cc) (planC (c : Int) 1 (SB.length : Int) (bvs D)).toArray).heap[w6.heap.size]? = some (.cells #[.slice none 0 0] 38 (0, 0)) := heap_keep (heap_keep (heap_new _ _ _ rfl) _) _
        have BF : (boxedW (w6.alloc (.cells #[.slice none 0 0] 38)) (.slice A l.length cc) (planC (c : Int) 1 (SB.length : Int) (bvs D)).toArray).heap[w6.heap.size + 1]? = some (.cells #[.slice A l.length cc] 22 (0, 0)) := heap_keep (heap_new _ _ _ (by simp)) _
        have BP : (boxedW (w6.alloc (.cells #[.slice none 0 0] 38)) (.slice A l.length cc) (planC (c : Int) 1 (SB.length : Int) (bvs D)).toArray).heap[w6.heap.size + 1 + 1]? = some (.cells (planC (c : Int) 1 (SB.length : Int) (bvs D)).toArray 27 (0, 0)) := heap_new _ _ _ (by simp)
        have SZ : (boxedW (w6.alloc (.cells #[.slice none 0 0] 38)) (.slice A l.length cc) (planC (c : Int) 1 (SB.length : Int) (bvs D)).toArray).heap.size = w6.heap.size + 3 := by simp [boxedW]
        have hsz : (w6.alloc (.cells #[.slice none 0 0] 38)).heap.size = w6.heap.size + 1 := by simp
        rw [hsz]
        have hML : ∀ D', markOf D' ∈ ds → D' < w6.heap.size := fun D' h => HM6.out.lt h
        generalize boxedW (w6.alloc (.cells #[.slice none 0 0] 38)) (.slice A l.length cc) (planC (c : Int) 1 (SB.length : Int) (bvs D)).toArray = w7 at *
        have H7 := Lib.hid h7
        have HM7 := Lib.hid M7
        have HML := Lib.hid hML
        have HB := Lib.hid (And.intro B0 (And.intro B5 (And.intro BF BP)))
        have HSZ := Lib.hid SZ
        clear h76 h7 M7 B0 B5 BF BP SZ hsz hML HM6 HP7
        go_wp2
        refine wp_range rfl can_Chunks1 ?_
        intro fn rec hrec
        rw [HSZ.out] at hrec ⊢
        have HREC := Lib.hid hrec
        clear hrec
        have hOL := loopW_only w7 (rec .ready none)
        have hLd := loopW_def w7 (rec .ready none)
        have hLr := loopW_rec w7 (rec .ready none)
        have hLs := loopW_size w7 (rec .ready none)
        rw [HSZ.out] at hLd hLr hLs
        have HT := Lib.hid (show SB.length ≤ 2400 by rw [HSB.out, (ok_stream HR.out).1]; exact HFF.out.2)
        obtain ⟨w0, hw0⟩ : ∃ w0, w0 = loopW w7 (rec .ready none) := ⟨_, rfl⟩
        rw [← hw0] at hOL hLd hLr hLs ⊢
        clear hw0
        refine (Chunks1_gives _ _ _ _ l (c : Int) 1 D HD (HE.out.non (H7.out.trans hOL)) (HV.out.kept (H7.out.trans hOL)) HFF.out.1 (by have := HFF.out.2; omega) _ _ _ (hOL.heap HB.out.2.2.1 id) (by rw [← HSB.out]; exact hOL.heap HB.out.2.2.2 id) (segN c SB.length) (by rw [← HSB.out]; exact segs_N c SB.length HC.out.1 HC.out.2 (by have := HT.out; omega)) _
          (JnJ w0 w6.heap.size SB c (rec .ready none)) (fun _ => False) ?_ ?_).mono ?_
        · intro H W' hO' hH
          refine ⟨.slice none 0 0, [], (hO'.any _), (hOL.trans hO').heap HB.out.1 id, World.ownsRow_nil _ _ _ _, rfl, rfl, (fun p hp => by cases hp), hO'.heap hLr id, fun x hx => ⟨?_, nofun⟩⟩
          have := (hH x hx).2
          omega
        · intro H k' u W' W1 hk hJ hHB hO' hob
          obtain ⟨A', cu, rfl, _, _, _⟩ := hob.non.open
          have hcn : ((c : Int)).toNat = c := Int.toNat_natCast c
          rw [hcn, ← HSB.out] at hob ⊢
          obtain ⟨pv, ps, j1, jb, jo, jl, jc, jB, jr, jH⟩ := hJ
          have k4 := own_keep jo hO' fun _ _ h => h
          obtain ⟨Ap, cp, rfl, _, _, _⟩ := (Rd.of_own (M := Non) k4 fun _ h => h.elim).form
          have K1 := Lib.hid (j1.then_ hO')
          have K2 := Lib.hid (hO'.heap jb id)
          have K3 := Lib.hid k4
          have K4 := Lib.hid (And.intro jl jc)
          have K5 := Lib.hid (fun p hp => (jB p hp).kept hO')
          have K6 := Lib.hid (hO'.heap jr id)
          have K7 := Lib.hid jH
          have K8 := Lib.hid (show ∀ x, H x → x < W1.heap.size from fun x hx => Nat.lt_of_lt_of_le (hHB x hx) hO'.size)
          have KU := Lib.hid (hob.by (M := fun x => x < W'.heap.size) fun x hx => hx)
          have KN := Lib.hid (show w0.heap.size ≤ W'.heap.size ∧ ∀ x, (Value.slice Ap k' cp).ownBlock = some x → x < W'.heap.size from ⟨j1.size, fun x hx => (jo.lt x hx).2⟩)
          have KL := Lib.hid hLs
          have KT := Lib.hid (show (ps.length + 1) * 24 ≤ 140737488355328 by
            have h1 : k' ≤ 2400 := by
              rcases Nat.lt_or_ge 2400 k' with h | h
              · have h' := (seg_lt (k := k') HC.out.1).1 hk
                have := HT.out
                have h2 : k' * 1 ≤ k' * c := Nat.mul_le_mul_left _ HC.out.1
                omega
              · exact h
            omega)
          clear j1 jb jo jl jc jB jr jH k4 hO' hHB hob hOL hLd hLr hLs
          generalize hCK : cutB SB c k' = CK at *
          have HCK := Lib.hid hCK
          clear hCK
          refine yield_at HREC.out K6.out rfl ?a1 ?assign ?body
          case assign =>
            intro K hK
            gi_wp2
            exact hK
          case body =>
            intro W2 hW2
            have HW2 := Lib.hid hW2
            have hX2 : Only (fun x => x = w6.heap.size + 3 + 1) W1 W2 := by rw [hW2]; exact (Only.refl (fun x => x = w6.heap.size + 3 + 1) _).putObj (.inl rfl) _
            have hK3 := own_keep K3.out hX2 (fun x hx h => by have := (K3.out.lt x hx).1; have := KL.out; omega)
            have K32 := Lib.hid hK3
            have cb := cell_of_one (hX2.heap K2.out (by omega))
            have KB := Lib.hid (hX2.heap K2.out (by omega))
            have X02 := Lib.hid (K1.out.step hX2 fun x hx => .inl (.inr hx))
            clear hW2 hX2 hK3
            refine wpIn_block ?_
            refine region_in rfl (fun ⟨a, w, h⟩ => h) ?_
            go_wp2_with (at_builtin; refine ap_rd 38 33 _ 1 24 Tryd.underlying38 info_bs rfl (by decide) (by decide) rfl _ _ rfl _ _ _ _ rfl (K32.out.alloc _) _ _ 1 _ rfl (Rd.built Non _ 1 1 #[.slice A' CK.length cu] _ _ rfl rfl (by omega) (fun _ h => h.elim)) (by intro u hu; simp at hu; subst hu; rfl) (by have := KT.out; have := K4.out.1; omega) (X02.out.alloc _) ?_)
            intro v' w' ho hO9 hG hat
            have hnb : ¬ (Value.slice Ap k' cp).ownBlock = some w6.heap.size := fun h => by have := (K3.out.lt _ h).1; have := KL.out; omega
            have kb := hG.heap (heap_keep KB.out _) hnb
            have cb' := cell_of_one kb
            have fb' := free_of_one kb
            obtain ⟨A2, c2, rfl, _, _, _⟩ := (Rd.of_own (M := Non) ho fun _ h => h.elim).form
            have HO1 := Lib.hid ho
            have HG := Lib.hid hG
            have HA := Lib.hid (show (Value.slice A2 (k' + 1) c2).ownBlock = (Value.slice Ap k' cp).ownBlock ∨ (Value.slice A2 (k' + 1) c2).ownBlock = some (W2.alloc (.cells #[.slice A' CK.length cu] 33)).heap.size by simpa using hat)
            clear ho hG hat hO9 kb hnb cb
            go_wp2
            (try simp only [Exit.inBlock, Exit.then])
            have hfin := jn_step (a := ⟨#[], []⟩) KL.out K1.out K2.out K3.out K4.out.1 K4.out.2 K5.out K6.out K7.out K8.out (by rw [HCK.out]; exact KU.out) (by have := KN.out.1; have := KL.out; omega) KN.out.2 HW2.out HG.out HO1.out HA.out
            simp only [and_false, or_false] at hfin
            exact hfin
        · rintro e W9 ⟨⟨u, rfl⟩, ⟨H, hJ⟩ | h⟩
          · obtain ⟨pv, ps, j1, jb, jo, jl, jc, jB, jr, _⟩ := hJ
            refine ⟨⟨_, rfl⟩, .inl ⟨jr, fun W' hW' => ?_⟩⟩
            have hzz := HZ.out
            have hz6 := HML.out
            have hX : Only (fun x => x = w6.heap.size + 3 + 1) W9 W' := by rw [hW']; exact (Only.refl (fun x => x = w6.heap.size + 3 + 1) _).putObj (.inl rfl) _
            have h6 : w5.heap.size < w6.heap.size := hzz.2
            have hAll : Only Non w W' := ((H7.out.trans hOL).step j1 fun x hx => .inr (by omega)).step hX fun x hx => .inr (by omega)
            have hMk : Marks w (markOf (w6.heap.size + 3) :: ds) W' := by
              refine ⟨⟨_, rfl, by omega, hX.heap (j1.heap hLd (by omega)) (by omega), fun d' hd' e => ?_⟩, ?_⟩
              · subst e
                have := hz6 _ hd'
                omega
              · refine Marks.keep hX (Marks.keep j1 (HM7.out.keep hOL fun _ _ h => h) fun D' hD' hx => ?_) fun D' hD' hx => ?_
                · have := hz6 D' hD'
                  omega
                · have := hz6 D' hD'
                  omega
            have kb := hX.heap jb (by omega)
            have hown := own_keep jo hX (fun x hx h => by have := (jo.lt x hx).1; omega)
            have hby : ∀ p ∈ ps, By Non W' p.1 p.2 := fun p hp => ((jB p hp).keep hX fun x _ h => .inr (.inl h)).more fun x h => h.elim
            obtain ⟨Ap, cp, rfl, _, _, _⟩ := (Rd.of_own (M := Non) hown fun _ h => h.elim).form
            have cb := cell_of_one kb
            have HBys := Lib.hid (show Bys Non W' (.slice Ap (segN c SB.length) cp) ps from ⟨by
              rw [jl]
              exact Rd.of_own (M := Non) hown fun _ h => h.elim, hby⟩)
            have HCT := Lib.hid (cat_cuts HC.out.1 jc)
            have HPL := Lib.hid (show ps.length ≤ 1000000 ∧ (catB ps).length ≤ 10000000 by
              rw [HCT.out]
              have h1 := HT.out
              refine ⟨?_, by omega⟩
              rcases Nat.lt_or_ge 2400 (segN c SB.length) with h | h
              · have h' := (seg_lt (k := 2400) HC.out.1).1 h
                have h2 : 2400 * 1 ≤ 2400 * c := Nat.mul_le_mul_left _ HC.out.1
                omega
              · omega)
            have HAL := Lib.hid hAll
            have HMK := Lib.hid hMk
            clear hW' j1 jb jo jl jc jB jr hzz hz6 hX h6 hAll hMk kb hown hby hOL hLd hLr hLs HREC HB
            generalize segN c SB.length = NN at *
            go_wp2_with (go_at_call 12; refine (Join_ok _ _ ps HBys.out HPL.out.1 HPL.out.2).mono ?_; rintro e w9 ⟨v9, rfl, hO9, ho9⟩; rw [HCT.out] at ho9; have hcv9 := conv_str ho9.non; have HO9 := Lib.hid hO9; clear ho9 hO9)
            refine ⟨⟨k + 1, markOf (w6.heap.size + 3) :: ds, _, _, _, _, _, _, _, _, _, _, _, _, _, _, _, _, _, _, _, _, _, _, _, _, _, _, _, _, rfl, by have := HK.out; omega, HAL.out.trans HO9.out, HMK.out.keep HO9.out fun _ _ h => h⟩, by have := HK.out; simp [intOf]; omega⟩
          · exact h.elim
end Go.Proofs.YtailcinidojdjaaDoor

/- Part of this seat's proofs: contracts of functions of the program and plain lemmas, which the claim's theorem uses. -/
import Derived.Test.YtailcinidojdjaaDoorDig5
namespace Go.Proofs.YtailcinidojdjaaDoor
open Go Go.RowKit
set_option linter.unusedVariables false
set_option linter.unusedSimpArgs false

/-- parts, each a slice of bytes -/
def Bys (M : Nat → Prop) (w : World) (v : Value) (ps : List (Value × List UInt8)) : Prop := Rd M w 1 v ps.length (ps.map (·.1)) ∧ ∀ p ∈ ps, By M w p.1 p.2
theorem Bys.at {M : Nat → Prop} {w : World} {A : Option Addr} {c : Nat} {ps : List (Value × List UInt8)} (h : Bys M w (.slice A ps.length c) ps) (hn : 0 < ps.length) :
    ∃ b o, A = some ⟨b, o, none⟩ ∧ b < w.heap.size ∧ ∀ j (hj : j < ps.length), w.cell? ⟨b, o + j, none⟩ = some ps[j].1 := by
  obtain ⟨⟨_, A', c', e, _, _, _, h5⟩, _⟩ := h
  injection e with e1 e2 e3
  subst e1 e3
  obtain ⟨b, o, e, hM, hb, hc⟩ := h5 hn
  exact ⟨b, o, e, hb, fun j hj => hc j _ (by simp [hj])⟩
theorem Bys.kept {M : Nat → Prop} {w w' : World} {v : Value} {ps : List (Value × List UInt8)} (h : Bys M w v ps) (k : Only Non w w') : Bys M w' v ps := ⟨h.1.kept k, fun p hp => (h.2 p hp).kept k⟩
def catB (ps : List (Value × List UInt8)) : List UInt8 := ps.flatMap (·.2)
theorem catB_take (ps : List (Value × List UInt8)) (k : Nat) : (catB (ps.take k)).length ≤ (catB ps).length := by
  have : catB ps = catB (ps.take k) ++ catB (ps.drop k) := by rw [catB, catB, catB, ← List.flatMap_append, List.take_append_drop]
  rw [this, List.length_append]
  omega

theorem padB_len (n : Nat) : (padB n).length ≤ 80 := by
  simp only [padB, lenB, List.length_cons, List.length_append, List.length_replicate, List.length_map, List.length_range]
  unfold zerosN
  omega
theorem slice_if {M : Nat → Prop} {w : World} {b o c : Nat} {xs : List UInt8} (h : By M w (.slice (some ⟨b, o, none⟩) xs.length c) xs) (l : Nat) (hl : l ≤ xs.length) :
    By M w (.slice (if c = l then some ⟨b, o, none⟩ else some ⟨b, o + l, none⟩) (xs.length - l) (c - l)) (xs.drop l) := by
  obtain ⟨_, A, c', e, h2, h3, h4, h5⟩ := h
  injection e with e1 e2 e3
  subst e1 e3
  refine ⟨by simp [bvs], _, _, by rw [List.length_drop], by simp; omega, by simp only [maxLen] at *; omega, ?_, ?_⟩
  · intro h
    split at h <;> cases h
  · intro hn
    rw [List.length_drop] at hn
    obtain ⟨b', o', e, hM, hb, hc⟩ := h5 (by omega)
    injection e with e
    injection e with e1 e2
    subst e1 e2
    refine ⟨b, o + l, by rw [if_neg (by omega)], hM, hb, fun j u hu => ?_⟩
    rw [Nat.add_assoc]
    refine hc _ _ ?_
    simpa [bvs, List.getElem?_drop] using hu
/-- a block that is a row of bytes -/
def RowB (w : World) (g : Nat) (t : TypeId) (l : List UInt8) : Prop := w.heap[g]? = some (.cells (bvs l).toArray t (0, 0))
theorem RowB.kept {w w' : World} {g : Nat} {t : TypeId} {l : List UInt8} (h : RowB w g t l) (k : Only Non w w') : RowB w' g t l := k.heap h id
theorem RowB.set {w : World} {g : Nat} {t : TypeId} {l : List UInt8} (h : RowB w g t l) (k : Nat) (b : UInt8) : RowB (w.setCell ⟨g, k, none⟩ (.int .u8 (b.toNat : Int))) g t (l.set k b) := by
  unfold RowB at *
  rw [heap_setCell_same _ _ _ _ _ _ h]
  simp [bvs, List.map_set, bv]
theorem RowB.put {w : World} {g : Nat} {t : TypeId} {l : List UInt8} (h : RowB w g t l) (l' : List UInt8) : RowB (w.setRow g (bvs l').toArray) g t l' := setRow_heap w g _ _ t _ h
theorem info32 {l : List UInt8} (h : l.length = 32) : (Tryd.prog.info? 25).map (·.size) = some (bvs l).toArray.size := by
  rw [show (Tryd.prog.info? 25).map (·.size) = some 32 by kernel_rfl]
  simp [bvs, h]
theorem bvs_one (l : List UInt8) : (bvs l).toArray.all (·.oneCell') = true := by
  rw [Array.all_eq_true]
  intro i hi
  simp [bvs, bv, Value.oneCell']
def fillB (s : List Int) (m : Nat) : List UInt8 := (outB s).take m ++ List.replicate (32 - m) 0
theorem fillB_len (s : List Int) (m : Nat) (h : m ≤ 32) : (fillB s m).length = 32 := by
  simp only [fillB, List.length_append, List.length_take, outB_len, List.length_replicate]
  omega
theorem fillB_succ (s : List Int) (m : Nat) (h : m < 32) : (fillB s m).set m (outAt s m) = fillB s (m + 1) := by
  apply List.ext_getElem?
  intro j
  have hl : ((outB s).take m).length = m := by rw [List.length_take, outB_len]; omega
  have hl1 : ((outB s).take (m + 1)).length = m + 1 := by rw [List.length_take, outB_len]; omega
  rw [List.getElem?_set]
  unfold fillB
  split
  · rename_i e
    subst e
    rw [if_pos (by simp only [List.length_append, hl, List.length_replicate]; omega), List.getElem?_append_left (by omega), List.getElem?_take, if_pos (by omega)]
    simp [outB, h]
  · rename_i e
    by_cases h1 : j < m
    · rw [List.getElem?_append_left (by omega), List.getElem?_append_left (by omega), List.getElem?_take, List.getElem?_take, if_pos h1, if_pos (by omega)]
    · rw [List.getElem?_append_right (by omega), List.getElem?_append_right (by omega), hl, hl1, List.getElem?_replicate, List.getElem?_replicate]
      by_cases h2 : j < 32
      · rw [if_pos (by omega), if_pos (by omega)]
      · rw [if_neg (by omega), if_neg (by omega)]
theorem outAt_at (s : List Int) (i k : Nat) (hk : k < 4) : ((outAt s (4 * i + k)).toNat : Int) = s.getD i 0 / 2 ^ (24 - 8 * k) % 256 := by
  unfold outAt
  rw [show (4 * i + k) / 4 = i by omega, show (4 * i + k) % 4 = k by omega, UInt8.toNat_ofNat']
  have h0 := Int.emod_nonneg (s.getD i 0 / 2 ^ (24 - 8 * k)) (show (256 : Int) ≠ 0 by decide)
  have h1 := Int.emod_lt_of_pos (s.getD i 0 / 2 ^ (24 - 8 * k)) (show (0 : Int) < 256 by decide)
  omega
theorem RowB.cell {w : World} {g : Nat} {t : TypeId} {l : List UInt8} (h : RowB w g t l) {k : Nat} (hk : k < l.length) : ∃ b, w.cell? ⟨g, k, none⟩ = some (.int .u8 b) := by
  refine ⟨(l[k].toNat : Int), ?_⟩
  rw [cell_of_row _ _ _ _ _ _ h]
  simp [bvs, bv, hk]
theorem sidx (s : List Int) (k : Nat) (hs : s.length = 8) (hk : k < 8) (w : World) : (Instr.index 73 (.agg (words s)) (.int .i64 (k : Int))).run Tryd.prog w = .ok (.int .u32 (s.getD k 0)) w :=
  index_row (n := 8) (e := 72) (by kernel_rfl) (fun w => by kernel_rfl) (fun w => by kernel_rfl) (by
    simp only [words, List.getElem?_toArray, List.getElem?_map]
    rw [List.getElem?_eq_getElem (by omega), List.getD_eq_getElem?_getD, List.getElem?_eq_getElem (by omega)]
    rfl) hk w
theorem RowI.kept {w w' : World} {g : Nat} {t : TypeId} {l : List Int} (h : RowI w g t l) (k : Only Non w w') : RowI w' g t l := k.heap h id
theorem startRow {w w3 : World} (h : Only Non w w3) : RowI ((w3.alloc (.cells (words (List.replicate 8 0)) 73)).setRow w3.heap.size (words startI)) w3.heap.size 73 startI ∧
    Only Non w ((w3.alloc (.cells (words (List.replicate 8 0)) 73)).setRow w3.heap.size (words startI)) ∧ w.heap.size ≤ w3.heap.size :=
  ⟨RowI.put (l := List.replicate 8 0) (heap_new _ _ _ rfl) startI, (h.alloc _).setRow (.inr h.size) _, h.size⟩

set_option maxRecDepth 100000 in
set_option maxHeartbeats 1000000 in
theorem Digest_ok (w : World) (v : Value) (ps : List (Value × List UInt8)) (hE : Env w) (hv : Bys Non w v ps) (hn : ps.length ≤ 1000) (hl : (catB ps).length ≤ 10000000) :
    Calls Tryd.prog 19 #[v] w fun e w' => e = .returned (aggB (digestB (catB ps))) ∧ Only Non w w' := by
  obtain ⟨A, c, rfl, hc1, hc2, hc3⟩ := hv.1.form
  have HV := Lib.hid hv
  have HE := Lib.hid hE
  clear hc1 hc2 hc3 hv hE
  obtain ⟨W0, hW0⟩ : ∃ W0, W0 = w.alloc (.cells (bvs (List.replicate 32 0)).toArray 25) := ⟨_, rfl⟩
  have HR0 := Lib.hid (show W0.heap[w.heap.size]? = some (.cells (bvs (List.replicate 32 0)).toArray 25 (0, 0)) by rw [hW0]; exact heap_alloc_new _ _)
  have HS0 := Lib.hid (show W0.heap.size = w.heap.size + 1 by rw [hW0]; simp)
  have HO0 := Lib.hid (show Only Non w W0 by rw [hW0]; exact (Only.refl _ _).alloc _)
  have HW0 := Lib.hid hW0
  clear hW0
  go_enter Tryd.func19, Tryd.ntmps19
  go_wp2_with fail
  go_loopw [3, 13] (fun b i wr => ∃ (k : Nat) (xs : List UInt8), k ≤ ps.length ∧ i = .int .i64 k ∧ Hid (xs = catB (ps.take k)) ∧ xs.length ≤ 10000000 ∧ OB wr W0.heap.size b xs ∧ Only Non W0 wr) (fun _ i _ => ps.length - (intOf i).toNat)
  case atStart => exact ⟨0, [], Nat.zero_le _, rfl, by show _ = _; simp [catB], by simp, ⟨rfl, .inl ⟨rfl, rfl⟩⟩, by rw [HW0.out]; exact Only.refl _ _⟩
  case round =>
    obtain ⟨k, xs, hk, rfl, HX, hxl, hob, hO⟩ := hrel
    obtain ⟨A2, c2, rfl, hc1, hc2, hc3⟩ := hob.non.open
    have HO := Lib.hid hob
    clear hob hc1 hc2 hc3
    by_cases hlt : k < ps.length
    · obtain ⟨b, o, rfl, hb, hc⟩ := (HV.out.kept (HO0.out.trans hO)).at (by omega)
      have hck := hc k hlt
      have HL := Lib.hid (show ps[k]? = some ps[k] from List.getElem?_eq_getElem hlt)
      clear hc hb
      generalize ps[k] = p at hck HL
      have HP := Lib.hid ((HV.out.2 p (List.mem_of_getElem? HL.out)).kept (HO0.out.trans hO))
      obtain ⟨pv, ys⟩ := p
      have HP2 := Lib.hid (show By Non wr pv ys from HP.out)
      simp only at hck
      clear HP
      obtain ⟨A3, c3, hpv, hd1, hd2, hd3⟩ := HP2.out.open
      subst hpv
      clear hd1 hd2 hd3
      have HX2 := Lib.hid (show xs ++ ys = catB (ps.take (k + 1)) by rw [List.take_add_one, HL.out, HX.out]; simp [catB])
      have HN := Lib.hid (show xs.length + ys.length ≤ 10000000 by
        have h1 := catB_take ps (k + 1)
        rw [← HX2.out, List.length_append] at h1
        omega)
      go_wp2_with ((at_builtin; refine ap_by rfl _ _ rfl _ _ _ rfl HO.out _ _ _ rfl HP2.out (by have := HN.out; omega) hO ?_))
      intro v' w' ho hO' hG hat
      have HO' := Lib.hid ho
      clear hat hG ho HO
      go_wp2
      go_roundw
      case rel => exact ⟨k + 1, _, by omega, by go_num, HX2, by have := HN.out; rw [List.length_append]; exact this, HO'.out, hO'⟩
      case measure => simp [intOf]; omega
    · obtain rfl : k = ps.length := by omega
      have hX := HX.out
      rw [List.take_length] at hX
      subst hX
      clear HX hlt hk
      have HB := Lib.hid (show digestB (catB ps) = outB (hashI ((catB ps ++ padB (catB ps).length).length / 64) startI (catB ps ++ padB (catB ps).length)) from rfl)
      have HPL := Lib.hid (pad_len (catB ps).length)
      generalize hxs : catB ps = xs at *
      have HXS := Lib.hid hxs
      clear hxs
      go_wp2_with (first
        | (go_at_call 35; refine (Pad_ok _ xs.length (by omega)).mono ?_; rintro e w1 ⟨v1, rfl, hO1, ho1⟩)
        | (at_builtin; refine ap_by rfl _ _ rfl _ _ _ rfl (HO.out.kept hO1) _ _ _ rfl ho1.non (by have := padB_len xs.length; omega) (hO.trans hO1) ?_))
      intro v2 w2 ho2 hO2 hG hat
      have HB2 := Lib.hid ho2
      have HOw := Lib.hid hO2
      clear hat hG ho1 hO1 HO ho2 hO2 hO
      go_wp2_with (first
        | (go_at_call 36; refine (Start_ok _).mono ?_; rintro e w3 ⟨rfl, hO3⟩; unfold aggI; have HS3 := Lib.hid (startRow hO3))
        | (refine wpList_store_row rfl 73 _ _ rfl w3.heap.size (words startI) rfl rfl _ (words (List.replicate 8 0)) (heap_new _ _ _ rfl) (info8 rfl) rfl (words_one _) ?_))
      simp only [Act.put]
      have HM := Lib.hid (show 64 * ((xs ++ padB xs.length).length / 64) = (xs ++ padB xs.length).length by
        have := HPL.out
        rw [List.length_append]
        omega)
      have HM5 := Lib.hid (show (xs ++ padB xs.length).length ≤ 20000000 by
        have := padB_len xs.length
        rw [List.length_append]
        omega)
      clear HPL
      generalize xs ++ padB xs.length = BB at *
      generalize BB.length / 64 = M at *
      generalize hw4 : (w3.alloc (.cells (words (List.replicate 8 0)) 73)).setRow w3.heap.size (words startI) = w4 at HS3
      have hw4' : (w3.alloc (.cells #[.int .u32 0, .int .u32 0, .int .u32 0, .int .u32 0, .int .u32 0, .int .u32 0, .int .u32 0, .int .u32 0] 73)).setRow w3.heap.size (words startI) = w4 := hw4
      rw [hw4']
      clear hw4 hw4' hO3
      generalize w3.heap.size = H at *
      go_loopw [3] (fun b wr => ∃ (m : Nat) (rem : List UInt8) (s : List Int), m ≤ M ∧ By Non w2 b rem ∧ Hid (rem.length = 64 * m) ∧ Hid (s.length = 8) ∧ Hid (hashI m s rem = hashI M startI BB) ∧ RowI wr H 73 s ∧ Only Non w2 wr) (fun b _ => match b with | .slice _ l _ => l | _ => 0)
      case atStart => exact ⟨M, BB, startI, Nat.le_refl _, HB2.out.non, by show _ = _; exact HM.out.symm, rfl, rfl, HS3.out.1, HS3.out.2.1⟩
      case round =>
        obtain ⟨m, rem, s, hm, hrem, HRL, HSL, HH, hrow, hO⟩ := hrel
        obtain ⟨A4, c4, rfl, hc1, hc2, hc3⟩ := hrem.open
        have HREM := Lib.hid hrem
        have HROW := Lib.hid hrow
        have HO := Lib.hid hO
        clear hc1 hc2 hc3 hrem hrow hO
        by_cases hm0 : m = 0
        · have hr0 : rem.length = 0 := by have := HRL.out; omega
          have hx0 : rem = [] := List.eq_nil_of_length_eq_zero hr0
          subst hx0
          subst hm0
          have HH2 := Lib.hid (show s = hashI M startI BB from HH.out)
          have HB3 := Lib.hid (show digestB xs = outB s by rw [HH2.out]; exact HB.out)
          clear hr0 HH HRL
          go_wp2_with (refine wpList_load_row rfl 73 _ rfl _ rfl _ _ _ _ (HROW.out.alloc _) Tryd.underlying73 rfl (info8 HSL.out) ?_)
          have HK := Lib.hid (show w2.heap.size ≤ wr.heap.size from HO.out.size)
          have HA := Lib.hid (show RowB (wr.alloc (.cells (bvs (fillB s 0)).toArray 25)) wr.heap.size 25 (fillB s 0) from heap_alloc_new _ _)
          have HOA := Lib.hid (show Only Non w2 (wr.alloc (.cells (bvs (fillB s 0)).toArray 25)) from HO.out.alloc _)
          generalize hK : wr.heap.size = K at *
          clear hK
          go_loopw [38] (fun i wi => ∃ n : Nat, n ≤ 8 ∧ i = .int .i64 n ∧ RowB wi K 25 (fillB s (4 * n)) ∧ Only Non w2 wi) (fun i _ => 8 - (intOf i).toNat)
          case atStart => exact ⟨0, Nat.zero_le _, rfl, HA.out, HOA.out⟩
          case round =>
            obtain ⟨n, hn8, rfl, hrb, hOi⟩ := hrel
            have HRB := Lib.hid hrb
            have HOI := Lib.hid hOi
            clear hrb hOi HA HOA
            by_cases hlt : n < 8
            · have hidx := sidx s n HSL.out hlt
              have hoa := fun k hk => outAt_at s n k hk
              have HSX := Lib.hid hoa
              clear hoa
              generalize hx : s.getD n 0 = x at *
              clear hx
              go_wp2_with fail
              go_loopw [42] (fun i wi => ∃ k : Nat, k ≤ 4 ∧ i = .int .i64 k ∧ RowB wi K 25 (fillB s (4 * n + k)) ∧ Only Non w2 wi) (fun i _ => 4 - (intOf i).toNat)
              case atStart => exact ⟨0, Nat.zero_le _, rfl, HRB.out, HOI.out⟩
              case round =>
                obtain ⟨k, hk4, rfl, hrb, hOi⟩ := hrel
                clear HRB HOI
                have HRB := Lib.hid hrb
                have HOI := Lib.hid hOi
                clear hrb hOi
                by_cases hlk : k < 4
                · have HFS := Lib.hid (fillB_succ s (4 * n + k) (by omega))
                  obtain ⟨old, hold⟩ := HRB.out.cell (k := 4 * n + k) (by rw [fillB_len _ _ (by omega)]; omega)
                  have hfz : wr.frozen? ⟨K, 4 * n + k, none⟩ = false := frozen_of_row _ _ _ _ _ HRB.out
                  have hbv : x / 2 ^ (24 - 8 * k) % 256 = ((outAt s (4 * n + k)).toNat : Int) := (HSX.out k hlk).symm
                  have e4 : (4 : Int) * (n : Int) + (k : Int) = ((4 * n + k : Nat) : Int) := by omega
                  have ec : (24 : Int) - 8 * (k : Int) = ((24 - 8 * k : Nat) : Int) := by omega
                  have hq32 : 4 * n + k < 32 := by omega
                  have hc24 : 24 - 8 * k ≤ 24 := by omega
                  have HK4 := Lib.hid (show 4 * n + (k + 1) = 4 * n + k + 1 from rfl)
                  generalize outAt s (4 * n + k) = bb at *
                  generalize 24 - 8 * k = cc at *
                  generalize hq : 4 * n + k = q at *
                  have HQ := Lib.hid hq
                  clear hq
                  go_wp2_with fail
                  go_roundw
                  case rel => exact ⟨k + 1, by omega, by go_num, by rw [HK4.out, ← HFS.out]; exact HRB.out.set q bb, HOI.out.setCell (.inr HK.out) _⟩
                  case measure => simp [intOf]; omega
                · obtain rfl : k = 4 := by omega
                  go_wp2_with fail
                  go_roundw
                  case rel => exact ⟨n + 1, by omega, by go_num, HRB.out, HOI.out⟩
                  case measure => simp [intOf]; omega
            · obtain rfl : n = 8 := by omega
              have HRB2 := Lib.hid (show RowB wr K 25 (outB s) by
                have h1 := HRB.out
                have h2 : fillB s (4 * 8) = outB s := by
                  unfold fillB
                  rw [List.take_of_length_le (by rw [outB_len]; decide)]
                  simp
                rwa [h2] at h1)
              clear HRB
              have HG0 := Lib.hid (show RowB wr w.heap.size 25 (List.replicate 32 0) from RowB.kept (RowB.kept (RowB.kept (show RowB W0 w.heap.size 25 (List.replicate 32 0) from HR0.out) HOw.out) HOI.out) (Only.refl _ _))
              have HFin := Lib.hid ((HO0.out.trans HOw.out).trans HOI.out)
              have HOL := Lib.hid (outB_len s)
              generalize outB s = D at *
              go_wp2_with (first
                | (refine wpList_load_row rfl 25 _ rfl _ rfl _ _ _ _ HRB2.out Tryd.underlying25 rfl (info32 HOL.out) ?_)
                | (refine wpList_store_row rfl 25 _ _ rfl w.heap.size (bvs D).toArray rfl rfl _ (bvs (List.replicate 32 0)).toArray HG0.out (info32 HOL.out) (by simp [bvs, HOL.out]) (bvs_one D) ?_))
              refine bodyPost_ret (results_cell_row rfl _ _ w.heap.size _ _ _ _ rfl (HG0.out.put D) Tryd.underlying25 rfl (info32 HOL.out)) rfl ?_
              exact ⟨by rw [HXS.out, HB3.out]; rfl, HFin.out.setRow (.inr (Nat.le_refl _)) _⟩
        · have hr0 : 64 ≤ rem.length := by have := HRL.out; omega
          obtain ⟨b4, o4, rfl, _, _, hcells⟩ := HREM.out.at (by omega)
          have HV5 := Lib.hid (slice_if HREM.out 64 hr0)
          have HC := Lib.hid hcells
          have hat : ∀ W, (Instr.arrayAt 76 (.slice (some ⟨b4, o4, none⟩) rem.length c4)).run Tryd.prog W = .ok (.pointer (some ⟨b4, o4, none⟩)) W := fun W => run_arrayAt _ _ 5 64 _ _ _ (by kernel_rfl) hr0
          have hlen : 0 < rem.length := by omega
          have HRG := Lib.hid (show wr.rangeAt b4 o4 (bvs (rem.take 64)) from fun j u hu => by
            have hj : j < (rem.take 64).length := by have := (List.getElem?_eq_some_iff.1 hu).1; simpa [bvs] using this
            have h1 : j < rem.length := by rw [List.length_take] at hj; omega
            have h2 := HC.out j h1
            have h3 : u = .int .u8 (rem[j].toNat : Int) := by
              have : (bvs (rem.take 64))[j]? = some (bv rem[j]) := by
                simp only [bvs, List.getElem?_map, List.getElem?_take]
                rw [if_pos (by rw [List.length_take] at hj; omega), List.getElem?_eq_getElem h1]
                rfl
              rw [this] at hu
              exact (Option.some.inj hu).symm
            rw [h3, HO.out.cell (World.block_lt_of_cell? _ _ h2) id]
            exact h2)
          have HT64 := Lib.hid (show (rem.take 64).length = 64 by rw [List.length_take]; omega)
          have HEr := Lib.hid (HE.out.non (((HO0.out.trans HOw.out).trans HO.out).drew))
          clear hcells
          go_wp2_with fail
          refine wp_region_still_tail 4 (by kernel_rfl) (by kernel_rfl) ?_
          simp only [List.take_succ_cons, List.take_zero, List.drop_succ_cons, List.drop_zero]
          refine still_load rfl 73 _ rfl H 0 rfl (words s).toList _ HROW.out.range Tryd.underlying73 rfl (by rw [info_state]; simp [words, HSL.out]) ?_
          iterate 2 still_step
          refine still_load rfl 76 _ rfl b4 o4 rfl (bvs (rem.take 64)) _ HRG.out Tryd.underlying76 rfl (by rw [info_chunk]; show some 64 = some ((rem.take 64).map bv).length; rw [List.length_map, HT64.out]) ?_
          refine wpStill_nil ?_
          change wpList _ _ _ _ _ wr.drew
          go_wp2_with (first
            | (go_at_call 37; refine (Block_ok _ s (rem.take 64) HEr.out HSL HT64).mono ?_; rintro e w5 ⟨rfl, hO5⟩; unfold aggI)
            | (refine wpList_store_row rfl 73 _ _ rfl H (words (blockI s (rem.take 64))) rfl rfl _ (words s) (HROW.out.kept ((Only.refl _ _).drew.trans hO5)) (info8 (blockI_len HSL.out)) (by rw [words_size, words_size, HSL.out, blockI_len HSL.out]) (words_one _) ?_))
          go_roundw
          case rel =>
            refine ⟨m - 1, rem.drop 64, blockI s (rem.take 64), by omega, HV5.out, ?_, blockI_len HSL.out, ?_, RowI.put (l := s) (HROW.out.kept ((Only.refl _ _).drew.trans hO5)) _, (HO.out.drew.trans hO5).setRow (.inr HS3.out.2.2) _⟩
            · show _ = _
              have := HRL.out
              rw [List.length_drop]
              omega
            · show _ = _
              rw [← HH.out]
              obtain ⟨q, rfl⟩ : ∃ q, m = q + 1 := ⟨m - 1, by omega⟩
              rfl
          case measure =>
            show rem.length - 64 < rem.length
            omega
end Go.Proofs.YtailcinidojdjaaDoor

/- Part of this seat's proofs: contracts of functions of the program and plain lemmas, which the claim's theorem uses. -/
import Derived.Test.YtailcinidojdjaaDoorEntry5
import Derived.Deep.RegionHeld3
import Derived.Deep.DeepCutAuto
namespace Go.Proofs.YtailcinidojdjaaDoor
open Go Go.RowKit
set_option linter.unusedVariables false
set_option linter.unusedSimpArgs false

theorem sumS_take_le : ∀ (l : List Ent), (∀ x ∈ l, 0 ≤ x.size) → ∀ k, 0 ≤ sumS (l.take k) ∧ sumS (l.take k) ≤ sumS l
  | [], _, k => by simp [sumS]
  | x :: l, h, k => by
    have h2 := h x List.mem_cons_self
    cases k with
    | zero =>
      have := sumS_take_le l (fun y hy => h y (List.mem_cons_of_mem _ hy)) 0
      simp only [sumS, List.take_zero, List.map_nil, List.sum_nil, List.map_cons, List.sum_cons] at *
      omega
    | succ k =>
      have := sumS_take_le l (fun y hy => h y (List.mem_cons_of_mem _ hy)) k
      simp only [sumS, List.take_succ_cons, List.map_cons, List.sum_cons] at *
      omega
theorem atOf_sum : ∀ (l : List Ent) (a : Int), 0 ≤ a → (∀ x ∈ l, 0 ≤ x.size ∧ x.size ≤ 1048576) → l.foldl atStep a ≤ 4194304 → a + sumS l = l.foldl atStep a
  | [], a, _, _, _ => by simp [sumS]
  | x :: l, a, ha, h, hl => by
    have h2 := h x List.mem_cons_self
    have hm : ∀ (l : List Ent) (b : Int), 4194305 ≤ b → 4194305 ≤ l.foldl atStep b := by
      intro l
      induction l with
      | nil => intro b hb; exact hb
      | cons y l ih => intro b hb; refine ih _ ?_; unfold atStep mnI mxI; split <;> split <;> split <;> omega
    have hs : atStep a x = a + x.size := by
      have h3 : ¬ 4194305 ≤ atStep a x := fun h' => by have := hm l _ h'; simp only [List.foldl_cons] at hl; omega
      have h4 : mnI (mxI x.size 0) 4194305 = x.size := by
        have h5 : mxI x.size 0 = x.size := if_neg (by omega)
        rw [h5]
        exact if_neg (by omega)
      have h5 : atStep a x = mnI (a + x.size) 4194305 := by unfold atStep; rw [h4]
      rw [h5] at h3 ⊢
      unfold mnI at *
      split at h3
      · omega
      · exact if_neg ‹_›
    have := atOf_sum l (a + x.size) (by omega) (fun y hy => h y (List.mem_cons_of_mem _ hy)) (by rw [List.foldl_cons, hs] at hl; exact hl)
    rw [List.foldl_cons, hs, ← this]
    simp only [sumS, List.map_cons, List.sum_cons]
    omega
/-- what fine entries are -/
theorem fine_facts {l : List Ent} (h : fineB l = true) : l.length ≤ 1024 ∧ (∀ x ∈ l, plainB x = true ∧ rightB x.path = true ∧ 0 ≤ x.size ∧ x.size ≤ 1048576) ∧ 0 ≤ sumS l ∧ sumS l ≤ 4194304 ∧ (∀ k x, l[k]? = some x → x.beg = sumS (l.take k)) := by
  simp only [fineB, Bool.and_eq_true, beq_iff_eq] at h
  obtain ⟨h0, hb⟩ := h
  obtain ⟨h1, h2, h3⟩ := why0_bound h0
  have hsum := atOf_sum l 0 (by omega) h2 h3
  have hs := sum_bound l h2
  have hall : l.all plainB = true ∧ (l.map (·.path)).all rightB = true := by
    unfold whyE at h0
    split at h0; · omega
    split at h0; · omega
    split at h0; · omega
    split at h0; · omega
    split at h0; · omega
    split at h0; · omega
    rename_i g1 g2 g3 g4 g5 g6
    exact ⟨by simpa using g6, by simpa using g1⟩
  have ha : atOf l = l.foldl atStep 0 := rfl
  refine ⟨h1, fun x hx => ⟨List.all_eq_true.1 hall.1 x hx, List.all_eq_true.1 hall.2 _ (List.mem_map_of_mem hx), h2 x hx⟩, hs.1, by omega, fun k x hx => ?_⟩
  have hk : k < l.length := (List.getElem?_eq_some_iff.1 hx).1
  have := List.all_eq_true.1 hb k (by simpa using hk)
  rw [List.getD_eq_getElem?_getD, hx] at this
  simpa using this

def totB (l : List Ent) : Int := if fineB l then sumS l else 0

set_option maxRecDepth 100000 in
theorem Total_ok (M : Nat → Prop) (w : World) (v : Value) (l : List Ent) (hE : Env w) (hv : St entC 7 M w v l) (hn : l.length ≤ 1000000) :
    Calls Tryd.prog 18 #[v] w fun e w' => e = .returned (.int .i64 (totB l)) ∧ Only Non w w' := by
  obtain ⟨A, c, rfl, hc1, hc2, hc3⟩ := hv.open
  have HV := Lib.hid hv
  clear hc1 hc2 hc3 hv
  by_cases h0 : l.length = 0
  · have hl : l = [] := List.eq_nil_of_length_eq_zero h0
    subst hl
    have HT := Lib.hid (show totB [] = 0 by simp [totB, sumS])
    clear h0
    go_enter Tryd.func18, Tryd.ntmps18
    go_wp2
    go_ret
    exact ⟨by rw [HT.out]; rfl, Only.refl _ _⟩
  · have e1 : ((l.length : Int) == 0) = false := by rw [beq_eq_false_iff_ne]; omega
    have hpos : 0 < l.length := by omega
    have H0 := Lib.hid h0
    clear h0
    go_enter Tryd.func18, Tryd.ntmps18
    go_wp2_with fail
    refine (Fine_ok M _ _ l hE HV.out hn).mono ?_
    rintro e w1 ⟨rfl, hO1⟩
    cases hf : fineB l with
    | false =>
      have HT := Lib.hid (show totB l = 0 by simp [totB, hf])
      clear hf
      go_wp2
      go_ret
      exact ⟨by rw [HT.out]; rfl, hO1⟩
    | true =>
      obtain ⟨b, o, rfl, _, _, hc⟩ := (HV.out.kept hO1).at entC_len hpos
      have hlt : l.length - 1 < l.length := by omega
      have hck := hc (l.length - 1) hlt
      have HL := Lib.hid (show l[l.length - 1]? = some l[l.length - 1] from List.getElem?_eq_getElem hlt)
      generalize l[l.length - 1] = x at hck HL
      have HF := fine_facts hf
      have HT := Lib.hid (show x.beg + x.size = totB l by
        have h1 := HF.2.2.2.2 _ _ HL.out
        have h2 : l = l.take (l.length - 1) ++ [x] := by
          have : l.take (l.length - 1 + 1) = l.take (l.length - 1) ++ [x] := by rw [List.take_add_one, HL.out]; rfl
          rwa [show l.length - 1 + 1 = l.length by omega, List.take_length] at this
        have h3 : sumS l = sumS (l.take (l.length - 1)) + x.size := by
          conv => lhs; rw [h2]
          exact sumS_snoc _ _
        simp only [totB, hf, if_true]
        omega)
      have hb1 := HF.2.2.2.2 _ _ HL.out
      have hb2 := sumS_take_le l (fun y hy => (HF.2.1 y hy).2.2.1) (l.length - 1)
      have hb3 := (HF.2.1 x (List.mem_of_getElem? HL.out)).2.2
      have hbb : 0 ≤ x.beg ∧ x.beg ≤ 4194304 := by have := HF.2.2.1; have := HF.2.2.2.1; omega
      clear hb1 hb2 HF hf
      have c0 := hck 0 _ rfl
      have c1 := hck 1 _ rfl
      have c2 := hck 2 _ rfl
      have c3 := hck 3 _ rfl
      have c4 := hck 4 _ rfl
      have c5 := hck 5 _ rfl
      have c6 := hck 6 _ rfl
      rw [Nat.add_zero] at c0
      clear hc hck
      have ei : (l.length : Int) - 1 = ((l.length - 1 : Nat) : Int) := by omega
      generalize l.length - 1 = k at *
      go_wp2
      go_ret
      exact ⟨by rw [← HT.out]; rfl, hO1.alloc _⟩

/-- an entry's bytes -/
def encNums (e : Ent) : List Int := [e.kind, e.mode, e.time, e.beg, e.size]
def nums (l : List Int) : List UInt8 := l.flatMap fun n => numB n.toNat
def strB (s : ByteArray) : List UInt8 := numB s.size ++ s.data.toList
def encE (e : Ent) : List UInt8 := nums (encNums e) ++ (strB e.path ++ strB e.to)
def encL (l : List Ent) : List UInt8 := numB l.length ++ l.flatMap encE

theorem idx5 (a b c d e : Int) (k : Nat) (hk : k < 5) (w : World) : (Instr.index 69 (.agg #[.int .i64 a, .int .i64 b, .int .i64 c, .int .i64 d, .int .i64 e]) (.int .i64 (k : Int))).run Tryd.prog w = .ok (.int .i64 ([a, b, c, d, e].getD k 0)) w := by
  obtain rfl | rfl | rfl | rfl | rfl : k = 0 ∨ k = 1 ∨ k = 2 ∨ k = 3 ∨ k = 4 := by omega
  all_goals kernel_rfl

/-- what Encode tells -/
def EncPost (l : List Ent) (w : World) (e : Ending) (w' : World) : Prop :=
  Only Non w w' ∧ ((fineB l = true ∧ ∃ v', e = .returned (.tuple #[v', .int .i64 0]) ∧ OB w' w.heap.size v' (encL l)) ∨ (fineB l = false ∧ e = .returned (.tuple #[.slice none 0 0, .int .i64 1])))

theorem nums_snoc (l : List Int) (n : Int) : nums (l ++ [n]) = nums l ++ numB n.toNat := by simp [nums]
theorem nums_len (l : List Int) (h : ∀ n ∈ l, 0 ≤ n ∧ n < 2 ^ 40) : (nums l).length ≤ 6 * l.length := by
  induction l with
  | nil => simp [nums]
  | cons a l ih =>
    have h1 := ih (fun n hn => h n (List.mem_cons_of_mem _ hn))
    have h2 := h a List.mem_cons_self
    have h3 := (numB_len a.toNat (by omega)).2
    simp only [nums, List.flatMap_cons, List.length_append, List.length_cons] at *
    omega
theorem plain_nums {x : Ent} (h : plainB x = true) : 0 ≤ x.kind ∧ x.kind ≤ 3 ∧ 0 ≤ x.mode ∧ x.mode ≤ 4096 ∧ 0 ≤ x.time ∧ x.time ≤ 1099511627775 ∧ x.to.size ≤ 256 := by
  unfold plainB at h
  split at h; · cases h
  split at h; · cases h
  split at h; · cases h
  split at h; · cases h
  split at h; · cases h
  split at h; · cases h
  have hz : x.to.toList.isEmpty = true → x.to.size ≤ 256 := fun h' => by
    rw [Lib.toList_data] at h'
    have : x.to.data.toList = [] := by simpa using h'
    rw [Lib.size_eq, this]; simp
  split at h
  · exact ⟨by omega, by omega, by omega, by omega, by omega, by omega, hz h⟩
  · split at h
    · simp only [Bool.and_eq_true] at h
      exact ⟨by omega, by omega, by omega, by omega, by omega, by omega, hz h.1⟩
    · simp only [Bool.and_eq_true, decide_eq_true_eq] at h
      exact ⟨by omega, by omega, by omega, by omega, by omega, by omega, by omega⟩

theorem held2 {w w' w'' : World} {a b : Addr} {u v : Value} (h : w'.cell? a = some u ∧ w'.cell? b = some v ∧ Only Non w w') (k : Only Non w' w'') : w''.cell? a = some u ∧ w''.cell? b = some v ∧ Only Non w w'' :=
  ⟨(k.cell (World.block_lt_of_cell? _ _ h.1) id).trans h.1, (k.cell (World.block_lt_of_cell? _ _ h.2.1) id).trans h.2.1, h.2.2.trans k⟩

set_option maxRecDepth 100000 in
set_option maxHeartbeats 1000000 in
theorem Encode_ok (M : Nat → Prop) (w : World) (v : Value) (l : List Ent) (hE : Env w) (hv : St entC 7 M w v l) (hn : l.length ≤ 1000000) :
    Calls Tryd.prog 17 #[v] w (EncPost l w) := by
  obtain ⟨A, c, rfl, hc1, hc2, hc3⟩ := hv.open
  have HV := Lib.hid hv
  clear hc1 hc2 hc3 hv
  go_enter Tryd.func17, Tryd.ntmps17
  go_wp2_with fail
  refine (Fine_ok M _ _ l hE HV.out hn).mono ?_
  rintro e w1 ⟨rfl, hO1⟩
  cases hf : fineB l with
  | false =>
    have HF := Lib.hid hf
    clear hf
    go_wp2
    go_ret2
    exact ⟨hO1, .inr ⟨HF.out, rfl⟩⟩
  | true =>
    have HFT := Lib.hid hf
    have HF := Lib.hid (fine_facts hf)
    clear hf
    have hl : l.length ≤ 1024 := HF.out.1
    go_wp2_with fail
    refine (Number_ok Non _ _ [] _ (Rd.nil _ _ _) (by simp) (by omega) (by omega)).mono ?_
    rintro e w2 ⟨v2, rfl, hO2, ho2⟩
    have hnl := (numB_len l.length (by omega)).2
    go_wp2_with fail
    go_loopw [4, 17] (fun b i wr => ∃ (k : Nat) (xs : List UInt8), k ≤ l.length ∧ i = .int .i64 k ∧ Hid (xs = numB l.length ++ (l.take k).flatMap encE) ∧ xs.length ≤ 6 + 1000 * k ∧ OB wr w.heap.size b xs ∧ Only Non w wr) (fun _ i _ => l.length - (intOf i).toNat)
    case atStart => exact ⟨0, numB l.length, Nat.zero_le _, rfl, by show _ = _; simp, by omega, (show OB _ _ _ _ by simpa using ho2).lower hO1.size, hO1.trans hO2⟩
    case round =>
      obtain ⟨k, xs, hk, rfl, HX, hxl, hob, hO⟩ := hrel
      by_cases hlt : k < l.length
      · obtain ⟨b, o, rfl, _, _, hc⟩ := (HV.out.kept hO).at entC_len (by omega)
        have hck := hc k hlt
        have HL := Lib.hid (show l[k]? = some l[k] from List.getElem?_eq_getElem hlt)
        generalize l[k] = x at hck HL
        have HP := Lib.hid (HF.out.2.1 x (List.mem_of_getElem? HL.out))
        have hpn := plain_nums HP.out.1
        have hps := right_size HP.out.2.1
        have hsz := HP.out.2.2
        have hbg : 0 ≤ x.beg ∧ x.beg ≤ 4194304 := by
          have h1 := HF.out.2.2.2.2 _ _ HL.out
          have h2 := sumS_take_le l (fun y hy => (HF.out.2.1 y hy).2.2.1) k
          have h3 := HF.out.2.2.2.1
          omega
        have c0 := hck 0 _ rfl
        have c1 := hck 1 _ rfl
        have c2 := hck 2 _ rfl
        have c3 := hck 3 _ rfl
        have c4 := hck 4 _ rfl
        have c5 := hck 5 _ rfl
        have c6 := hck 6 _ rfl
        rw [Nat.add_zero] at c0
        clear hc hck
        have hls : ∀ n ∈ encNums x, 0 ≤ n ∧ n < 2 ^ 40 := by
          intro n hn
          simp only [encNums, List.mem_cons, List.mem_nil_iff, or_false] at hn
          rcases hn with rfl | rfl | rfl | rfl | rfl <;> omega
        have HLS := Lib.hid hls
        clear hls
        go_wp2_with fail
        have hob' : OB (wr.alloc (.cells #[.string x.path, .int .i64 x.kind, .int .i64 x.mode, .int .i64 x.time, .string x.to, .int .i64 x.beg, .int .i64 x.size] 59)) w.heap.size u4 xs := hob.alloc _
        have hOo : Only Non w (wr.alloc (.cells #[.string x.path, .int .i64 x.kind, .int .i64 x.mode, .int .i64 x.time, .string x.to, .int .i64 x.beg, .int .i64 x.size] 59)) := hO.alloc _
        have hhp := heap_alloc_new wr (.cells #[.string x.path, .int .i64 x.kind, .int .i64 x.mode, .int .i64 x.time, .string x.to, .int .i64 x.beg, .int .i64 x.size] 59)
        generalize wr.alloc (.cells #[.string x.path, .int .i64 x.kind, .int .i64 x.mode, .int .i64 x.time, .string x.to, .int .i64 x.beg, .int .i64 x.size] 59) = wo at *
        generalize wr.heap.size = B at *
        have HHP := Lib.hid hhp
        clear hhp c0 c1 c2 c3 c4 c5 c6 hob hO
        go_loopw [4, 32] (fun b j wi => ∃ (q : Nat) (ys : List UInt8), q ≤ 5 ∧ j = .int .i64 q ∧ Hid (ys = xs ++ nums ((encNums x).take q)) ∧ ys.length ≤ xs.length + 6 * q ∧ OB wi w.heap.size b ys ∧ Only Non wo wi) (fun _ j _ => 5 - (intOf j).toNat)
        case atStart => exact ⟨0, xs, by omega, rfl, by show _ = _; simp [nums], by omega, hob', Only.refl _ _⟩
        case round =>
          obtain ⟨q, ys, hq, rfl, HY, hyl, hoy, hOi⟩ := hrel
          by_cases hq5 : q < 5
          · have hix := idx5 x.kind x.mode x.time x.beg x.size q hq5
            have HN := Lib.hid (HLS.out ((encNums x)[q]'(by simpa [encNums] using hq5)) (List.getElem_mem _))
            have HG := Lib.hid (show (encNums x)[q]? = some ([x.kind, x.mode, x.time, x.beg, x.size].getD q 0) by
              rw [List.getD_eq_getElem?_getD]
              show (encNums x)[q]? = some ((encNums x)[q]?.getD 0)
              rw [List.getElem?_eq_getElem (by simpa [encNums] using hq5)]
              rfl)
            have hnb : 0 ≤ [x.kind, x.mode, x.time, x.beg, x.size].getD q 0 ∧ [x.kind, x.mode, x.time, x.beg, x.size].getD q 0 ≤ 1099511627775 := by
              have h1 := HG.out
              rw [List.getElem?_eq_getElem (by simpa [encNums] using hq5)] at h1
              have h2 := HN.out
              rw [Option.some.inj h1] at h2
              omega
            generalize [x.kind, x.mode, x.time, x.beg, x.size].getD q 0 = n at *
            clear HN
            have hnl2 := (numB_len n.toNat (by omega)).2
            go_wp2_with fail
            refine (Number_ok Non _ _ ys n hoy.non (by omega) hnb.1 hnb.2).mono ?_
            rintro e w3 ⟨v3, rfl, hO3, ho3⟩
            have ho3' : OB w3 w.heap.size v3 (ys ++ numB n.toNat) := ho3.lower (hOo.trans hOi).size
            clear ho3
            go_wp2
            go_roundw
            case rel =>
              refine ⟨q + 1, ys ++ numB n.toNat, by omega, by go_num, ?_, by rw [List.length_append]; omega, ho3', hOi.trans hO3⟩
              show _ = _
              rw [List.take_add_one, HG.out, HY.out]
              simp [nums_snoc]
            case measure => simp [intOf]; omega
          · obtain rfl : q = 5 := by omega
            clear hq5 hq
            have hcv := fun W s => Lib.run_convert_string_bytes (P := Tryd.prog) W 9 33 5 s Tryd.underlying9 Tryd.underlying33 Tryd.underlying5
            have hb := HHP.out
            have d0 : wr.cell? ⟨B, 0, none⟩ = some (.string x.path) := by rw [cell_of_row _ _ _ _ _ _ (hOi.heap hb id)]; rfl
            have d4 : wr.cell? ⟨B, 4, none⟩ = some (.string x.to) := by rw [cell_of_row _ _ _ _ _ _ (hOi.heap hb id)]; rfl
            clear hb
            have hp1 : x.path.data.toList.length = x.path.size := by simp
            have hp2 : x.to.data.toList.length = x.to.size := by simp
            have HZ1 := Lib.hid (show ys.length ≤ 35184372088832 ∧ x.path.data.toList.length < 1099511627776 ∧ x.to.data.toList.length < 1099511627776 ∧ (ys ++ numB x.path.data.toList.length ++ x.path.data.toList).length ≤ 35184372088832 by
              have h3 := (numB_len x.path.data.toList.length (by omega)).2
              simp only [List.length_append]
              omega)
            have HM1 := Lib.hid (show x.path.size ≤ maxLen ∧ x.to.size ≤ maxLen by simp only [maxLen]; omega)
            have hstepl : (ys ++ numB x.path.data.toList.length ++ x.path.data.toList ++ numB x.to.data.toList.length ++ x.to.data.toList).length ≤ 6 + 1000 * (k + 1) := by
              have h3 := (numB_len x.path.data.toList.length (by omega)).2
              have h4 := (numB_len x.to.data.toList.length (by omega)).2
              simp only [List.length_append]
              omega
            have hstep : Hid (ys ++ numB x.path.data.toList.length ++ x.path.data.toList ++ numB x.to.data.toList.length ++ x.to.data.toList = numB l.length ++ (l.take (k + 1)).flatMap encE) := by
              show _ = _
              rw [List.take_add_one, HL.out, HY.out, HX.out]
              simp [encE, strB, encNums]
            have hstepl := Lib.hid hstepl
            clear hp1 hp2
            have h0 : ∀ W, Only Non wr W → W.cell? ⟨B, 0, none⟩ = some (.string x.path) := fun W h => (h.cell (World.block_lt_of_cell? _ _ d0) id).trans d0
            have h4 : ∀ W, Only Non wr W → W.cell? ⟨B, 4, none⟩ = some (.string x.to) := fun W h => (h.cell (World.block_lt_of_cell? _ _ d4) id).trans d4
            have hd : Only Non wr wr.drew := (Only.refl _ _).drew
            have hbw : ∀ W s, Only Non wr W → Only Non wr (Lib.bytesWorld W 5 s) := fun W s h => h.trans (conv_only W s)
            clear d0 d4
            go_wp2_with fail
            go_region_with (first
              | (go_at_call_of 34 u4; refine (Bytes_ok Non Non _ _ _ ys x.path.data.toList (hoy.non.kept ?_) ?_ HZ1.out.1 HZ1.out.2.1).mono ?_; (repeat (first | assumption | apply hbw)); (first | exact conv_by _ _ HM1.out.1 | exact (conv_by _ _ HM1.out.1).kept (conv_only _ _)); rintro e w5 ⟨v5, rfl, hO5, ho5⟩; have hw5 : Only Non wr w5 := Only.trans (by repeat (first | assumption | apply hbw)) hO5)
              | (go_at_call_of 34 v5; refine (Bytes_ok Non Non _ _ _ _ x.to.data.toList (OB.non (OB.kept ho5 ?_)) ?_ HZ1.out.2.2.2 HZ1.out.2.2.1).mono ?_; (first | exact Only.refl _ _ | exact conv_only _ _); (first | exact conv_by _ _ HM1.out.2 | exact (conv_by _ _ HM1.out.2).kept hO5 | exact ((conv_by _ _ HM1.out.2).kept (conv_only _ _)).kept hO5); rintro e w6 ⟨v6, rfl, hO6, ho6⟩; have hw6 : Only Non wr w6 := Only.trans (by repeat (first | assumption | apply hbw)) hO6; have ho7 := ho6.lower ((hOo.trans hOi).trans (show Only Non wr _ by repeat (first | assumption | apply hbw))).size))
            all_goals
              go_wp2
              go_roundw
              case rel => exact ⟨k + 1, _, by omega, by go_num, hstep, hstepl.out, ho7, (hOo.trans hOi).trans hw6⟩
              case measure => simp [intOf]; omega
      · go_wp2
        go_ret2
        have hkl : k = l.length := by omega
        have hxs := HX.out
        rw [hkl, List.take_length] at hxs
        exact ⟨hO, .inl ⟨HFT.out, _, rfl, by rw [show encL l = xs from hxs.symm]; exact hob⟩⟩
end Go.Proofs.YtailcinidojdjaaDoor

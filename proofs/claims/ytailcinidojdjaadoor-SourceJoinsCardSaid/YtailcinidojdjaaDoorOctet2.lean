/- Part of this seat's proofs: contracts of functions of the program and plain lemmas, which the claim's theorem uses. -/
import Derived.Test.YtailcinidojdjaaDoorOctet1
import Derived.Lib.ConvBytes
namespace Go.Proofs.YtailcinidojdjaaDoor
open Go Go.RowKit
set_option linter.unusedVariables false
set_option linter.unusedSimpArgs false

/-- a number's bytes -/
def numB (n : Nat) : List UInt8 := if n < 128 then [UInt8.ofNat n] else UInt8.ofNat (n % 128 + 128) :: numB (n / 128)
termination_by n

theorem wraps_i64 (n : Int) (h₀ : 0 ≤ n) (h₁ : n < 2 ^ 62) : IntKind.i64.wrap n = n := by rw [IntKind.wrap_i64]; omega
theorem and_i64 (a b : Nat) (ha : a < 2 ^ 62) (hb : b < 2 ^ 62) : bits .and .i64 (a : Int) (b : Int) = ((a &&& b : Nat) : Int) := (bits_nat .i64 62 (by decide) wraps_i64 a b ha hb).1
theorem or_i64 (a b : Nat) (ha : a < 2 ^ 62) (hb : b < 2 ^ 62) : bits .or .i64 (a : Int) (b : Int) = ((a ||| b : Nat) : Int) := (bits_nat .i64 62 (by decide) wraps_i64 a b ha hb).2
theorem and127 (m : Nat) : m &&& 127 = m % 128 := Nat.and_two_pow_sub_one_eq_mod m 7
theorem or128 (m : Nat) (h : m < 128) : m ||| 128 = m + 128 := by
  have := Nat.two_pow_add_eq_or_of_lt (i := 7) (b := m) (by omega) 1
  simp only [Nat.mul_one] at this
  rw [Nat.or_comm]
  show 128 ||| m = m + 128
  rw [show (128 : Nat) = 2 ^ 7 from rfl, ← this]; omega
theorem num_byte (m : Nat) (h : (m : Int) ≤ 1099511627775) : bits .or .i64 (bits .and .i64 (m : Int) 127) 128 % 256 = ((UInt8.ofNat (m % 128 + 128)).toNat : Int) := by
  have h1 := and_i64 m 127 (by omega) (by omega)
  rw [and127] at h1
  have h2 := or_i64 (m % 128) 128 (by omega) (by omega)
  rw [or128 _ (by omega)] at h2
  simp only [Int.cast_ofNat_Int] at h1 h2
  rw [h1, h2, UInt8.toNat_ofNat']
  omega
theorem num_last (m : Nat) (h : m < 128) : (m : Int) % 256 = ((UInt8.ofNat m).toNat : Int) := by
  rw [UInt8.toNat_ofNat']; omega
theorem numB_more (m : Nat) (h : ¬ m < 128) : numB m = UInt8.ofNat (m % 128 + 128) :: numB (m / 128) := by rw [numB, if_neg h]
theorem numB_last (m : Nat) (h : m < 128) : numB m = [UInt8.ofNat m] := by rw [numB, if_pos h]

set_option maxRecDepth 100000 in
theorem Number_ok (M : Nat → Prop) (w : World) (v : Value) (xs : List UInt8) (n : Int) (hx : By M w v xs) (hl : xs.length ≤ 70368744177663) (h0 : 0 ≤ n) (h1 : n ≤ 1099511627775) :
    Calls Tryd.prog 33 #[v, .int .i64 n] w fun e w' => ∃ v', e = .returned v' ∧ Only Non w w' ∧ OB w' w.heap.size v' (xs ++ numB n.toNat) := by
  obtain ⟨n, rfl⟩ := Int.eq_ofNat_of_zero_le h0
  have HX := Lib.hid hx
  have HL := Lib.hid hl
  clear hx hl
  go_enter Tryd.func33, Tryd.ntmps33
  go_wp2_with fail
  refine (Clone_ok M _ _ xs HX.out (by have := HL.out; omega)).mono ?_
  rintro e w1 ⟨v1, rfl, hO, ho⟩
  have HO := Lib.hid hO
  have HOB := Lib.hid ho
  clear hO ho
  go_wp2_with fail
  go_loopw [1, 5] (fun i v wr => ∃ (m : Nat) (bs : List UInt8), i = .int .i64 m ∧ (m : Int) ≤ 1099511627775 ∧ Hid (bs ++ numB m = xs ++ numB n) ∧ Hid (bs.length + m ≤ 70368744177663 + n) ∧ Hid (Only Non w wr) ∧ Hid (OB wr w.heap.size v bs)) (fun i _ _ => (intOf i).toNat)
  case atStart => exact ⟨n, xs, rfl, by omega, rfl, Nat.add_le_add_right HL.out n, HO, HOB⟩
  case round =>
    obtain ⟨m, bs, rfl, hm, H1, H2, H3, H4⟩ := hrel
    by_cases hlt : 127 < m
    · have hb := num_byte m hm
      have H5 := Lib.hid (numB_more m (by omega))
      have H6 := Lib.hid (show bs.length + 1 + m / 128 ≤ 70368744177663 + n by have := H2.out; omega)
      generalize UInt8.ofNat (m % 128 + 128) = b at hb H5
      go_wp2_with (at_builtin; refine wpl_append rfl _ _ _ rfl 5 _ 1 1 Tryd.underlying33 info_u8 rfl (by decide) (by decide) w.heap.size _ _ _ rfl (H4.out.alloc _) Non _ 1 [bv b] rfl (By.one _ b _ _ (by simp)) (bv_one [b]) (by have := H2.out; omega) (by have := H3.out.size; simp; omega) ?_)
      intro v' w' ho hg hat
      have HG := Lib.hid (show Only Non w w' from (H3.out.alloc _).grown hg (fun k hk => .inr (H4.out.lt k hk).1))
      have HO' := Lib.hid (show OB w' w.heap.size v' (bs ++ [b]) by simpa [OB, bvs] using ho)
      clear ho hg hat
      go_wp2
      go_roundw
      case rel => exact ⟨m / 128, bs ++ [b], by go_num, by omega, by show _ = _; rw [← H1.out, H5.out]; simp, by show _ ≤ _; simpa using H6.out, HG, HO'⟩
      case measure => simp [intOf]; omega
    · obtain ⟨b, rfl⟩ : ∃ b : UInt8, m = b.toNat := ⟨UInt8.ofNat m, by rw [UInt8.toNat_ofNat']; omega⟩
      have H5 := Lib.hid (show numB b.toNat = [b] by rw [numB_last _ (by omega)]; simp)
      go_wp2_with (at_builtin; refine wpl_append rfl _ _ _ rfl 5 _ 1 1 Tryd.underlying33 info_u8 rfl (by decide) (by decide) w.heap.size _ _ _ rfl (H4.out.alloc _) Non _ 1 [bv b] rfl (By.one _ b _ _ (by simp)) (bv_one [b]) (by have := H2.out; omega) (by have := H3.out.size; simp; omega) ?_)
      intro v' w' ho hg hat
      have HG := Lib.hid (show Only Non w w' from (H3.out.alloc _).grown hg (fun k hk => .inr (H4.out.lt k hk).1))
      have HO' := Lib.hid (show OB w' w.heap.size v' (bs ++ [b]) by simpa [OB, bvs] using ho)
      clear ho hg hat
      go_wp2
      go_ret
      exact ⟨_, rfl, HG.out, by rw [show (((n : Nat) : Int)).toNat = n from rfl, ← H1.out, H5.out]; exact HO'.out⟩

theorem numB_len (n : Nat) (h : n < 2 ^ 40) : 1 ≤ (numB n).length ∧ (numB n).length ≤ 6 := by
  have key : ∀ (k n : Nat), n < 128 ^ (k + 1) → 1 ≤ (numB n).length ∧ (numB n).length ≤ k + 1 := by
    intro k
    induction k with
    | zero => intro n h; rw [numB_last n (by omega)]; simp
    | succ k ih =>
      intro n h
      by_cases hn : n < 128
      · rw [numB_last n hn]; simp
      · rw [numB_more n hn]
        have := ih (n / 128) (by rw [Nat.div_lt_iff_lt_mul (by omega), ← Nat.pow_succ]; exact h)
        simp only [List.length_cons]
        omega
  exact key 5 n (by omega)

theorem Bytes_ok (M M' : Nat → Prop) (w : World) (v vx : Value) (xs ys : List UInt8) (hx : By M w v xs) (hy : By M' w vx ys) (hl : Hid (xs.length ≤ 35184372088832)) (hl' : Hid (ys.length < 1099511627776)) :
    Calls Tryd.prog 34 #[v, vx] w fun e w' => ∃ v', e = .returned v' ∧ Only Non w w' ∧ OB w' w.heap.size v' (xs ++ numB ys.length ++ ys) := by
  obtain ⟨A, c, rfl, hc1, hc2, hc3⟩ := hy.open
  clear hc1 hc2 hc3
  go_enter Tryd.func34, Tryd.ntmps34
  go_wp2_with fail
  refine (Number_ok M _ _ xs _ hx (by have := hl.out; omega) (by omega) (by have := hl'.out; omega)).mono ?_
  rintro e w1 ⟨v1, rfl, hO, ho⟩
  have hb : xs.length + (numB ys.length).length + ys.length ≤ 140737488355328 := by
    have h1 := hl.out
    have h2 := hl'.out
    have := numB_len ys.length (by omega)
    omega
  have HB := Lib.hid hb
  clear hb
  go_wp2_with ((at_builtin; refine ap_by rfl _ _ rfl _ _ _ rfl ho _ _ _ rfl (hy.kept hO) (by have := HB.out; simpa using this) hO ?_))
  intro v2 w2 ho2 hO2 hG hat
  clear hat
  go_wp2
  go_ret
  exact ⟨_, rfl, hO2, by simpa using ho2⟩

/-! ### []byte(s) -/
theorem conv_only (w : World) (s : ByteArray) : Only Non w (Lib.bytesWorld w 5 s) :=
  ⟨by simp only [Lib.bytesWorld, World.freeze]; rfl, by simp only [Lib.bytesWorld, World.freeze]; rfl, by simp only [Lib.bytesWorld, World.freeze]; rfl, by rw [Lib.bytesWorld_size]; omega, fun k hk _ => Lib.bytesWorld_at_old w _ s k hk⟩
theorem conv_by (w : World) (s : ByteArray) (hs : s.size ≤ maxLen) : By Non (Lib.bytesWorld w 5 s) (.slice (some ⟨w.heap.size, 0, none⟩) s.size (grownCap w s.size 0 5)) s.data.toList := by
  have hl : s.data.toList.length = s.size := by simp
  rw [← hl]
  refine ⟨by simp [bvs], _, _, rfl, grownCap_ge w _ 0 5, grownCap_le_maxLen _ _ _ _ (by rw [hl]; exact hs), nofun, fun _ => ⟨_, 0, rfl, id, by rw [Lib.bytesWorld_size]; omega, fun j u hu => ?_⟩⟩
  have hj : j < s.size := by have := (List.getElem?_eq_some_iff.1 hu).1; simpa [bvs] using this
  rw [Nat.zero_add, Lib.bytesWorld_cell w _ s j hj]
  simp only [bvs, List.getElem?_map] at hu
  rw [List.getD_eq_getElem?_getD]
  have hj' : j < s.data.toList.length := by simpa using hj
  rw [List.getElem?_eq_getElem hj'] at hu ⊢
  simpa [bv] using hu
end Go.Proofs.YtailcinidojdjaaDoor

/- Part of this seat's proofs: contracts of functions of the program and plain lemmas, which the claim's theorem uses. -/
import Derived.Test.YtailcinidojdjaaDoorPath3
namespace Go.Proofs.YtailcinidojdjaaDoor
open Go Go.RowKit
set_option linter.unusedVariables false
set_option linter.unusedSimpArgs false

def cmpS (a b : ByteArray) : Int := if Op.bytesLess a.toList b.toList then -1 else if a.toList == b.toList then 0 else 1

theorem toList_inj {a b : ByteArray} (h : a.toList = b.toList) : a = b := by
  rw [Lib.toList_data, Lib.toList_data] at h
  cases a; cases b
  simp only [ByteArray.mk.injEq]
  exact Array.toList_inj.1 h

theorem cmpS_ok (a b : ByteArray) (w : World) : Calls Tryd.prog 55 #[.string a, .string b] w fun e w' => e = .returned (.int .i64 (cmpS a b)) ∧ w = w' := by
  cases h1 : Op.bytesLess a.toList b.toList with
  | true =>
    have HB := Lib.hid (show cmpS a b = -1 by simp [cmpS, h1])
    go_enter Tryd.func55, Tryd.ntmps55
    go_wp2
    go_ret
    exact ⟨by rw [HB.out]; rfl, rfl⟩
  | false =>
    cases h2 : (a.toList == b.toList) with
    | true =>
      have HB := Lib.hid (show cmpS a b = 0 by simp [cmpS, h1, h2])
      obtain rfl : a = b := toList_inj (by simpa using h2)
      clear h2
      go_enter Tryd.func55, Tryd.ntmps55
      go_wp2
      go_ret
      exact ⟨by rw [HB.out]; rfl, rfl⟩
    | false =>
      have HB := Lib.hid (show cmpS a b = 1 by simp [cmpS, h1, h2])
      go_enter Tryd.func55, Tryd.ntmps55
      go_wp2
      all_goals go_ret
      exact ⟨by rw [HB.out]; rfl, rfl⟩

/-- which of two lists of strings stands ahead -/
def cmpL : List ByteArray → List ByteArray → Int
  | [], [] => 0
  | [], _ :: _ => -1
  | _ :: _, [] => 1
  | a :: l, b :: r => if cmpS a b = 0 then cmpL l r else cmpS a b

theorem cmpL_drop (l r : List ByteArray) (k : Nat) (hk : k < l.length) (hr : k < r.length) : cmpL (l.drop k) (r.drop k) = if cmpS l[k] r[k] = 0 then cmpL (l.drop (k + 1)) (r.drop (k + 1)) else cmpS l[k] r[k] := by
  rw [List.drop_eq_getElem_cons hk, List.drop_eq_getElem_cons hr, cmpL]

set_option maxRecDepth 100000 in
theorem CompareL_ok (M M' : Nat → Prop) (w : World) (v v' : Value) (l r : List ByteArray) (hv : Ss M w v l) (hv' : Ss M' w v' r) (hn : l.length ≤ 1000000) (hn' : r.length ≤ 1000000) :
    Calls Tryd.prog 50 #[v, v'] w fun e w' => e = .returned (.int .i64 (cmpL l r)) ∧ w = w' := by
  obtain ⟨A, c, rfl, hc1, hc2, hc3⟩ := hv.open
  obtain ⟨A', c', rfl, hc1', hc2', hc3'⟩ := hv'.open
  have HV := Lib.hid hv
  have HV' := Lib.hid hv'
  clear hc1 hc2 hc3 hc1' hc2' hc3' hv hv'
  go_enter Tryd.func50, Tryd.ntmps50
  go_wp2_with fail
  go_loop [11] (fun i => ∃ k : Nat, k ≤ l.length ∧ k ≤ r.length ∧ i = .int .i64 k ∧ Hid (cmpL l r = cmpL (l.drop k) (r.drop k))) (fun i => l.length - (intOf i).toNat)
  case atStart => exact ⟨0, Nat.zero_le _, Nat.zero_le _, rfl, rfl⟩
  case round =>
    obtain ⟨k, hk, hk', rfl, HP⟩ := hrel
    by_cases hlt : k < l.length
    · obtain ⟨b, o, rfl, _, _, hc⟩ := HV.out.at (by omega)
      have hck := hc k hlt
      clear hc
      by_cases hlt' : k < r.length
      · obtain ⟨b', o', rfl, _, _, hc⟩ := HV'.out.at (by omega)
        have hck' := hc k hlt'
        clear hc
        have HD := Lib.hid (cmpL_drop l r k hlt hlt')
        generalize l[k] = x at hck HD
        generalize r[k] = y at hck' HD
        cases h0 : decide (cmpS x y = 0) with
        | true =>
          have e0 : cmpS x y = 0 := by simpa using h0
          have E0 := Lib.hid e0
          clear h0 e0
          go_wp2_with fail
          refine (cmpS_ok x y _).mono ?_
          rintro e w1 ⟨rfl, rfl⟩
          rw [E0.out]
          go_wp2
          go_round
          case rel =>
            refine ⟨k + 1, by omega, by omega, by go_num, ?_⟩
            show _ = _
            rw [HP.out, HD.out, if_pos E0.out]
          case measure => simp [intOf]; omega
        | false =>
          have e0 : cmpS x y ≠ 0 := by simpa using h0
          have HE := Lib.hid (show cmpL l r = cmpS x y by rw [HP.out, HD.out, if_neg e0])
          have e1 : (cmpS x y == 0) = false := by simpa using e0
          have e2 : (cmpS x y != 0) = true := by simpa using e0
          clear h0 e0
          go_wp2_with fail
          refine (cmpS_ok x y _).mono ?_
          rintro e w1 ⟨rfl, rfl⟩
          generalize cmpS x y = z at *
          go_wp2
          go_ret
          exact ⟨by rw [HE.out]; rfl, rfl⟩
      · have HE := Lib.hid (show cmpL l r = 1 by
          rw [HP.out, List.drop_eq_getElem_cons hlt, List.drop_of_length_le (l := r) (by omega), cmpL])
        obtain rfl : k = r.length := by omega
        clear hlt'
        go_wp2
        go_ret
        exact ⟨by rw [HE.out]; rfl, rfl⟩
    · have hkl : k = l.length := by omega
      by_cases hr : l.length < r.length
      · have HE := Lib.hid (show cmpL l r = -1 by
          rw [HP.out, List.drop_of_length_le (l := l) (by omega), List.drop_eq_getElem_cons (l := r) (by omega), cmpL])
        clear hkl
        go_wp2
        go_ret
        exact ⟨by rw [HE.out]; rfl, rfl⟩
      · have HE := Lib.hid (show cmpL l r = 0 by
          rw [HP.out, List.drop_of_length_le (l := l) (by omega), List.drop_of_length_le (l := r) (by omega), cmpL])
        clear hkl
        go_wp2
        go_ret
        exact ⟨by rw [HE.out]; rfl, rfl⟩

def cmpP (a b : ByteArray) : Int := cmpL (parts a) (parts b)

theorem Compare_ok (a b : ByteArray) (w : World) (hE : Env w) (ha : Hid (a.size ≤ 900000)) (hb : Hid (b.size ≤ 900000)) :
    Calls Tryd.prog 44 #[.string a, .string b] w fun e w' => e = .returned (.int .i64 (cmpP a b)) ∧ Only Non w w' := by
  have h1 := parts_len a
  have h2 := parts_len b
  have H1 := Lib.hid h1
  have H2 := Lib.hid h2
  clear h1 h2
  go_enter Tryd.func44, Tryd.ntmps44
  go_wp2_with fail
  refine (Split_ok a _ hE (by have := ha.out; show _ < _; omega)).mono ?_
  rintro e w1 ⟨v1, rfl, hO, hv⟩
  go_wp2_with fail
  refine (Split_ok b _ (hE.non hO) (by have := hb.out; show _ < _; omega)).mono ?_
  rintro e w2 ⟨v2, rfl, hO2, hv2⟩
  go_wp2_with fail
  refine (CompareL_ok Non Non _ _ _ (parts a) (parts b) (hv.kept hO2) hv2 (by have := ha.out; have := H1.out; omega) (by have := hb.out; have := H2.out; omega)).mono ?_
  rintro e w3 ⟨rfl, rfl⟩
  go_wp2
  go_ret
  exact ⟨rfl, hO.trans hO2⟩
end Go.Proofs.YtailcinidojdjaaDoor

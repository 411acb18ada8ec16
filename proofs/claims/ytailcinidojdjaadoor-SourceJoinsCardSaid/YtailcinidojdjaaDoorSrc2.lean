/- Part of this seat's proofs: contracts of functions of the program and plain lemmas, which the claim's theorem uses. -/
import Derived.Test.YtailcinidojdjaaDoorDig6
namespace Go.Proofs.YtailcinidojdjaaDoor
open Go Go.RowKit
set_option linter.unusedVariables false
set_option linter.unusedSimpArgs false

/-- room for n bytes -/
theorem Grow_ok (w : World) (n : Nat) (hn : n ≤ 100000000) :
    Calls Tryd.prog 39 #[.slice none 0 0, .int .i64 (n : Int)] w fun e w' => ∃ v', e = .returned v' ∧ Only Non w w' ∧ OB w' w.heap.size v' [] := by
  by_cases h0 : n = 0
  · subst h0
    refine (Any8.slices_Grow_room Tryd.growB none 0 0 0 w (Nat.le_refl _) (by omega) (by omega) (Nat.le_refl _)).mono ?_
    rintro e w' ⟨rfl, rfl⟩
    exact ⟨_, rfl, Only.refl _ _, rfl, .inl ⟨rfl, rfl⟩⟩
  · obtain ⟨i0, hi0, hz0⟩ : ∃ i0, Tryd.prog.info? 5 = some i0 ∧ (i0.zero, i0.size, i0.bytes) = (some (.int .u8 0), 1, 1) := by
      have h := info_u8
      cases hi : Tryd.prog.info? 5 with
      | none => rw [hi] at h; cases h
      | some i0 => rw [hi] at h; exact ⟨i0, rfl, Option.some.inj h⟩
    have hs : i0.size = 1 := congrArg (fun x => x.2.1) hz0
    have hb : i0.bytes = 1 := congrArg (fun x => x.2.2) hz0
    have hzz : i0.zero = some (.int .u8 0) := congrArg (fun x => x.1) hz0
    have hm : n ≤ maxLen := by simp only [maxLen]; omega
    refine (Any8.slices_Grow_grow Tryd.growB i0 (.int .u8 0) hi0 hzz (by omega) none 0 0 n [] w (Nat.le_refl _) (by omega) (by rw [hb]; omega) (by omega) (by simp) (fun _ => rfl) nofun).mono ?_
    rintro e w' ⟨rfl, rfl⟩
    have h1 := grownCap_ge w (0 + n) 0 5
    have h2 := grownCap_le_maxLen w (0 + n) 0 5 (by omega)
    refine ⟨_, rfl, ((Only.refl _ _).drew).alloc _, rfl, .inr ⟨_, _, _, rfl, Nat.le_refl _, heap_alloc_new w.drew _, Nat.zero_le _, h2, ?_, by simp [bvs]⟩⟩
    show (_ : Array Value).size = grownCap w (0 + n) 0 5 * 1
    simp only [Array.size_append, size_zeroCells, List.size_toArray, List.length_nil]
    have hc : (Value.int .u8 0).cells.size = 1 := rfl
    rw [hc]
    show 0 + (0 + n - 0) * 1 + (grownCap w (0 + n) 0 5 - (0 + n)) * 1 = _
    omega
set_option maxRecDepth 100000 in
set_option maxHeartbeats 1000000 in
theorem Concat_ok (w : World) (v : Value) (ps : List (Value × List UInt8)) (hv : Bys Non w v ps) (hn : ps.length ≤ 1000000) (hl : (catB ps).length ≤ 10000000) :
    Calls Tryd.prog 24 #[v] w fun e w' => ∃ v', e = .returned v' ∧ Only Non w w' ∧ OB w' w.heap.size v' (catB ps) := by
  obtain ⟨A, c, rfl, hc1, hc2, hc3⟩ := hv.1.form
  have HV := Lib.hid hv
  clear hc1 hc2 hc3 hv
  go_enter Tryd.func24, Tryd.ntmps24
  go_wp2_with fail
  go_loopw [3, 11] (fun t i wr => ∃ (k m : Nat), k ≤ ps.length ∧ i = .int .i64 k ∧ t = .int .i64 m ∧ Hid (m = (catB (ps.take k)).length) ∧ m ≤ 10000000 ∧ Only Non w wr) (fun _ i _ => ps.length - (intOf i).toNat)
  case atStart => exact ⟨0, 0, Nat.zero_le _, rfl, rfl, by show _ = _; simp [catB], by simp, Only.refl _ _⟩
  case round =>
    obtain ⟨k, m, hk, rfl, rfl, HM, hm, hO⟩ := hrel
    by_cases hlt : k < ps.length
    · obtain ⟨b, o, rfl, hb, hc⟩ := (HV.out.kept hO).at (by omega)
      have hck := hc k hlt
      have HL := Lib.hid (show ps[k]? = some ps[k] from List.getElem?_eq_getElem hlt)
      clear hc hb
      generalize ps[k] = p at hck HL
      have HP := Lib.hid ((HV.out.2 p (List.mem_of_getElem? HL.out)).kept hO)
      obtain ⟨pv, ys⟩ := p
      have HP2 := Lib.hid (show By Non wr pv ys from HP.out)
      simp only at hck
      clear HP
      obtain ⟨A3, c3, hpv, hd1, hd2, hd3⟩ := HP2.out.open
      subst hpv
      clear hd1 hd2 hd3
      have HM2 := Lib.hid (show m + ys.length = (catB (ps.take (k + 1))).length by rw [HM.out, List.take_add_one, HL.out]; simp [catB])
      have hm2 : m + ys.length ≤ 10000000 := by
        have h1 := catB_take ps (k + 1)
        rw [← HM2.out] at h1
        omega
      have hyl : ys.length ≤ 10000000 := by omega
      have e1 : (m : Int) + (ys.length : Int) = ((m + ys.length : Nat) : Int) := by omega
      generalize hm3 : m + ys.length = m3 at *
      have HM3 := Lib.hid hm3
      clear hm3
      go_wp2
      go_roundw
      case rel => exact ⟨k + 1, m3, by omega, by go_num, rfl, HM2, hm2, hO⟩
      case measure => simp [intOf]; omega
    · obtain rfl : k = ps.length := by omega
      rw [List.take_length] at HM
      have HM2 := Lib.hid HM.out
      clear HM hlt hk
      go_wp2_with (go_at_call 39; refine (Grow_ok _ m (by omega)).mono ?_; rintro e w1 ⟨v1, rfl, hO1, ho1⟩)
      have ho1' := ho1.lower hO.size
      have HO1 := Lib.hid (hO.trans hO1)
      have HB1 := Lib.hid ho1'
      clear ho1 ho1' hO hO1
      go_loopw [6, 27] (fun b i wr => ∃ (k : Nat) (xs : List UInt8), k ≤ ps.length ∧ i = .int .i64 k ∧ Hid (xs = catB (ps.take k)) ∧ xs.length ≤ 10000000 ∧ OB wr w.heap.size b xs ∧ Only Non w wr) (fun _ i _ => ps.length - (intOf i).toNat)
      case atStart => exact ⟨0, [], Nat.zero_le _, rfl, by show _ = _; simp [catB], by simp, HB1.out, HO1.out⟩
      case round =>
        obtain ⟨k, xs, hk, rfl, HX, hxl, hob, hO⟩ := hrel
        obtain ⟨A2, c2, rfl, hc1, hc2, hc3⟩ := hob.non.open
        have HO := Lib.hid hob
        clear hob hc1 hc2 hc3
        by_cases hlt : k < ps.length
        · obtain ⟨b, o, rfl, hb, hc⟩ := (HV.out.kept hO).at (by omega)
          have hck := hc k hlt
          have HL := Lib.hid (show ps[k]? = some ps[k] from List.getElem?_eq_getElem hlt)
          clear hc hb
          generalize ps[k] = p at hck HL
          have HP := Lib.hid ((HV.out.2 p (List.mem_of_getElem? HL.out)).kept hO)
          obtain ⟨pv, ys⟩ := p
          have HP2 := Lib.hid (show By Non wr pv ys from HP.out)
          simp only at hck
          clear HP
          obtain ⟨A3, c3, hpv, hd1, hd2, hd3⟩ := HP2.out.open
          subst hpv
          clear hd1 hd2 hd3
          have HX2 := Lib.hid (show xs ++ ys = catB (ps.take (k + 1)) by rw [List.take_add_one, HL.out, HX.out]; simp [catB])
          have HN := Lib.hid (show xs.length + ys.length ≤ 10000000 by
            have h1 := catB_take ps (k + 1)
            rw [← HX2.out, List.length_append] at h1
            omega)
          go_wp2_with ((at_builtin; refine ap_by rfl _ _ rfl _ _ _ rfl HO.out _ _ _ rfl HP2.out (by have := HN.out; omega) hO ?_))
          intro v' w' ho hO' hG hat
          have HO' := Lib.hid ho
          clear hat hG ho HO
          go_wp2
          go_roundw
          case rel => exact ⟨k + 1, _, by omega, by go_num, HX2, by have := HN.out; rw [List.length_append]; exact this, HO'.out, hO'⟩
          case measure => simp [intOf]; omega
        · obtain rfl : k = ps.length := by omega
          have hX := HX.out
          rw [List.take_length] at hX
          go_wp2
          go_ret
          exact ⟨_, rfl, hO, by rw [← hX]; exact HO.out⟩
theorem Join_ok (w : World) (v : Value) (ps : List (Value × List UInt8)) (hv : Bys Non w v ps) (hn : ps.length ≤ 1000000) (hl : (catB ps).length ≤ 10000000) :
    Calls Tryd.prog 12 #[v] w fun e w' => ∃ v', e = .returned v' ∧ Only Non w w' ∧ OB w' w.heap.size v' (catB ps) := by
  go_enter Tryd.func12, Tryd.ntmps12
  go_wp2_with (go_at_call 24; refine (Concat_ok _ v ps hv hn hl).mono ?_; rintro e w1 ⟨v1, rfl, hO1, ho1⟩)
  go_ret
  exact ⟨_, rfl, hO1, ho1⟩
end Go.Proofs.YtailcinidojdjaaDoor

/- Part of this seat's proofs: contracts of functions of the program and plain lemmas, which the claim's theorem uses. -/
import Derived.Test.YtailcinidojdjaaDoorEntry2
namespace Go.Proofs.YtailcinidojdjaaDoor
open Go Go.RowKit
set_option linter.unusedVariables false
set_option linter.unusedSimpArgs false

def mxI (a b : Int) : Int := if a < b then b else a
def mnI (a b : Int) : Int := if b < a then b else a
def atStep (a : Int) (e : Ent) : Int := mnI (a + mnI (mxI e.size 0) 4194305) 4194305
theorem at_val (a : Int) (e : Ent) : Value.int .i64 (min (a + min (max e.size 0) 4194305) 4194305) = Value.int .i64 (atStep a e) := by
  refine congrArg (Value.int .i64) ?_
  unfold atStep mnI mxI
  split <;> split <;> split <;> omega
def atOf (l : List Ent) : Int := l.foldl atStep 0
def whyE (l : List Ent) : Int :=
  if (l.map (·.path)).all rightB = false then 9 else if sortedB (l.map (·.path)) = false then 10
  else if 1024 < l.length then 7 else if 4194304 < atOf l then 7 else if l.all (fun e => decide (e.size ≤ 1048576)) = false then 7
  else if l.all plainB = false then 1 else 0

theorem can_Right : CanCall 27 := fun _ _ => by kernel_rfl
theorem can_why1 : CanCall 30 := fun _ _ => by kernel_rfl
theorem can_plain : CanCall 31 := fun _ _ => by kernel_rfl

theorem range_all {α : Type} (l : List α) (p : α → Bool) (q : Nat → Bool) (h : ∀ k x, l[k]? = some x → q k = p x) : (List.range l.length).all q = l.all p := by
  rw [Bool.eq_iff_iff, List.all_eq_true, List.all_eq_true]
  constructor
  · intro h1 x hx
    obtain ⟨k, hk, rfl⟩ := List.mem_iff_getElem.1 hx
    rw [← h k _ (List.getElem?_eq_getElem hk)]
    exact h1 k (by simpa using hk)
  · intro h1 k hk
    have hk' := List.mem_range.1 hk
    rw [h k _ (List.getElem?_eq_getElem hk')]
    exact h1 _ (List.getElem_mem hk')

theorem allP_ok (f : FuncId) (hcf : CanCall f) (p : Ent → Bool) (M : Nat → Prop) (w : World) (v : Value) (l : List Ent) (hv : St entC 7 M w v l) (hn : l.length ≤ 1000000)
    (hf : ∀ x w', Calls Tryd.prog f #[.agg (entC x).toArray] w' fun e w'' => e = .returned (.bool (p x)) ∧ Only Non w' w'') :
    Calls Tryd.prog 29 #[v, .func (.func f) #[] #[]] w fun e w' => e = .returned (.bool (l.all p)) ∧ Only Non w w' := by
  have key := allE_ok f #[] hcf Non M (fun _ _ => True) (fun k => match l[k]? with | some x => p x | none => true) w v l hv hn (fun _ _ h => h.elim) trivial (fun _ _ _ _ _ => trivial)
    (fun k x w' hx _ _ => (hf x w').mono fun e w'' ⟨h1, h2⟩ => ⟨by rw [h1]; simp only [hx], h2, fun _ => trivial⟩)
  refine key.mono fun e w' ⟨h1, h2⟩ => ⟨?_, h2⟩
  rw [h1, range_all l p _ (fun k x hx => by simp only [hx])]

set_option maxRecDepth 100000 in
theorem why_ok (M : Nat → Prop) (w : World) (v : Value) (l : List Ent) (hE : Env w) (hv : St entC 7 M w v l) (hn : l.length ≤ 1000000) :
    Calls Tryd.prog 13 #[v] w fun e w' => e = .returned (.int .i64 (whyE l)) ∧ Only Non w w' := by
  obtain ⟨A, c, rfl, hc1, hc2, hc3⟩ := hv.open
  have HV := Lib.hid hv
  clear hc1 hc2 hc3 hv
  go_enter Tryd.func13, Tryd.ntmps13
  go_wp2_with fail
  go_loopw [3, 8] (fun at_ i wr => ∃ (k : Nat) (a : Int), k ≤ l.length ∧ i = .int .i64 k ∧ at_ = .int .i64 a ∧ 0 ≤ a ∧ a ≤ 4194305 ∧ Hid (a = atOf (l.take k)) ∧ Only Non w wr) (fun _ i _ => l.length - (intOf i).toNat)
  case atStart => exact ⟨0, 0, Nat.zero_le _, rfl, rfl, by omega, by omega, rfl, Only.refl _ _⟩
  case round =>
    obtain ⟨k, a, hk, rfl, rfl, ha0, ha1, HA, hO⟩ := hrel
    by_cases hlt : k < l.length
    · obtain ⟨b, o, rfl, _, _, hc⟩ := (HV.out.kept hO).at entC_len (by omega)
      have hck := hc k hlt
      have HL := Lib.hid (show l[k]? = some l[k] from List.getElem?_eq_getElem hlt)
      generalize l[k] = x at hck HL
      have c0 := hck 0 _ rfl
      have c1 := hck 1 _ rfl
      have c2 := hck 2 _ rfl
      have c3 := hck 3 _ rfl
      have c4 := hck 4 _ rfl
      have c5 := hck 5 _ rfl
      have c6 := hck 6 _ rfl
      rw [Nat.add_zero] at c0
      clear hc hck
      have HS := Lib.hid (show 0 ≤ atStep a x ∧ atStep a x ≤ 4194305 by unfold atStep mnI mxI; split <;> split <;> split <;> omega)
      go_wp2_with fail
      refine ⟨⟨k + 1, atStep a x, by omega, by go_num, at_val a x, HS.out.1, HS.out.2, ?_, hO.alloc _⟩, by simp [intOf]; omega⟩
      show _ = _
      rw [List.take_add_one, HL.out]
      simp only [Option.toList_some, atOf, List.foldl_append, List.foldl_cons, List.foldl_nil]
      rw [HA.out]
      rfl
    · have hkl : k = l.length := by omega
      have HAT := Lib.hid (show a = atOf l by rw [HA.out, hkl, List.take_of_length_le (Nat.le_refl _)])
      clear hkl HA
      have hn' : (l.map (·.path)).length ≤ 1000000 := by simpa using hn
      go_wp2_with fail
      refine (paths_ok M _ _ l (HV.out.kept hO) hn).mono ?_
      rintro e w1 ⟨v1, rfl, hO1, hv1⟩
      go_wp2_with fail
      refine (allS_ok _ #[] can_Right rightB _ _ _ (l.map (·.path)) hv1 hn' (fun x w' _ h => Right_ok x w' (((hE.non hO).non hO1).non h))).mono ?_
      rintro e w2 ⟨rfl, hO2⟩
      have hE2 : Env w2 := ((hE.non hO).non hO1).non hO2
      have hO2' : Only Non w w2 := (hO.trans hO1).trans hO2
      cases h1 : (l.map (·.path)).all rightB with
      | false =>
        have HE := Lib.hid (show whyE l = 9 by simp only [whyE, h1]; rfl)
        clear h1
        go_wp2
        go_ret
        exact ⟨by rw [HE.out]; rfl, hO2'⟩
      | true =>
        have H1 := Lib.hid h1
        clear h1
        go_wp2_with fail
        refine (paths_ok M _ _ l (HV.out.kept hO2') hn).mono ?_
        rintro e w3 ⟨v3, rfl, hO3, hv3⟩
        go_wp2_with fail
        refine (Sorted_ok _ _ _ (l.map (·.path)) (hE2.non hO3) hv3 hn').mono ?_
        rintro e w4 ⟨rfl, hO4⟩
        have hE4 : Env w4 := (hE2.non hO3).non hO4
        have hO4' : Only Non w w4 := (hO2'.trans hO3).trans hO4
        clear hv3 hO3 hO4 hE2 hO1 hO2 hO2' hv1
        cases h2 : sortedB (l.map (·.path)) with
        | false =>
          have HE := Lib.hid (show whyE l = 10 by simp only [whyE, H1.out, h2]; rfl)
          clear h2
          go_wp2
          go_ret
          exact ⟨by rw [HE.out]; rfl, hO4'⟩
        | true =>
          have H2 := Lib.hid h2
          clear h2
          by_cases h3 : 1024 < l.length
          · have HE := Lib.hid (show whyE l = 7 by simp only [whyE, H1.out, H2.out, h3]; rfl)
            go_wp2
            go_ret
            exact ⟨by rw [HE.out]; rfl, hO4'⟩
          · by_cases h4 : 4194304 < a
            · have HE := Lib.hid (show whyE l = 7 by have := HAT.out; subst this; simp only [whyE, H1.out, H2.out, h3, h4]; rfl)
              go_wp2
              go_ret
              exact ⟨by rw [HE.out]; rfl, hO4'⟩
            · have H3 := Lib.hid h3
              have H4 := Lib.hid (show ¬ 4194304 < atOf l by have := HAT.out; omega)
              go_wp2_with fail
              refine (allP_ok _ can_why1 (fun e => decide (e.size ≤ 1048576)) M _ _ l (HV.out.kept hO4') hn (fun x w' => why1_ok x w')).mono ?_
              rintro e w5 ⟨rfl, hO5⟩
              cases h5 : l.all (fun e => decide (e.size ≤ 1048576)) with
              | false =>
                have HE := Lib.hid (show whyE l = 7 by simp [whyE, H1.out, H2.out, H3.out, H4.out, h5])
                clear h5
                go_wp2
                go_ret
                exact ⟨by rw [HE.out]; rfl, hO4'.trans hO5⟩
              | true =>
                have H5 := Lib.hid h5
                clear h5
                go_wp2_with fail
                refine (allP_ok _ can_plain plainB M _ _ l (HV.out.kept (hO4'.trans hO5)) hn (fun x w' => plain_ok x w')).mono ?_
                rintro e w6 ⟨rfl, hO6⟩
                cases h6 : l.all plainB with
                | false =>
                  have HE := Lib.hid (show whyE l = 1 by simp [whyE, H1.out, H2.out, H3.out, H4.out, H5.out, h6])
                  clear h6
                  go_wp2
                  go_ret
                  exact ⟨by rw [HE.out]; rfl, (hO4'.trans hO5).trans hO6⟩
                | true =>
                  have HE := Lib.hid (show whyE l = 0 by simp [whyE, H1.out, H2.out, H3.out, H4.out, H5.out, h6])
                  clear h6
                  go_wp2
                  go_ret
                  exact ⟨by rw [HE.out]; rfl, (hO4'.trans hO5).trans hO6⟩
end Go.Proofs.YtailcinidojdjaaDoor

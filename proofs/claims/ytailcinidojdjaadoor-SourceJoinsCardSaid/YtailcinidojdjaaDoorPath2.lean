/- Part of this seat's proofs: contracts of functions of the program and plain lemmas, which the claim's theorem uses. -/
import Derived.Test.YtailcinidojdjaaDoorPath1
namespace Go.Proofs.YtailcinidojdjaaDoor
open Go Go.RowKit
set_option linter.unusedVariables false
set_option linter.unusedSimpArgs false

/-- strings as cells -/
def strs (l : List ByteArray) : List Value := l.map Value.string
/-- v reads as a list of strings -/
def Ss (M : Nat → Prop) (w : World) (v : Value) (l : List ByteArray) : Prop := Rd M w 1 v l.length (strs l)
theorem Ss.kept {M : Nat → Prop} {w w' : World} {v : Value} {l : List ByteArray} (h : Ss M w v l) (k : Only Non w w') : Ss M w' v l := Rd.kept h k
theorem Ss.open {M : Nat → Prop} {w : World} {v : Value} {l : List ByteArray} (h : Ss M w v l) : ∃ A c, v = .slice A l.length c ∧ l.length ≤ c ∧ c ≤ maxLen ∧ (A = none → c = 0) := Rd.form h
theorem Ss.at {M : Nat → Prop} {w : World} {A : Option Addr} {c : Nat} {l : List ByteArray} (h : Ss M w (.slice A l.length c) l) (hn : 0 < l.length) :
    ∃ b o, A = some ⟨b, o, none⟩ ∧ ¬ M b ∧ b < w.heap.size ∧ ∀ j (hj : j < l.length), w.cell? ⟨b, o + j, none⟩ = some (.string l[j]) := by
  obtain ⟨_, A', c', e, _, _, _, h5⟩ := h
  injection e with e1 e2 e3
  subst e1 e3
  obtain ⟨b, o, e, hM, hb, hc⟩ := h5 hn
  exact ⟨b, o, e, hM, hb, fun j hj => hc j _ (by simp [strs, hj])⟩

/-- a function with a body: a call of its value is a call -/
def CanCall (f : FuncId) : Prop := ∀ (args : Array Value) (w : World), (callFunc f args).run Tryd.prog w = .ok (.enter f args) w

def idxOf {α : Type} (p : α → Bool) (l : List α) : Int := match l.findIdx? p with | some i => (i : Int) | none => -1

set_option maxRecDepth 100000 in
theorem IndexFuncS_ok (f : FuncId) (caps : Array Value) (hcf : CanCall f) (p : ByteArray → Bool) (M : Nat → Prop) (w : World) (v : Value) (l : List ByteArray) (hv : Ss M w v l) (hn : Hid (l.length ≤ 1000000))
    (hf : ∀ x w', x ∈ l → Only Non w w' → Calls Tryd.prog f (#[.string x] ++ caps) w' fun e w'' => e = .returned (.bool (p x)) ∧ Only Non w' w'') :
    Calls Tryd.prog 48 #[v, .func (.func f) #[] caps] w fun e w' => e = .returned (.int .i64 (idxOf p l)) ∧ Only Non w w' := by
  obtain ⟨A, c, rfl, hc1, hc2, hc3⟩ := hv.open
  have hcf' : ∀ (args : Array Value) (w : World), (callFunc f args).run Tryd.prog w = .ok (.enter f args) w := hcf
  have HF := Lib.hid hf
  have HV := Lib.hid hv
  clear hc1 hc2 hc3 hf hv
  have hl : (l.length : Int) ≤ 1000000 := by have := hn.out; omega
  go_enter Tryd.func48, Tryd.ntmps48
  go_wp2_with fail
  go_loopw [8] (fun i wr => ∃ k : Nat, k ≤ l.length ∧ i = .int .i64 k ∧ Hid (∀ x ∈ l.take k, p x = false) ∧ Only Non w wr) (fun i _ => l.length - (intOf i).toNat)
  case atStart => exact ⟨0, Nat.zero_le _, rfl, by intro x hx; simp at hx, Only.refl _ _⟩
  case round =>
    obtain ⟨k, hk, rfl, HP, hO⟩ := hrel
    by_cases hlt : k < l.length
    · obtain ⟨b, o, rfl, _, _, hc⟩ := (HV.out.kept hO).at (by omega)
      have hck := hc k hlt
      have HL := Lib.hid (show l[k]? = some l[k] from List.getElem?_eq_getElem hlt)
      generalize l[k] = x at hck HL
      clear hc
      have HX := Lib.hid (List.mem_of_getElem? HL.out)
      cases hp : p x with
      | true =>
        have HR := Lib.hid hp
        clear hp
        go_wp2_with fail
        refine (HF.out x _ HX.out hO).mono ?_
        rintro e w1 ⟨rfl, hO1⟩
        rw [HR.out]
        go_wp2
        go_ret
        refine ⟨?_, hO.trans hO1⟩
        have hi : l.findIdx? p = some k := by
          rw [List.findIdx?_eq_some_iff_getElem]
          have hx : l[k] = x := by have := HL.out; rw [List.getElem?_eq_getElem hlt] at this; exact Option.some.inj this
          exact ⟨hlt, by rw [hx]; exact HR.out, fun j hj => by
            have := HP.out l[j] (List.mem_take_iff_getElem.2 ⟨j, by omega, rfl⟩)
            simp [this]⟩
        unfold idxOf
        rw [hi]
        rfl
      | false =>
        have HR := Lib.hid hp
        clear hp
        go_wp2_with fail
        refine (HF.out x _ HX.out hO).mono ?_
        rintro e w1 ⟨rfl, hO1⟩
        rw [HR.out]
        go_wp2
        go_roundw
        case rel =>
          refine ⟨k + 1, by omega, by go_num, ?_, hO.trans hO1⟩
          intro y hy
          rw [List.take_add_one, HL.out] at hy
          rcases List.mem_append.1 hy with hy | hy
          · exact HP.out y hy
          · simp only [Option.toList_some, List.mem_singleton] at hy
            subst hy
            exact HR.out
        case measure => simp [intOf]; omega
    · go_wp2
      go_ret
      refine ⟨?_, hO⟩
      have hi : l.findIdx? p = none := by
        rw [List.findIdx?_eq_none_iff]
        intro x hx
        exact HP.out x (by rw [List.take_of_length_le (by omega)]; exact hx)
      unfold idxOf
      rw [hi]
      rfl

theorem can_Right1 : CanCall 40 := fun _ _ => by kernel_rfl
end Go.Proofs.YtailcinidojdjaaDoor

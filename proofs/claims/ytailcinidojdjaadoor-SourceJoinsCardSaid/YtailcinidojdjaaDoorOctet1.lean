/- Part of this seat's proofs: contracts of functions of the program and plain lemmas, which the claim's theorem uses. -/
import Derived.Test.YtailcinidojdjaaDoorProg
import Derived.Test.YtailcinidojdjaaDoorBase
namespace Go.Proofs.YtailcinidojdjaaDoor
open Go Go.RowKit
set_option linter.unusedVariables false
set_option linter.unusedSimpArgs false

theorem info_u8 : (Tryd.prog.info? 5).map (fun i => (i.zero, i.size, i.bytes)) = some (some (.int .u8 0), 1, 1) := by kernel_rfl

/-- append of bytes to bytes that the call owns -/
theorem ap_by {S : Nat → Prop} {ops : Array Oper} {rest : List Oper} {o : Oper} {a : Act} {Q : Exit → Act → World → Prop} {w : World} (hgd : o.guard = none) (s x : Operand)
    (ho : o.op = .call { callee := .builtin .append, args := #[s, x], argTypes := #[33, 33] })
    (w0 : World) (v : Value) (xs : List UInt8) (hs : a.eval s = v) (hown : OB w w0.heap.size v xs)
    (M : Nat → Prop) (vx : Value) (ys : List UInt8) (hx : a.eval x = vx) (hr : By M w vx ys) (hb : xs.length + ys.length ≤ 140737488355328) (hO : Only S w0 w)
    (h : ∀ v' w', OB w' w0.heap.size v' (xs ++ ys) → Only S w0 w' → Only (fun k => v.ownBlock = some k) w w' → (v'.ownBlock = v.ownBlock ∨ v'.ownBlock = some w.heap.size) → wpList Tryd.prog ops Q rest (a.put o.dst v') w') :
    wpList Tryd.prog ops Q (o :: rest) a w :=
  wpl_append hgd s x _ ho 5 _ 1 1 Tryd.underlying33 info_u8 rfl (by decide) (by decide) w0.heap.size v _ _ hs hown M vx _ _ hx hr (bv_one _) (by omega) hO.size
    fun v' w' h1 h2 h3 => h v' w' (by simpa [OB, bvs] using h1) (hO.grown h2 fun k hk => .inr (hown.lt k hk).1) (Only.of_grown h2) h3

theorem Clone_ok (M : Nat → Prop) (w : World) (v : Value) (xs : List UInt8) (hx : By M w v xs) (hl : xs.length ≤ 70368744177664) :
    Calls Tryd.prog 22 #[v] w fun e w' => ∃ v', e = .returned v' ∧ Only Non w w' ∧ OB w' w.heap.size v' xs := by
  have H := Lib.hid hx
  have HL := Lib.hid hl
  clear hl
  obtain ⟨A, c, rfl, hc1, hc2, hc3⟩ := hx.open
  clear hx hc2
  cases A with
  | none =>
    have h0 : xs = [] := by
      cases xs with
      | nil => rfl
      | cons x r => obtain ⟨b, o, e, _⟩ := H.out.at (by simp); cases e
    subst h0
    obtain rfl := hc3 rfl
    have he := fun W => Lib.run_eql_slice_nil (P := Tryd.prog) W 33 5 none 0 0 0 0 Tryd.underlying33
    go_enter Tryd.func22, Tryd.ntmps22
    go_wp2
    all_goals go_ret
    all_goals exact ⟨_, rfl, Only.refl _ _, World.ownsRow_nil _ _ _ _⟩
  | some ad =>
    clear hc3
    have he := fun W => Lib.run_eql_slice_nil (P := Tryd.prog) W 33 5 (some ad) xs.length c 0 0 Tryd.underlying33
    go_enter Tryd.func22, Tryd.ntmps22
    go_wp2_with (refine wpl_append rfl _ _ _ rfl 5 _ 1 1 Tryd.underlying33 info_u8 rfl (by decide) (by decide) w.heap.size _ 0 [] rfl (World.ownsRow_made _ #[] 0 (Nat.le_refl _) (by simp [maxLen]) rfl) M _ _ _ rfl (H.out.kept ((Only.refl _ _).alloc _)) (bv_one _) (by have := HL.out; omega) (by simp) ?_)
    intro v' w' ho hg hat
    have HO := Lib.hid ho
    clear ho
    go_wp2
    go_ret
    have ho := HO.out
    exact ⟨_, rfl, ((Only.refl _ _).alloc _).grown hg (by simp [Value.ownBlock]), ho⟩
end Go.Proofs.YtailcinidojdjaaDoor

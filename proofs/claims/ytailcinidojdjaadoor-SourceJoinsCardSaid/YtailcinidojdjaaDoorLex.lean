/- Drawn regions by one walk: whatever order the tape picks, it is enough to walk the operations once, in an order in which those that hang on no call come first (true: what it yields is the same in every world that meets S; false: it is alone in its turn). No program in sight. -/
import Derived.Test.YtailcinidojdjaaDoorBase
import Derived.OrdersHeld
import Derived.Deep.RegionHeld3
namespace Go.Proofs.YtailcinidojdjaaDoor
open Go Go.RowKit
set_option linter.unusedVariables false
set_option linter.unusedSimpArgs false

section
variable {P : Program} {ops : Array Oper} {Q : Exit → Act → World → Prop} {S : World → Prop}
/-- may the operations be walked so -/
def lexOk (ops : Array Oper) : Array Bool → List (Bool × Nat) → Bool
  | listed, [] => Region.ready .any ops listed == []
  | listed, (true, i) :: r => (Region.ready .any ops listed).contains i && Region.free .any ops listed i && lexOk ops (listed.setIfInBounds i true) r
  | listed, (false, i) :: r => Region.ready .any ops listed == [i] && lexOk ops (listed.setIfInBounds i true) r
/-- the walk -/
def wpLex (P : Program) (ops : Array Oper) (Q : Exit → Act → World → Prop) (S : World → Prop) : List (Bool × Nat) → Act → World → Prop
  | [], a, w => Q .normal a w
  | (true, i) :: r, a, w => ∃ o v, ops[i]? = some o ∧ YieldsIf P ops S o v a ∧ wpLex P ops Q S r (a.put o.dst v) w
  | (false, i) :: r, a, w => ∃ o, ops[i]? = some o ∧ if Region.wanted o (yielded ops a.tmps) = true then o.wp P a w (fun a' w' => S w' ∧ wpLex P ops Q S r a' w') Q else wpLex P ops Q S r (a.put o.dst undef) w
theorem anyH_of_lex (hs : Region.noSelect ops = true) (hQ : ∀ (c : _) (a : Act) (d : Option Tmp) (v : Value) (w : World), Q (.panic c) (a.put d v) w → Q (.panic c) a w) :
    ∀ (r : List (Bool × Nat)) (fuel : Nat) (listed : Array Bool) (a : Act) (w : World), r.length ≤ fuel → lexOk ops listed r = true → S w → wpLex P ops Q S r a w → wpAnyH P .any ops Q S fuel listed a w := by
  intro r
  induction r with
  | nil =>
    intro fuel listed a w _ hk _ h
    unfold lexOk at hk
    exact wpAnyH_done (eq_of_beq hk) h fuel
  | cons x r ih =>
    intro fuel listed a w hf hk hS h
    obtain ⟨b, i⟩ := x
    obtain ⟨fuel, rfl⟩ : ∃ f, fuel = f + 1 := ⟨fuel - 1, by simp only [List.length_cons] at hf; omega⟩
    have hf' : r.length ≤ fuel := by simp only [List.length_cons] at hf; omega
    cases b with
    | true =>
      unfold lexOk at hk
      simp only [Bool.and_eq_true] at hk
      obtain ⟨⟨h1, h2⟩, h3⟩ := hk
      obtain ⟨o, v, ho, hy, hw⟩ := h
      exact wpAnyH_take ho hs h2 h1 (fun c a w => hQ c a o.dst v w) hy hS (ih fuel _ _ _ hf' h3 hS hw)
    | false =>
      unfold lexOk at hk
      simp only [Bool.and_eq_true] at hk
      obtain ⟨h1, h3⟩ := hk
      obtain ⟨o, ho, hw⟩ := h
      refine wpAnyH_all (eq_of_beq h1) (by simp) ?_
      intro j hj
      simp only [List.mem_cons, List.mem_nil_iff, or_false] at hj
      subst hj
      unfold wpOp
      simp only [ho]
      split
      · rename_i hwant
        rw [if_pos hwant] at hw
        exact .inl (Oper.wp_mono (fun a' w' h' => ⟨h'.1, ih fuel _ _ _ hf' h3 h'.1 h'.2⟩) hw)
      · rename_i hwant
        rw [if_neg hwant] at hw
        exact ⟨hS, ih fuel _ _ _ hf' h3 hS hw⟩
/-- the beginning; the region must be shown not to panic -/
theorem wp_region_lex {id : Nat} {a : Act} {w : World} (S : World → Prop) (r : List (Bool × Nat)) (hm : P.follows .mixedOrders = true) (hs : (Region.noSelect ops && decide (r.length ≤ ops.size) && lexOk ops (Array.replicate ops.size false) r) = true)
    (hS : S w.drew) (h : wpLex P ops (NoPanic Q) S r a w.drew) : (Code.region id ops true).wp P Q a w := by
  simp only [Bool.and_eq_true, decide_eq_true_eq] at hs
  exact wp_region_noPanic (wp_region_held hm (anyH_of_lex hs.1.1 (fun _ _ _ _ _ h => h) r _ _ _ _ hs.1.2 hs.2 hS h))
theorem lexT {i : Nat} {r : List (Bool × Nat)} {o : Oper} {v : Value} {a : Act} {w : World} (ho : ops[i]? = some o) (hw : Region.wanted o (yielded ops a.tmps) = true) (hv : ∀ w, S w → (execOp a.eval o).run P w = .ok (.value v) w)
    (h : wpLex P ops Q S r (a.put o.dst v) w) : wpLex P ops Q S ((true, i) :: r) a w := ⟨o, v, ho, .inl ⟨hw, hv⟩, h⟩
theorem lexU {i : Nat} {r : List (Bool × Nat)} {o : Oper} {a : Act} {w : World} (ho : ops[i]? = some o) (hw : Region.wanted o (yielded ops a.tmps) = false)
    (h : wpLex P ops Q S r (a.put o.dst undef) w) : wpLex P ops Q S ((true, i) :: r) a w := ⟨o, undef, ho, .inr ⟨hw, rfl⟩, h⟩
theorem lexC {i : Nat} {r : List (Bool × Nat)} {o : Oper} {a : Act} {w : World} (ho : ops[i]? = some o) (hw : Region.wanted o (yielded ops a.tmps) = true)
    (h : ∀ K : Act → World → Prop, Hid (∀ a w, S w → wpLex P ops Q S r a w → K a w) → o.wp P a w K Q) : wpLex P ops Q S ((false, i) :: r) a w :=
  ⟨o, ho, by rw [if_pos hw]; exact h _ (Lib.hid fun a w h1 h2 => ⟨h1, h2⟩)⟩
theorem lexV {i : Nat} {r : List (Bool × Nat)} {o : Oper} {a : Act} {w : World} (ho : ops[i]? = some o) (hw : Region.wanted o (yielded ops a.tmps) = false)
    (h : wpLex P ops Q S r (a.put o.dst undef) w) : wpLex P ops Q S ((false, i) :: r) a w := ⟨o, ho, by rw [if_neg (by rw [hw]; simp)]; exact h⟩
theorem lexNil {a : Act} {w : World} (h : Q .normal a w) : wpLex P ops (NoPanic Q) S [] a w := h
/-- a load of a whole row -/
theorem row_exec {o : Oper} {a : Act} {w : World} (ty : TypeId) (x : Operand) (hop : o.op = .load ty x) (g : Nat) (hx : a.eval x = .pointer (some ⟨g, 0, none⟩)) (t : TypeId) (cs : Array Value) (fr : Nat × Nat) (d : TypeDesc) (hg : w.heap[g]? = some (.cells cs t fr))
    (hu : P.underlying ty = some d) (hd : (match d with | .struct _ | .array _ _ => true | _ => false) = true) (hi : (P.info? ty).map (·.size) = some cs.size) : (execOp a.eval o).run P w = .ok (.value (.agg cs)) w := by
  unfold execOp
  simp only [hop, hx, Instr.loadAt, Instr.sureAddr, Sem.run_bind, Sem.run_pure, Result.andThen_ok, run_loadVar_row w g t ty cs fr d hg hu hd hi]
end
end Go.Proofs.YtailcinidojdjaaDoor

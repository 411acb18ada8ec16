/- The wrap of this seat's rows: the world's shape and the listed table give the words that the walks ask of the library's variables. -/
import Derived.Test.YtailcinidojdjaaDoorRow1
namespace Go.Proofs.YtailcinidojdjaaDoor
open Go Go.RowKit Go.ChangeShapes Go.WideShapes Go.ChangeAt Go.Deep
set_option linter.unusedVariables false
set_option linter.unusedSimpArgs false

/-- the plain wrap, with the world's shape and what the row lists both handed on -/
theorem returns_both {H : Type} {enc : TypeId × Value → H} {a : Assume} {C : Checked} {os : Os} {f : FuncId} {fn : Func} {s : ChangeSpec} {conds : List PathCond} {apart fresh handsOn again : Bool} {X : World → Array Value → Prop}
    (hX : ∀ (w w' : World) (args : Array Value), w.heap = w'.heap → X w args → X w' args)
    (own : ownKnob C.prog.godebug = none) (started : os.Started) (noInit : C.prog.inits.idxOf? f = none) (hfn : C.prog.funcs[f]? = some fn)
    (witness : ∃ (w : World) (tape : Tape) (i : Input), w.os = os ∧ (w.forCall tape i).Shaped C.prog ∧ i.vars = [] ∧ Input.okWide C.prog (w.forCall tape i) .any w.heap.size f i ∧
      ((s.pre enc C.prog fn conds apart (w.forCall tape i).memory i.args ∧ X (w.forCall tape i).memory i.args) ∧ sizedMet enc C.prog fn (OpenSpec.ofChange s) apart (w.forCall tape i).memory i.args) ∧ a.holds C.prog (lone (Frame.enter C.prog f i.args .normal) [] (w.forCall tape i)))
    (contract : ∀ (W : World) (base : Nat) (args : Array Value) (ds gs : List (DataW H)) (before : List MemPlace),
      (∀ (j : Nat) t v, fn.params[j]? = some t → args[j]? = some v → Value.okWide C.prog W .any base t v) →
      DataW.Whole enc C.prog fn.params.toList s.vars apart W args.toList ds gs before → X W args → W.ShapedOpen C.prog →
      Calls C.prog f args W fun e W' => ∃ v, e = .returned v ∧ s.post enc C.prog fn apart fresh handsOn again W args v W') :
    ReturnsInHanded a C os f .any (fun w args => (s.pre enc C.prog fn conds apart w args ∧ X w args) ∧ sizedMet enc C.prog fn (OpenSpec.ofChange s) apart w args) (s.post enc C.prog fn apart fresh handsOn again) := by
  refine returnsInHanded_of_calls own started noInit witness ?_
  intro w tape i _ hsh _ hok hpre _
  obtain ⟨_, _, _, fn', hfn', _, _, _, _, hval⟩ := hok
  obtain rfl : fn' = fn := Option.some.inj (hfn'.symm.trans hfn)
  obtain ⟨⟨⟨ds, gs, before, hw, _⟩, hx⟩, _⟩ := hpre
  refine (contract (w.forCall tape i) w.heap.size i.args ds gs before hval (DataW.Whole.of_heap (w' := w.forCall tape i) (by rfl) hw) (hX _ _ _ (by rfl) hx) hsh).mono fun e W' ⟨v, he, hp⟩ => ?_
  subst he
  exact ChangeSpec.post_blind hp

def laidL : List (String × DataW Unit) := [("portmanteau/digest.table", Rows.laid_portmanteau_digest_table), ("unicode/utf8.acceptRanges", Rows.laid_unicode_utf8_acceptRanges), ("unicode/utf8.first", Rows.laid_unicode_utf8_first)]
theorem gTable : Tryd.prog.globalNamed "portmanteau/digest.table" = some 0 := by kernel_rfl
theorem tTable : (Tryd.prog.globals[0]?).map (·.type) = some 82 := by kernel_rfl
theorem cells_u32 : Tryd.prog.cellsOf 72 = 1 := by kernel_rfl
theorem table_is : (Rows.laid_portmanteau_digest_table : DataW Unit) = .agg (ktab.map fun n => .lit (.int .u32 n)) := by kernel_rfl
theorem env_of {W : World} (hL : laidMetH Tryd.prog laidL W) (hsh : W.ShapedOpen Tryd.prog) : Env W := by
  constructor
  · exact cell_of_shapedOpen_int (P := Tryd.prog) (g := 1) (t := 3) (zero := #[.int .i64 0]) hsh (of_decide_eq_true (by kernel_rfl)) (by kernel_rfl) rfl (by kernel_rfl) (by kernel_rfl) Tryd.underlying3
  · rw [MakeChecks.laidMetH_plain _ _ _ (by kernel_rfl)] at hL
    obtain ⟨ps, ⟨g, t, cs, fuel, p, q, hg, ht, hv, hd, _, _⟩, _, _⟩ := hL
    obtain rfl := Option.some.inj (gTable.symm.trans hg)
    obtain rfl := Option.some.inj (tTable.symm.trans ht)
    obtain ⟨xs, m, _, hx, _, hn, hel⟩ := DataW.trod_array Tryd.underlying82 hd
    rw [cells_u32] at hel
    have hdat := (Prod.mk.inj hx).1
    rw [table_is] at hdat
    have hxs : xs.map (·.1) = ktab.map fun n => .lit (.int .u32 n) := (DataW.agg.inj hdat).symm
    intro j u hu
    have hj : j < 64 := by
      have := (List.getElem?_eq_some_iff.1 hu).1
      rwa [kcells_len] at this
    have h1 := hel j hj
    have h2 : (xs.map (·.1))[j]? = (ktab.map fun n => (DataW.lit (.int .u32 n) : DataW Unit))[j]? := by rw [hxs]
    rw [List.getElem?_map, ← h1, List.getElem?_map] at h2
    rw [Nat.mul_one] at h2
    simp only [kcells, List.getElem?_map] at hu
    obtain ⟨n, hn', rfl⟩ := Option.map_eq_some_iff.1 hu
    rw [hn'] at h2
    obtain ⟨y, hy, hy2⟩ := Option.map_eq_some_iff.1 h2
    obtain ⟨n', e1, e2, _⟩ := DataW.trod_int Tryd.underlying72 hy
    rw [e2] at hy2
    have e3 : n' = n := by
      have := DataW.lit.inj hy2
      injection this
    subst e3
    have e4 : cs.toList[j]? = some (.int .u32 n') := by
      have := congrArg (fun l => l[0]?) e1
      simpa using this
    rw [World.var?_cell gTable hv]
    simpa using e4
end Go.Proofs.YtailcinidojdjaaDoor

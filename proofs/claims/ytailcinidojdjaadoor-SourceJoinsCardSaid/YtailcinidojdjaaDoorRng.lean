/- A range over a function, in this seat's words: a region walked within a round as it is walked anywhere; a call of yield out of the round's body; the statement out of the iterator's call; a function's leaving past the marks of such loops. No program in sight. -/
import Derived.Test.YtailcinidojdjaaDoorBase
import Derived.RangeFuncIn
import Derived.RangeFuncSeq
import Derived.RangeFuncCalls
import Derived.RangeFuncLeaves
import Derived.RangeFuncNested
import Derived.OwnWalkIn
import Derived.TacticsInMore
namespace Go.Proofs.YtailcinidojdjaaDoor
open Go Go.RowKit
set_option linter.unusedVariables false
set_option linter.unusedSimpArgs false

section
variable {P : Program} {n l : Nat}
/-- the frame of a round of the loop l -/
abbrev Rnd (l : Nat) : Fence := Fence.wide.inRound l
def calmOp (o : Oper) : Bool := match o.op with | .defer _ => false | _ => true
theorem calls_in {f : FuncId} {args : Array Value} {w : World} {R : Ending → World → Prop} (h : Calls P f args w R) : CallsIn (Rnd l) n P f args w R := (callsIn_wide.2 h).inRound l
theorem upon_in {o : Oper} {a : Act} {next next' : Act → World → Prop} {Q : Exit → Act → World → Prop} (hn : ∀ a w, next a w → next' a w) (hq : ¬ LetsOut Q) {r : Result Next} (h : o.upon P a next Q r) :
    o.uponIn (Rnd l) n P a next' Q r := by
  unfold Oper.upon at h
  split at h
  · exact hn _ _ h
  · exact hn _ _ h
  · exact hn _ _ h
  · refine ⟨(fun hd => by cases hd), ?_⟩
    refine (calls_in h).mono ?_
    intro e w hR
    cases e with
    | returned v => exact hn _ _ hR
    | panicked c => exact hR
    | outgrown => exact (hq hR).elim
  · refine ⟨(fun hd => by cases hd), fun c cs _ => ?_⟩
    obtain ⟨v, w', hR, hs⟩ := h c cs
    exact ⟨v, w', hn _ _ hR, stepsIn_wide.2 hs⟩
  · exact h
  · exact h.elim
theorem list_in {ops : Array Oper} {Q : Exit → Act → World → Prop} (hq : ¬ LetsOut Q) : ∀ (rest : List Oper), rest.all calmOp = true → ∀ (a : Act) (w : World), wpList P ops Q rest a w → wpListIn (Rnd l) n P ops Q rest a w := by
  intro rest
  induction rest with
  | nil => exact fun _ a w h => h
  | cons o rest ih =>
    intro hc a w h
    rw [List.all_cons, Bool.and_eq_true] at hc
    unfold wpList at h
    unfold wpListIn
    split at h
    · rename_i hw
      rw [if_pos hw]
      refine ⟨fun _ _ => trivial, ?_⟩
      have he : o.semAt (Rnd l).round a.eval = execOp a.eval o := Oper.semAt_eq _ _ _ (fun c hc' => by
        have := hc.1
        unfold calmOp at this
        rw [hc'] at this
        cases this)
      rw [he]
      rcases h with h | h
      · exact upon_in (fun a w h => ih hc.2 a w h) hq h
      · exact (hq h.2).elim
    · rename_i hw
      rw [if_neg hw]
      exact ⟨fun _ _ => trivial, ih hc.2 _ _ h⟩
/-- a region of a round, walked as anywhere -/
theorem region_in {id : Nat} {ops : List Oper} {Q : Exit → Act → World → Prop} {a : Act} {w : World} (hc : ops.all calmOp = true) (hq : ¬ LetsOut Q) (h : wpList P ops.toArray Q ops a w) : (Code.region id ops.toArray false).wpIn (Rnd l) n P Q a w :=
  wpIn_region_lit (list_in hq ops hc a w h)

/-- how a round may be left, the loop's record being as the loop's statement laid it -/
def rndPost (l : Nat) (rec : LoopState → Option Code → Loop) (R : Ending → World → Prop) : Exit → Act → World → Prop
  | .normal, _, W => W.heap[l]? = some (.loop (rec .busy none)) ∧ R (.returned (.bool true)) (W.putObj l (.loop (rec .ready none)))
  | .ret, _, W => W.heap[l]? = some (.loop (rec .busy none)) ∧ R (.returned (.bool false)) (W.putObj l (.loop (rec .done (some .ret))))
  | .exit id, _, W => W.heap[l]? = some (.loop (rec .busy none)) ∧ R (.returned (.bool false)) (W.putObj l (.loop (rec .done (some (.exit id)))))
  | .goto t, _, W => W.heap[l]? = some (.loop (rec .busy none)) ∧ R (.returned (.bool false)) (W.putObj l (.loop (rec .done (some (.goto t)))))
  | .panic _, _, _ => False
  | .outgrown, _, _ => False
/-- the record of a loop -/
def lrec (fn : FuncId) (tmps : Array Value) (ps : Array Tmp) (assign body : Code) (D : Nat) (st : LoopState) (pe : Option Code) : Loop :=
  { state := st, pending := pe, fn := fn, tmps := tmps, params := ps, assign := assign, body := body, defers := D }

theorem yield_at {fn : FuncId} {tmps : Array Value} {ps : Array Tmp} {assign body : Code} {D : Nat} {W : World} {args : Array Value} {R : Ending → World → Prop} {rec : LoopState → Option Code → Loop} (hrec : rec = lrec fn tmps ps assign body D)
    (hl : W.heap[l]? = some (.loop (rec .ready none))) (hps : args.size = ps.size) (a₁ : Act)
    (hassign : ∀ K : Act → World → Prop, K a₁ W → assign.wpIn (Rnd l) n P (Exit.then K (fun _ _ _ => False)) { tmps := (ps.zip args).foldl (fun t (p, v) => t.setIfInBounds p v) tmps, defers := [] } W)
    (hbody : ∀ W', W' = W.putObj l (.loop (rec .busy none)) → body.wpIn (Rnd l) n P (rndPost l rec R) a₁ W') :
    YieldAt Fence.wide n P l args W R := by
  subst hrec
  refine ⟨fn, _, assign, body, run_yield hl hps, roundIn_of_wpIn trivial (hassign _ ⟨_, run_beginRound hl rfl, ?_⟩)⟩
  refine wpIn_mono (hbody _ rfl) ?_
  intro e a W3 hp
  cases e with
  | normal => exact ⟨_, _, run_endRound none hp.1, hp.2⟩
  | ret => exact ⟨_, _, run_endRound (some .ret) hp.1, hp.2⟩
  | exit id => exact ⟨_, _, run_endRound (some (.exit id)) hp.1, hp.2⟩
  | goto t => exact ⟨_, _, run_endRound (some (.goto t)) hp.1, hp.2⟩
  | panic c => exact hp.elim
  | outgrown => exact hp.elim

/-- the world in which the iterator begins: the block for deferred calls, the record -/
def loopW (w : World) (r : Loop) : World := (w.alloc (.deferred (some []))).alloc (.loop r)
theorem loopW_rec (w : World) (r : Loop) : (loopW w r).heap[w.heap.size + 1]? = some (.loop r) := by
  have := World.alloc_heap_new (w.alloc (.deferred (some []))) (.loop r)
  rwa [World.size_alloc] at this
theorem loopW_def (w : World) (r : Loop) : (loopW w r).heap[w.heap.size]? = some (.deferred (some [])) := (Below.heap_alloc _ _ _ (by simp)).trans (World.alloc_heap_new w _)
theorem loopW_size (w : World) (r : Loop) : (loopW w r).heap.size = w.heap.size + 2 := by simp [loopW]
theorem loopW_only (w : World) (r : Loop) : Only Non w (loopW w r) := ((Only.refl _ _).alloc _).alloc _
def markOf (D : Nat) : Deferred := { target := .collected D, args := #[] }

/-- the statement: the iterator is called once; it has gone through all, or a round has left a jump -/
theorem wp_range {g : Operand} {ps : Array Tmp} {assign body : Code} {Q : Exit → Act → World → Prop} {a : Act} {w : World}
    {gf : Nat} {lb : Array Value} (hg : a.eval g = .func (.func gf) #[] lb) (eg : ∀ args w, (callFunc gf args).run P w = .ok (.enter gf args) w)
    (h : ∀ (fn : FuncId) (rec : LoopState → Option Code → Loop), rec = lrec fn a.tmps ps assign body w.heap.size →
      Calls P gf (#[.func (.yield (w.heap.size + 1)) #[] #[]] ++ lb) (loopW w (rec .ready none)) fun e W => (∃ v, e = .returned v) ∧
      ((W.heap[w.heap.size + 1]? = some (.loop (rec .ready none)) ∧ ∀ W', W' = W.putObj (w.heap.size + 1) (.loop (rec .exhausted none)) →
          Q .normal { a with defers := markOf w.heap.size :: a.defers } W') ∨
       (∃ c, W.heap[w.heap.size + 1]? = some (.loop (rec .done (some c))) ∧ ∀ W', W' = W.putObj (w.heap.size + 1) (.loop (rec .exhausted (some c))) →
          c.wp P Q { a with defers := markOf w.heap.size :: a.defers } W'))) :
    (Code.rangeFunc g ps assign body).wp P Q a w := by
  refine (wpIn_wide (n := 1)).1 (wpIn_rangeFunc ?_)
  intro fn _
  refine ⟨w.heap.size + 1, [markOf w.heap.size], loopW w (lrec fn a.tmps ps assign body w.heap.size .ready none), { target := .fn (.func gf) lb, args := #[.func (.yield (w.heap.size + 1)) #[] #[]] },
    loopW w (lrec fn a.tmps ps assign body w.heap.size .ready none), gf, #[.func (.yield (w.heap.size + 1)) #[] #[]] ++ lb, loopW w (lrec fn a.tmps ps assign body w.heap.size .ready none), ?_, ?_, fun _ _ => trivial, ?_, (fun hd => by cases hd), ?_⟩
  · exact run_enterLoop_outer _ _ _ _ _
  · simp only [resolve, hg]
    simp [go_sem]
  · simp [invoke, go_sem, eg]
  · refine callsIn_wide.2 ((h fn _ rfl).mono ?_)
    rintro e W ⟨⟨v, rfl⟩, ⟨hl, hQ⟩ | ⟨c, hl, hQ⟩⟩
    · exact ⟨none, _, run_endLoop hl (by simp [lrec]), hQ _ rfl⟩
    · exact ⟨some c, _, run_endLoop hl (by simp [lrec]), wpIn_wide.2 (hQ _ rfl)⟩

/-- a function that holds such loops -/
theorem calls_of_marks {f : FuncId} {fn : Func} {c : Code} {args : Array Value} {w : World} {R : Ending → World → Prop}
    (hf : P.funcs[f]? = some fn) (hb : fn.body = some c) (h : c.wp P (bodyPostM Fence.wide 1 P fn R) { tmps := args ++ Array.replicate (fn.ntmps - args.size) undef, defers := [] } w) : Calls P f args w R :=
  callsIn_wide.1 (callsIn_of_wp_marks hf hb trivial (wpIn_wide.2 h))
/-- past one mark -/
theorem leave_mark {fn : Func} {tmps : Array Value} {R : Ending → World → Prop} {ds : List Deferred} {D : Nat} {w : World} (h : w.heap[D]? = some (.deferred (some [])))
    (hn : LeavesInM Fence.wide 1 P fn tmps R ds .returning (w.putObj D (.deferred none))) : LeavesInM Fence.wide 1 P fn tmps R (markOf D :: ds) .returning w :=
  ⟨by simp, .inl ⟨D, _, rfl, run_takeDeferred h, hn⟩⟩
theorem Only.putObj {S : Nat → Prop} {w w' : World} (h : Only S w w') {b : Nat} (hb : S b ∨ w.heap.size ≤ b) (o : Obj) : Only S w (w'.putObj b o) :=
  ⟨h.os, h.tape, h.output, Nat.le_trans h.size (by simp), fun k hk hn => (World.putObj_heap_other (fun e => by
    subst e
    exact hb.elim hn (fun h' => by omega))).trans (h.block k hk hn)⟩
end
end Go.Proofs.YtailcinidojdjaaDoor

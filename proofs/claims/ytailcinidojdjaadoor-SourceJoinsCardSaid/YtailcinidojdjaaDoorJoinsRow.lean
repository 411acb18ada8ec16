/- SourceJoins answers true at every input, and each argument reads behind the call as it read before; the package's listed tables are tied to the program's text (the card). Condition: what the row lists lies as the program's text lays it. -/
import Derived.Test.YtailcinidojdjaaDoorJoin2
import Derived.Test.YtailcinidojdjaaDoorRow2
import Derived.Test.YtailcinidojdjaaDoorTie
import Derived.Test.YtailcinidojdjaaDoorCards
import Derived.SevenTiedAt
namespace Go.Proofs.YtailcinidojdjaaDoor
open Go Go.RowKit Go.ChangeShapes Go.WideShapes Go.ChangeAt Go.Deep
set_option linter.unusedVariables false
set_option linter.unusedSimpArgs false

theorem Joins_ok (w : World) (v : Value) (l : List Fil) (c d : Int) (hE : Env w) (hv : Fs Non w v l) :
    Calls Tryd.prog 4 #[v, .int .i64 c, .int .i64 d] w fun e w' => e = .returned (.bool true) ∧ Only Non w w' := by
  by_cases h : fewB l = true ∧ filOk l = true
  · exact Joins_in w v l c d hE hv h.1 h.2
  · exact Joins_out w v l c d hE hv h

set_option maxRecDepth 100000 in
theorem joins_lifted (os : Os) (started : os.Started) (H : Type) (enc : TypeId × Value → H) :
    ReturnsInHanded {} Tryd.checked os 4 .any (fun w args => (Rows.sourceJoinsSpec.pre enc Tryd.prog Tryd.f4 [] false w args ∧ laidMetH Tryd.prog laidL w) ∧ sizedMet enc Tryd.prog Tryd.f4 (OpenSpec.ofChange Rows.sourceJoinsSpec) false w args)
      (Rows.sourceJoinsSpec.post enc Tryd.prog Tryd.f4 false true false false) := by
  refine returns_both (C := Tryd.checked) (X := fun w _ => laidMetH Tryd.prog laidL w) (fun _ _ _ hh h => h.of_heap hh) own_ started (by kernel_rfl) Tryd.func4
    (ChangeSpec.witness_shaped (enc := enc) (C := Tryd.checked) (os := os) (X := fun w _ => laidMetH Tryd.prog laidL w) false (World.laidAll Tryd.prog os laidL) #[.slice none 0 0, .int .i64 0, .int .i64 0] 8 (World.laidAll_os _ _ _) (World.shaped_of_ZipB (by kernel_rfl) (by kernel_rfl)) (by kernel_rfl) (by kernel_rfl) (by kernel_rfl)
      (by rw [MakeChecks.laidMetH_plain _ _ _ (by kernel_rfl)]; exact laidMet_laidAll _ (by kernel_rfl) (by kernel_rfl))) ?_
  intro W base args ds gs before hval0 hW hL hsh
  have hval : ∀ (j : Nat) t v, Tryd.f4.params[j]? = some t → args[j]? = some v → Value.okWide Tryd.prog W .any base t v := hval0
  have hW' := hW
  obtain ⟨p, q, hA0, hV, rfl, _, _⟩ := hW
  have hA : DataW.TrodAll enc Tryd.prog W 0 (fun _ => true) true Tryd.f4.params.toList args.toList ds p := hA0
  rw [Tryd.params4] at hA hval
  obtain ⟨v0, v1, v2, d0, d1, d2, p0, p1, p2, rfl, rfl, rfl, h0, h1, h2⟩ := trodAll_three hA
  obtain ⟨rfl, rfl⟩ := trodVars_none hV
  have hlt0 : ∀ x ∈ p0, x.block < W.heap.size := fun x hx => hW'.lt x (by simp [hx])
  obtain ⟨l, hl⟩ := open_files (okWide_slice Tryd.underlying22 (hval 0 22 v0 rfl rfl)) h0
  obtain ⟨c, rfl, rfl, rfl, wc⟩ := open_int Tryd.underlying3 (hval 1 3 v1 rfl rfl) h1
  obtain ⟨c2, rfl, rfl, rfl, wc2⟩ := open_int Tryd.underlying3 (hval 2 3 v2 rfl rfl) h2
  refine (Joins_ok W v0 l c c2 (env_of hL hsh) hl).mono fun e W' ⟨he, hO⟩ => ?_
  subst he
  have hB := hO.below
  refine ⟨_, rfl, _, _, _, [], p0 ++ ([] ++ []), [], hW', ?_, ?_, ?_, hB.frame _, fun h => by cases h⟩
  · exact trodAll_mk1 (shut_bool Tryd.underlying4 _)
  · exact trodAll_mk3 (Below.trod laidOut (by kernel_rfl) (by decide) h0 hB hlt0) (shut_int Tryd.underlying3 wc) (shut_int Tryd.underlying3 wc2)
  · exact rfl

theorem joins_row : Rows.SourceJoinsSaid :=
  OpenClaim.holds_of_wide 4 Tryd.f4 rfl rfl rfl rfl rfl rfl rfl ⟨rfl, rfl, rfl, rfl, rfl⟩ rfl rfl rfl rfl rfl (by kernel_rfl) Tryd.func4 (by kernel_rfl)
    (of_decide_eq_true (by kernel_rfl)) (by unfold Func.isWrapper; rw [if_neg (of_decide_eq_false (by kernel_rfl))]; exact ⟨rfl, rfl⟩)
    (fun os started H enc _ => joins_lifted os started H enc)
theorem joins_card_holds : Rows.SourceJoinsCardSaid :=
  Claim7.holds_tied_plain_at .later [] [.data, .data, .pinned] true (true, "6282b1d0d4db2fb63bb4831f92c170bdd6d4c0ba3b5b12fc69259d38d88504c6") false
    joins_row (fun _ h => by cases h) (by kernel_rfl) (fun _ h => by cases h) sourceJoins_row_tie rfl ⟨rfl, rfl⟩ (by kernel_rfl) rfl
    (fun f fn hf hfn => by
      obtain rfl : f = 4 := Option.some.inj ((show Tryd.prog.funcNamed "portmanteau/portmanteaulaw16.SourceJoins" = some 4 by kernel_rfl).symm.trans hf) |>.symm
      obtain rfl : fn = Tryd.f4 := (Option.some.inj (Tryd.func4.symm.trans hfn)).symm
      exact ⟨by kernel_rfl, fun j t ht => by
        rw [Tryd.params4] at ht
        have hm : t ∈ [22, 3, 3] := by simpa using Array.mem_of_getElem? ht
        have hall : ([22, 3, 3].all fun u => !Tryd.prog.wantsStandIn u) = true := by kernel_rfl
        exact (show Tryd.prog.wantsStandIn t = false by simpa using List.all_eq_true.1 hall t hm)⟩)
    (by kernel_rfl)
#print axioms joins_card_holds
end Go.Proofs.YtailcinidojdjaaDoor

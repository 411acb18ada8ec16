/- Part of this seat's proofs: contracts of functions of the program and plain lemmas, which the claim's theorem uses. -/
import Derived.Test.YtailcinidojdjaaDoorDig3
import Derived.Test.YtailcinidojdjaaDoorDig4
import Derived.Laws.Cover3
namespace Go.Proofs.YtailcinidojdjaaDoor
open Go Go.RowKit
set_option linter.unusedVariables false
set_option linter.unusedSimpArgs false

/-- bytes from l on -/
theorem slice_from {M : Nat → Prop} {w : World} {v : Value} {xs : List UInt8} (h : By M w v xs) (l : Nat) (hl : l ≤ xs.length) :
    ∃ v', By M w v' (xs.drop l) ∧ ∀ W, (Instr.sliceAt 33 v (some (.int .i64 (l : Int))) none none).run Tryd.prog W = .ok v' W := by
  obtain ⟨_, A, c, rfl, h2, h3, h4, h5⟩ := h
  refine ⟨sliced A l xs.length c 1, ⟨by simp [bvs], if c = l then A else A.map (·.add (l * 1)), c - l, by simp [sliced], by simp; omega, by simp only [maxLen] at *; omega, ?_, ?_⟩, fun W => ?_⟩
  · intro h
    split at h
    · omega
    · have : A = none := by cases A with
        | none => rfl
        | some a => simp at h
      have := h4 this
      omega
  · intro hn
    rw [List.length_drop] at hn
    obtain ⟨b, o, rfl, hM, hb, hc⟩ := h5 (by omega)
    refine ⟨b, o + l, by rw [if_neg (by omega)]; simp [add_at], hM, hb, fun j u hu => ?_⟩
    rw [Nat.add_assoc]
    refine hc _ _ ?_
    simpa [bvs, List.getElem?_drop] using hu
  · have hu : Tryd.prog.underlying 33 = some (.slice (Tryd.prog.elem 33)) := Tryd.underlying33
    have hs : (sizeOf (Tryd.prog.elem 33)).run Tryd.prog W = .ok 1 W := by kernel_rfl
    rw [run_sliceAt_slice W _ _ _ _ _ hu, run_slice_l W _ _ _ _ hu _ _ (by omega) (by omega), hs]
    rfl

def hashI : Nat → List Int → List UInt8 → List Int
  | 0, s, _ => s
  | n + 1, s, b => hashI n (blockI s (b.take 64)) (b.drop 64)
theorem hashI_len (n : Nat) : ∀ (s : List Int) (b : List UInt8), s.length = 8 → (hashI n s b).length = 8 := by
  induction n with
  | zero => intro s b h; exact h
  | succ n ih => intro s b h; exact ih _ _ (blockI_len h)
def outAt (s : List Int) (j : Nat) : UInt8 := UInt8.ofNat ((s.getD (j / 4) 0) / 2 ^ (24 - 8 * (j % 4)) % 256).toNat
def outB (s : List Int) : List UInt8 := (List.range 32).map (outAt s)
theorem outB_len (s : List Int) : (outB s).length = 32 := by simp [outB]
/-- SHA-256 of bytes -/
def digestB (b : List UInt8) : List UInt8 := outB (hashI ((b ++ padB b.length).length / 64) startI (b ++ padB b.length))
theorem digestB_len (b : List UInt8) : (digestB b).length = 32 := outB_len _
theorem pad_len (n : Nat) : (n + (padB n).length) % 64 = 0 := by
  simp only [padB, lenB, List.length_cons, List.length_append, List.length_replicate, List.length_map, List.length_range]
  unfold zerosN
  omega

/-- a load of a whole row in a region whose operations stay -/
theorem still_load {P : Program} {ops : Array Oper} {w : World} {Q : Act → Prop} {o : Oper} {rest : List Oper} {a : Act} (hg : o.guard = none) (ty : TypeId) (x : Operand) (ho : o.op = .load ty x) (b off : Nat) (hx : a.eval x = .pointer (some ⟨b, off, none⟩)) (cs : List Value) (d : TypeDesc) (hc : w.rangeAt b off cs)
    (hu : P.underlying ty = some d) (hd : d.isRow = true) (hi : (P.info? ty).map (·.size) = some cs.length) (h : wpStill P ops w Q rest (a.put o.dst (.agg cs.toArray))) : wpStill P ops w Q (o :: rest) a := by
  refine wpStill_step fun K hK => ?_
  have hw : Region.wanted o (yielded ops a.tmps) = true := by unfold Region.wanted; rw [hg]
  rw [if_pos hw]
  unfold Oper.still execOp
  simp only [ho, hx, Sem.run_bind, Sem.run_pure, run_loadAt_mid w b off ty cs d hc hu hd hi, Result.andThen_ok, Oper.stillUpon]
  exact ⟨trivial, hK _ h⟩
theorem RowI.range {w : World} {g : Nat} {t : TypeId} {l : List Int} (h : RowI w g t l) : w.rangeAt g 0 (words l).toList := fun j v hv => by
  rw [Nat.zero_add, cell_of_row _ _ _ _ _ _ h]
  simpa using hv
theorem info_chunk : (Tryd.prog.info? 76).map (·.size) = some 64 := by kernel_rfl
end Go.Proofs.YtailcinidojdjaaDoor

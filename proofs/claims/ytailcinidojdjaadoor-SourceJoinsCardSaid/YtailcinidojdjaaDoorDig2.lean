/- Part of this seat's proofs: contracts of functions of the program and plain lemmas, which the claim's theorem uses. -/
import Derived.Test.YtailcinidojdjaaDoorDig1
import Derived.Laws.Rows
import Derived.Laws.Tables
import Derived.StillTailTactics
import Derived.IntWalk
namespace Go.Proofs.YtailcinidojdjaaDoor
open Go Go.RowKit
set_option linter.unusedVariables false
set_option linter.unusedSimpArgs false

/-- a block that is a row of words -/
def words (l : List Int) : Array Value := (l.map fun n => Value.int .u32 n).toArray
def RowI (w : World) (g : Nat) (t : TypeId) (l : List Int) : Prop := w.heap[g]? = some (.cells (words l) t (0, 0))
theorem words_size (l : List Int) : (words l).size = l.length := by simp [words]
theorem RowI.lt {w : World} {g : Nat} {t : TypeId} {l : List Int} (h : RowI w g t l) : g < w.heap.size := (Array.getElem?_eq_some_iff.1 h).1
theorem RowI.cell {w : World} {g : Nat} {t : TypeId} {l : List Int} (h : RowI w g t l) {k : Nat} {v : Int} (hk : l[k]? = some v) : w.cell? ⟨g, k, none⟩ = some (.int .u32 v) := by
  rw [cell_of_row _ _ _ _ _ _ h]
  simp [words, hk]
theorem RowI.set {w : World} {g : Nat} {t : TypeId} {l : List Int} (h : RowI w g t l) (k : Nat) (v : Int) : RowI (w.setCell ⟨g, k, none⟩ (.int .u32 v)) g t (l.set k v) := by
  unfold RowI at *
  rw [heap_setCell_same _ _ _ _ _ _ h]
  simp [words, List.map_set]
theorem RowI.other {w : World} {g g' : Nat} {t : TypeId} {l : List Int} (h : RowI w g t l) (k : Nat) (v : Value) (hg : g ≠ g') : RowI (w.setCell ⟨g', k, none⟩ v) g t l := by
  unfold RowI at *
  rw [heap_setCell_other _ _ _ _ hg]
  exact h
theorem RowI.setRow {w : World} {g g' : Nat} {t : TypeId} {l : List Int} (h : RowI w g t l) (cs : Array Value) (hg : g ≠ g') : RowI (w.setRow g' cs) g t l := by
  unfold RowI at *
  simp only [World.setRow, Array.getElem?_modify]
  rw [if_neg (fun e => hg e.symm)]
  exact h
theorem RowI.put {w : World} {g : Nat} {t : TypeId} {l : List Int} (h : RowI w g t l) (l' : List Int) : RowI (w.setRow g (words l')) g t l' := setRow_heap w g _ _ t _ h
theorem RowI.heapEq {w w' : World} {g : Nat} {t : TypeId} {l : List Int} (h : RowI w g t l) (hw : w'.heap = w.heap) : RowI w' g t l := by
  unfold RowI at *
  rw [hw]
  exact h
theorem RowI.alloc {w : World} {g : Nat} {t : TypeId} {l : List Int} (h : RowI w g t l) (o : Obj) : RowI (w.alloc o) g t l := (Below.heap_alloc w o g h.lt).trans h

def wordAt (B : List UInt8) (i : Nat) : Int := word32 (B.getD (4 * i) 0) (B.getD (4 * i + 1) 0) (B.getD (4 * i + 2) 0) (B.getD (4 * i + 3) 0)
/-- the words of a block, the first sixteen -/
def wfill (B : List UInt8) (k : Nat) : List Int := (List.range k).foldl (fun W i => W.set i (wordAt B i)) (List.replicate 64 0)
theorem wfill_len (B : List UInt8) (k : Nat) : (wfill B k).length = 64 := by
  unfold wfill
  induction k with
  | zero => simp
  | succ k ih => rw [List.range_succ, List.foldl_append]; simpa using ih
theorem wfill_succ (B : List UInt8) (k : Nat) : wfill B (k + 1) = (wfill B k).set k (wordAt B k) := by
  unfold wfill
  rw [List.range_succ, List.foldl_append]
  rfl

def add32 (a b : Int) : Int := (a + b) % 4294967296
def xor32 (a b : Int) : Int := bits .xor .u32 a b
/-- the word that follows -/
def extI (a x m y : Int) : Int := (a + xor32 (xor32 (turnI x 7) (turnI x 18)) (x / 8) + m + xor32 (xor32 (turnI y 17) (turnI y 19)) (y / 1024)) % 4294967296
def wext (W : List Int) (n : Nat) : List Int := (List.range n).foldl (fun W i => W.set (16 + i) (extI (W.getD i 0) (W.getD (i + 1) 0) (W.getD (i + 9) 0) (W.getD (i + 14) 0))) W
theorem wext_len (W : List Int) (n : Nat) : (wext W n).length = W.length := by
  unfold wext
  induction n with
  | zero => simp
  | succ k ih => rw [List.range_succ, List.foldl_append]; simpa using ih
theorem wext_succ (W : List Int) (n : Nat) : wext W (n + 1) = (wext W n).set (16 + n) (extI ((wext W n).getD n 0) ((wext W n).getD (n + 1) 0) ((wext W n).getD (n + 9) 0) ((wext W n).getD (n + 14) 0)) := by
  conv => lhs; unfold wext
  rw [List.range_succ, List.foldl_append]
  rfl

def aggI (l : List Int) : Value := .agg (words l)
def aggB (B : List UInt8) : Value := .agg (bvs B).toArray

theorem info_state : (Tryd.prog.info? 73).map (·.size) = some 8 := by kernel_rfl
theorem info_table : (Tryd.prog.info? 82).map (·.size) = some 64 := by kernel_rfl

theorem heap_new (w : World) (o : Obj) (g : Nat) (hg : w.heap.size = g) : (w.alloc o).heap[g]? = some o := by subst hg; exact heap_alloc_new w o
theorem heap_keep {w : World} {g : Nat} {x : Obj} (h : w.heap[g]? = some x) (o : Obj) : (w.alloc o).heap[g]? = some x := (Below.heap_alloc w o g (Array.getElem?_eq_some_iff.1 h).1).trans h

theorem index_row {t e : TypeId} {n : Nat} {cs : Array Value} {k : Nat} {v : Value} (hu : Tryd.prog.underlying t = some (.array n e)) (hs : ∀ w, (sizeOf e).run Tryd.prog w = .ok 1 w) (ha : ∀ w, (isAgg e).run Tryd.prog w = .ok false w)
    (hk : cs[k]? = some v) (hn : k < n) (w : World) : (Instr.index t (.agg cs) (.int .i64 (k : Int))).run Tryd.prog w = .ok v w := by
  have h : 0 ≤ (k : Int) ∧ (k : Int) < n := by omega
  simp [Instr.index, asIntOf, run_underlying hu, hs, part, ha, hk, h]
  intro h2
  omega
theorem kidx (k : Nat) (hk : k < 64) (w : World) : (Instr.index 82 (.agg kcells.toArray) (.int .i64 (k : Int))).run Tryd.prog w = .ok (.int .u32 (ktab.getD k 0)) w :=
  index_row (n := 64) (e := 72) (by kernel_rfl) (fun w => by kernel_rfl) (fun w => by kernel_rfl) (by
    have h : k < ktab.length := hk
    simp only [kcells, List.getElem?_toArray, List.getElem?_map]
    rw [List.getElem?_eq_getElem h, List.getD_eq_getElem?_getD, List.getElem?_eq_getElem h]
    rfl) hk w

/-- what the digest of a block has on its way -/
structure BlkW (w wr : World) (G : Nat) (S : List Int) (B : List UInt8) (W : List Int) : Prop where
  s : RowI wr G 73 S
  b : wr.heap[G + 1]? = some (.cells (bvs B).toArray 76 (0, 0))
  r : RowI wr (G + 1 + 1) 73 (List.replicate 8 0)
  ww : RowI wr (G + 1 + 1 + 1) 82 W
  size : wr.heap.size = G + 1 + 1 + 1 + 1
  len : W.length = 64
  only : Only Non w wr

theorem BlkW.drewN {w wr : World} {G : Nat} {S : List Int} {B : List UInt8} {W : List Int} (h : BlkW w wr G S B W) (n : Nat) : BlkW w (wr.drewN n) G S B W :=
  ⟨h.s, h.b, h.r, h.ww, h.size, h.len, h.only.drewN n⟩
theorem BlkW.set {w wr : World} {G : Nat} {S : List Int} {B : List UInt8} {W : List Int} (h : BlkW w wr G S B W) (hG : w.heap.size ≤ G) (k : Nat) (v : Int) :
    BlkW w (wr.setCell ⟨G + 1 + 1 + 1, k, none⟩ (.int .u32 v)) G S B (W.set k v) :=
  ⟨h.s.other _ _ (by omega), (heap_setCell_other _ _ _ _ (by show _ ≠ G + 1 + 1 + 1; omega)).trans h.b, h.r.other _ _ (by omega), h.ww.set k v, by rw [World.setCell]; simpa using h.size, by simpa using h.len, h.only.setCell (.inr (by show _ ≤ G + 1 + 1 + 1; omega)) _⟩

theorem arr64 : Tryd.prog.underlying 76 = some (.array (Tryd.prog.arrayLen 76) (Tryd.prog.elem 76)) := by kernel_rfl
theorem arr64n : Tryd.prog.arrayLen 76 = 64 := by kernel_rfl
theorem arr64s (w : World) : (sizeOf (Tryd.prog.elem 76)).run Tryd.prog w = .ok 1 w := by kernel_rfl
theorem slice64 (W : World) (g q : Nat) (hq : q ≤ 60) : (Instr.sliceAt 76 (.pointer (some ⟨g, 0, none⟩)) (some (.int .i64 (q : Int))) none none).run Tryd.prog W = .ok (.slice (some ⟨g, q, none⟩) (64 - q) (64 - q)) W := by
  rw [run_sliceAt_array_l W _ _ arr64 _ _ (by omega) (by rw [arr64n]; omega), arr64s, arr64n]
  have h : ¬ 64 = q := by omega
  simp only [slicedAt, if_neg h, Result.andThen_ok, Nat.mul_one, add_at, Nat.zero_add, Int.toNat_natCast]

/-- a callee that leaves the world as it is, called in a region that stands behind drawn ones -/
theorem quietTwo {P : Program} {f : FuncId} {args : Array Value} {w : World} {a n : Nat} {v : Value} (h : Calls P f args (w.drewN (a + n)) fun e w' => e = .returned v ∧ w' = w.drewN (a + n)) :
    Calls P f args (w.drewN (a + n)) fun e w' => e = .returned v ∧ ∃ k, w' = w.drewN (a + k) :=
  h.mono fun _ _ hh => ⟨hh.1, n, hh.2⟩
theorem words_one (l : List Int) : (words l).all (·.oneCell') = true := by
  rw [Array.all_eq_true]
  intro i hi
  simp [words, Value.oneCell']
theorem Only.setRow {S : Nat → Prop} {w w' : World} (h : Only S w w') {g : Nat} (hp : S g ∨ w.heap.size ≤ g) (cs : Array Value) : Only S w (w'.setRow g cs) :=
  ⟨h.os, h.tape, h.output, Nat.le_trans h.size (by simp [World.setRow]), fun k hk hn => by
    simp only [World.setRow, Array.getElem?_modify]
    rw [if_neg (fun e => by subst e; exact hp.elim hn (fun h' => by omega))]
    exact h.block k hk hn⟩
theorem info8 {l : List Int} (h : l.length = 8) : (Tryd.prog.info? 73).map (·.size) = some (words l).size := by rw [info_state, words_size, h]
theorem info64 : (Tryd.prog.info? 82).map (·.size) = some kcells.length := by rw [info_table, kcells_len]

/-- one round -/
def sT (e f g h k x : Int) : Int := ((h + bits .xor .u32 (bits .xor .u32 (turnI e 6) (turnI e 11)) (turnI e 25) + bits .or .u32 (bits .and .u32 e f) (bits .and .u32 (bits .xor .u32 IntKind.u32.max e) g) + k) % 4294967296 + x) % 4294967296
def sU (a b c : Int) : Int := (bits .xor .u32 (bits .xor .u32 (turnI a 2) (turnI a 13)) (turnI a 22) + bits .xor .u32 (bits .xor .u32 (bits .and .u32 a b) (bits .and .u32 a c)) (bits .and .u32 b c)) % 4294967296
def roundI (s : List Int) (k x : Int) : List Int :=
  match s with
  | [a, b, c, d, e, f, g, h] => [(sT e f g h k x + sU a b c) % 4294967296, a, b, c, (d + sT e f g h k x) % 4294967296, e, f, g]
  | _ => s
def roundsI (W S : List Int) (n : Nat) : List Int := (List.range n).foldl (fun s i => roundI s (ktab.getD i 0) (W.getD i 0)) S
theorem roundI_len (s : List Int) (k x : Int) (h : s.length = 8) : (roundI s k x).length = 8 := by
  unfold roundI
  split
  · rfl
  · exact h
theorem roundsI_len (W S : List Int) (n : Nat) (h : S.length = 8) : (roundsI W S n).length = 8 := by
  unfold roundsI
  induction n with
  | zero => simpa using h
  | succ k ih => rw [List.range_succ, List.foldl_append]; exact roundI_len _ _ _ ih
theorem roundsI_succ (W S : List Int) (n : Nat) : roundsI W S (n + 1) = roundI (roundsI W S n) (ktab.getD n 0) (W.getD n 0) := by
  unfold roundsI
  rw [List.range_succ, List.foldl_append]
  rfl
theorem len8 {s : List Int} (h : s.length = 8) : ∃ a b c d e f g h, s = [a, b, c, d, e, f, g, h] := by
  match s, h with
  | [a, b, c, d, e, f, g, h], _ => exact ⟨a, b, c, d, e, f, g, h, rfl⟩
def sumsI (S s : List Int) (n : Nat) : List Int := (List.range n).foldl (fun s i => s.set i ((s.getD i 0 + S.getD i 0) % 4294967296)) s
theorem sumsI_len (S s : List Int) (n : Nat) : (sumsI S s n).length = s.length := by
  unfold sumsI
  induction n with
  | zero => simp
  | succ k ih => rw [List.range_succ, List.foldl_append]; simpa using ih
theorem sumsI_succ (S s : List Int) (n : Nat) : sumsI S s (n + 1) = (sumsI S s n).set n (((sumsI S s n).getD n 0 + S.getD n 0) % 4294967296) := by
  conv => lhs; unfold sumsI
  rw [List.range_succ, List.foldl_append]
  rfl
/-- the state behind a block -/
def blockI (S : List Int) (B : List UInt8) : List Int := sumsI S (roundsI (wext (wfill B 16) 48) S 64) 8
theorem blockI_len {S : List Int} {B : List UInt8} (h : S.length = 8) : (blockI S B).length = 8 := by
  unfold blockI
  rw [sumsI_len, roundsI_len _ _ _ h]

structure RndW (w wr : World) (G : Nat) (S W s : List Int) : Prop where
  ss : RowI wr G 73 S
  r : RowI wr (G + 1 + 1) 73 (List.replicate 8 0)
  ww : RowI wr (G + 1 + 1 + 1) 82 W
  t : RowI wr (G + 1 + 1 + 1 + 1) 73 s
  size : wr.heap.size = G + 1 + 1 + 1 + 1 + 1
  only : Only Non w wr
theorem RndW.drewN {w wr : World} {G : Nat} {S W s : List Int} (h : RndW w wr G S W s) (n : Nat) : RndW w (wr.drewN n) G S W s :=
  ⟨h.ss, h.r, h.ww, h.t, h.size, h.only.drewN n⟩
theorem RndW.put {w wr : World} {G : Nat} {S W s : List Int} (h : RndW w wr G S W s) (hG : w.heap.size ≤ G) (s' : List Int) : RndW w (wr.setRow (G + 1 + 1 + 1 + 1) (words s')) G S W s' :=
  ⟨h.ss.setRow _ (by omega), h.r.setRow _ (by omega), h.ww.setRow _ (by omega), h.t.put s', by simpa using h.size, h.only.setRow (.inr (by omega)) _⟩
theorem RndW.set {w wr : World} {G : Nat} {S W s : List Int} (h : RndW w wr G S W s) (hG : w.heap.size ≤ G) (k : Nat) (v : Int) : RndW w (wr.setCell ⟨G + 1 + 1 + 1 + 1, k, none⟩ (.int .u32 v)) G S W (s.set k v) :=
  ⟨h.ss.other _ _ (by omega), h.r.other _ _ (by omega), h.ww.other _ _ (by omega), h.t.set k v, by rw [World.setCell]; simpa using h.size, h.only.setCell (.inr (by show _ ≤ G + 1 + 1 + 1 + 1; omega)) _⟩
theorem BlkW.next {w wr : World} {G : Nat} {S : List Int} {B : List UInt8} {W : List Int} (h : BlkW w wr G S B W) (hG : w.heap.size ≤ G) :
    RndW w ((wr.alloc (.cells (words (List.replicate 8 0)) 73)).setRow (G + 1 + 1 + 1 + 1) (words S)) G S W S :=
  ⟨(h.s.alloc _).setRow _ (by omega), (h.r.alloc _).setRow _ (by omega), (h.ww.alloc _).setRow _ (by omega), RowI.put (l := List.replicate 8 0) (heap_new _ _ _ h.size) S, by simpa using h.size, (h.only.alloc _).setRow (.inr (by omega)) _⟩
end Go.Proofs.YtailcinidojdjaaDoor

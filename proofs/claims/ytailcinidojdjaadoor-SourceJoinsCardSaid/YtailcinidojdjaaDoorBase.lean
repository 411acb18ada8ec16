/- The words for memory that all texts of this seat use: which blocks a call may have changed, what a slice reads as, and the append of a slice that the call owns; plain lemmas, no program in sight. -/
import Derived.WalkKit
import Derived.Deep.AppendLies
import Derived.Deep.Draws
import Derived.Lib.Hide
import Derived.Laws.AppendOwnNone
import Derived.WalkSpells
import Derived.BigQuiet
import Derived.Deep.QuietTactic
namespace Go.Proofs.YtailcinidojdjaaDoor
open Go Go.RowKit

/-- Only blocks of S, and new ones, may have changed. -/
structure Only (S : Nat → Prop) (w w' : World) : Prop where
  os : w'.os = w.os
  tape : w'.tape = w.tape
  output : w'.output = w.output
  size : w.heap.size ≤ w'.heap.size
  block : ∀ k, k < w.heap.size → ¬ S k → w'.heap[k]? = w.heap[k]?
/-- no block -/
def Non (_ : Nat) : Prop := False
/-- one block -/
def One (b : Nat) (k : Nat) : Prop := k = b

section
variable {S S' M : Nat → Prop} {w w' w'' : World}
theorem Only.refl (S : Nat → Prop) (w : World) : Only S w w := ⟨rfl, rfl, rfl, Nat.le_refl _, fun _ _ _ => rfl⟩
theorem Only.mono (h : Only S w w') (hs : ∀ k, k < w.heap.size → S k → S' k) : Only S' w w' := ⟨h.os, h.tape, h.output, h.size, fun k hk hn => h.block k hk fun hS => hn (hs k hk hS)⟩
theorem Only.any (h : Only Non w w') (S : Nat → Prop) : Only S w w' := h.mono fun _ _ => False.elim
theorem Only.trans (h : Only S w w') (k : Only S w' w'') : Only S w w'' :=
  ⟨k.os.trans h.os, k.tape.trans h.tape, k.output.trans h.output, Nat.le_trans h.size k.size, fun i hi hn => (k.block i (Nat.lt_of_lt_of_le hi h.size) hn).trans (h.block i hi hn)⟩
/-- the second step may also change what is new since w -/
theorem Only.step (h : Only S w w') (k : Only S' w' w'') (hs : ∀ b, S' b → S b ∨ w.heap.size ≤ b) : Only S w w'' :=
  ⟨k.os.trans h.os, k.tape.trans h.tape, k.output.trans h.output, Nat.le_trans h.size k.size, fun i hi hn =>
    (k.block i (Nat.lt_of_lt_of_le hi h.size) fun h' => (hs i h').elim hn (fun h'' => by omega)).trans (h.block i hi hn)⟩
theorem Only.then_ (h : Only S w w') (k : Only Non w' w'') : Only S w w'' := h.step k fun _ => False.elim
theorem Only.of_below (h : Below w.heap.size w w') : Only S w w' := ⟨h.os, h.tape, h.output, h.size, fun k hk _ => h.block k hk⟩
theorem Only.below (h : Only Non w w') : Below w.heap.size w w' := ⟨h.os, h.tape, h.output, h.size, fun k hk => h.block k hk id⟩
theorem Only.belowB {B : Nat} (h : Only S w w') (hB : B ≤ w.heap.size) (hs : ∀ b, S b → B ≤ b) : Below B w w' := ⟨h.os, h.tape, h.output, h.size, fun k hk => h.block k (by omega) fun h' => by have := hs k h'; omega⟩
theorem Only.drew (h : Only S w w') : Only S w w'.drew := ⟨h.os, h.tape, h.output, h.size, h.block⟩
theorem Only.drewN (h : Only S w w') (n : Nat) : Only S w (w'.drewN n) := ⟨h.os, h.tape, h.output, h.size, h.block⟩
theorem Only.alloc (h : Only S w w') (o : Obj) : Only S w (w'.alloc o) :=
  ⟨h.os, h.tape, h.output, Nat.le_trans h.size (by simp), fun k hk hn => (Below.heap_alloc w' o k (Nat.lt_of_lt_of_le hk h.size)).trans (h.block k hk hn)⟩
theorem Only.setCell (h : Only S w w') {p : Addr} (hp : S p.block ∨ w.heap.size ≤ p.block) (u : Value) : Only S w (w'.setCell p u) :=
  ⟨h.os, h.tape, h.output, Nat.le_trans h.size (by simp [World.setCell]), fun k hk hn => (Below.heap_setCell w' p u k (fun e => by
    subst e
    exact hp.elim hn (fun h' => by omega))).trans (h.block k hk hn)⟩
theorem Only.grown {row : Option Nat} (h : Only S w w') (hg : w'.grownBy w'' row) (hr : ∀ k, row = some k → S k ∨ w.heap.size ≤ k) : Only S w w'' :=
  h.step (S' := fun k => row = some k) ⟨hg.os, hg.tape, hg.output, hg.size, fun k hk hn => hg.block k hk (fun e => hn e.symm)⟩ fun b hb => hr b hb
theorem Only.of_grown {row : Option Nat} (hg : w.grownBy w' row) : Only (fun k => row = some k) w w' := ⟨hg.os, hg.tape, hg.output, hg.size, fun k hk hn => hg.block k hk (fun e => hn e.symm)⟩
theorem Only.cell (h : Only S w w') {p : Addr} (hp : p.block < w.heap.size) (hn : ¬ S p.block) : w'.cell? p = w.cell? p := World.cell?_of_block (h.block p.block hp hn)
theorem Only.heap (h : Only S w w') {b : Nat} {o : Obj} (hb : w.heap[b]? = some o) (hn : ¬ S b) : w'.heap[b]? = some o := (h.block b (lt_of_block hb) hn).trans hb
end

/-- The slice v of n elements of so many cells reads as these cells; it lies in no block of M. -/
def Rd (M : Nat → Prop) (w : World) (size : Nat) (v : Value) (n : Nat) (cells : List Value) : Prop :=
  cells.length = n * size ∧ ∃ A c, v = .slice A n c ∧ n ≤ c ∧ c ≤ maxLen ∧ (A = none → c = 0) ∧
    (0 < n → ∃ b o, A = some ⟨b, o, none⟩ ∧ ¬ M b ∧ b < w.heap.size ∧ ∀ j u, cells[j]? = some u → w.cell? ⟨b, o + j, none⟩ = some u)

theorem add_at (b o j : Nat) : (⟨b, o, none⟩ : Addr).add j = ⟨b, o + j, none⟩ := by unfold Addr.add; split <;> simp_all

section
variable {S M M' : Nat → Prop} {w w' : World} {size n : Nat} {v : Value} {cells : List Value}
theorem Rd.nil (M : Nat → Prop) (w : World) (size : Nat) : Rd M w size (.slice none 0 0) 0 [] := ⟨by simp, none, 0, rfl, Nat.le_refl _, by simp [maxLen], fun _ => rfl, fun h => absurd h (by omega)⟩
theorem Rd.keep (h : Rd M w size v n cells) (k : Only S w w') (hs : ∀ b, b < w.heap.size → S b → M b) : Rd M w' size v n cells := by
  obtain ⟨h1, A, c, h2, h3, h4, h6, h5⟩ := h
  refine ⟨h1, A, c, h2, h3, h4, h6, fun hn => ?_⟩
  obtain ⟨b, o, e, hM, hb, hc⟩ := h5 hn
  exact ⟨b, o, e, hM, Nat.lt_of_lt_of_le hb k.size, fun j u hu => (k.cell (p := ⟨b, o + j, none⟩) hb (fun hS => hM (hs b hb hS))).trans (hc j u hu)⟩
theorem Rd.kept (h : Rd M w size v n cells) (k : Only Non w w') : Rd M w' size v n cells := h.keep k fun _ _ => False.elim
theorem Rd.drewN (h : Rd M w size v n cells) (k : Nat) : Rd M (w.drewN k) size v n cells := h
/-- a list of blocks more to stay clear of: they are new -/
theorem Rd.more (h : Rd M w size v n cells) (hm : ∀ b, M' b → M b ∨ w.heap.size ≤ b) : Rd M' w size v n cells := by
  obtain ⟨h1, A, c, h2, h3, h4, h6, h5⟩ := h
  refine ⟨h1, A, c, h2, h3, h4, h6, fun hn => ?_⟩
  obtain ⟨b, o, e, hM, hb, hc⟩ := h5 hn
  exact ⟨b, o, e, fun h' => (hm b h').elim hM (fun h'' => by omega), hb, hc⟩
theorem Rd.of_own {base : Nat} {e : TypeId} (h : w.ownsRow base e size v n cells) (hM : ∀ b, M b → b < base) : Rd M w size v n cells := by
  refine ⟨h.1, ?_⟩
  rcases h.2 with ⟨rfl, rfl⟩ | ⟨g, cap, cur, rfl, hb, hg, h1, h2, h3, h4⟩
  · exact ⟨none, 0, rfl, Nat.le_refl _, by simp [maxLen], fun _ => rfl, fun h => absurd h (by omega)⟩
  · refine ⟨_, cap, rfl, h1, h2, nofun, fun hn => ⟨g, 0, rfl, fun h' => by have := hM g h'; omega, lt_of_block hg, fun j u hu => ?_⟩⟩
    have := h.cells (g := g) rfl j u hu
    rwa [add_at] at this
theorem Rd.form (h : Rd M w size v n cells) : ∃ A c, v = .slice A n c ∧ n ≤ c ∧ c ≤ maxLen ∧ (A = none → c = 0) := let ⟨_, A, c, h2, h3, h4, h6, _⟩ := h; ⟨A, c, h2, h3, h4, h6⟩
/-- what has just been built by a literal -/
theorem Rd.built (M : Nat → Prop) (w : World) (size n : Nat) (cs : Array Value) (e : TypeId) (g : Nat) (hg : w.heap.size = g) (hs : cs.size = n * size) (hn : n ≤ 1000) (hM : ∀ b, M b → b < w.heap.size) :
    Rd M (w.alloc (.cells cs e)) size (.slice (some ⟨g, 0, none⟩) n n) n cs.toList := by
  subst hg
  refine ⟨by simpa using hs, _, n, rfl, Nat.le_refl _, by simp only [maxLen]; omega, nofun, fun _ => ⟨_, 0, rfl, fun h => by have := hM _ h; omega, by simp, fun j u hu => ?_⟩⟩
  have := World.news_of_block (w := w.alloc (.cells cs e)) (B := w.heap.size) (cs := cs) (t := e) (fr := (0, 0)) (heap_alloc_new w _) j u hu
  rwa [add_at] at this
/-- what the call owns: only blocks from base on are written by an append to it -/
theorem own_only {base : Nat} {e : TypeId} (h : w.ownsRow base e size v n cells) (hg : w.grownBy w' v.ownBlock) : Only (fun k => base ≤ k) w w' := by
  refine (Only.of_grown hg).mono fun k _ hk => ?_
  rcases h.2 with ⟨rfl, _⟩ | ⟨g, cap, cur, rfl, hb, _⟩
  · cases hk
  · have : g = k := by simpa [Value.ownBlock] using hk
    omega
end

/-- append of whatever reads as these cells, to a slice that the call owns. -/
theorem wpl_append {P : Program} {ops : Array Oper} {rest : List Oper} {o : Oper} {a : Act} {Q : Exit → Act → World → Prop} {w : World} (hgd : o.guard = none) (s x : Operand) (t : TypeId)
    (ho : o.op = .call { callee := .builtin .append, args := #[s, x], argTypes := #[t, t] })
    (e : TypeId) (z : Value) (size bytes : Nat) (ht : P.underlying t = some (.slice e)) (hinfo : (P.info? e).map (fun i => (i.zero, i.size, i.bytes)) = some (some z, size, bytes))
    (hzs : z.cells.size = size) (hsz : 0 < size) (hb0 : 0 < bytes)
    (base : Nat) (v : Value) (n : Nat) (xs : List Value) (hs : a.eval s = v) (hown : w.ownsRow base e size v n xs)
    (M : Nat → Prop) (vx : Value) (m : Nat) (news : List Value) (hx : a.eval x = vx) (hr : Rd M w size vx m news) (h1 : ∀ u ∈ news, u.oneCell' = true)
    (hbytes : (n + m) * bytes ≤ 140737488355328) (hbase : base ≤ w.heap.size)
    (h : ∀ v' w', w'.ownsRow base e size v' (n + m) (xs ++ news) → w.grownBy w' v.ownBlock → (v'.ownBlock = v.ownBlock ∨ v'.ownBlock = some w.heap.size) → wpList P ops Q rest (a.put o.dst v') w') :
    wpList P ops Q (o :: rest) a w := by
  obtain ⟨i, hi, hz0, hz1, hz2⟩ := info_parts hinfo
  obtain ⟨hl, A, c, rfl, hmc, hcm, hnil, hcell⟩ := hr
  have hlen : n + m ≤ 140737488355328 := Nat.le_trans (Nat.le_mul_of_pos_right _ hb0) hbytes
  cases A with
  | none =>
    obtain rfl := hnil rfl
    obtain rfl : m = 0 := by omega
    obtain rfl : news = [] := List.eq_nil_of_length_eq_zero (by simpa using hl)
    exact wpList_append_own_none hgd s x t ho base e i size ht hi v n xs hs hown hx (h v w (by simpa using hown) (World.grownBy.refl _ _) (.inl rfl))
  | some ad =>
    refine wpList_append_own_at w hgd s x t ho base e i z size bytes ht hi hz0 hz1 hz2 hzs hsz v n xs hs hown ad m c news hx hl (fun j u hu => ?_) h1 (by simp only [maxLen]; omega) hbytes hbase (fun v' w' h2 h3 _ h5 => h v' w' h2 h3 h5)
    have hm : 0 < m := by
      have hj := (List.getElem?_eq_some_iff.1 hu).1
      rcases Nat.eq_zero_or_pos m with rfl | hm
      · rw [hl] at hj; omega
      · exact hm
    obtain ⟨b, o', e1, _, _, hc⟩ := hcell hm
    injection e1 with e1
    subst e1
    rw [add_at]
    exact hc j u hu

/-- a byte as a value; bytes as values -/
def bv (x : UInt8) : Value := .int .u8 (x.toNat : Int)
def bvs (xs : List UInt8) : List Value := xs.map bv
theorem bvs_length (xs : List UInt8) : (bvs xs).length = xs.length := by simp [bvs]
theorem bvs_append (xs ys : List UInt8) : bvs (xs ++ ys) = bvs xs ++ bvs ys := by simp [bvs]
theorem bvs_nil : bvs [] = [] := rfl
theorem bv_one (xs : List UInt8) : ∀ u ∈ bvs xs, u.oneCell' = true := by
  intro u hu
  obtain ⟨x, _, rfl⟩ := List.mem_map.1 hu
  rfl
/-- v reads as bytes -/
def By (M : Nat → Prop) (w : World) (v : Value) (xs : List UInt8) : Prop := Rd M w 1 v xs.length (bvs xs)
/-- v is a row of bytes of the call's own -/
def OB (w : World) (base : Nat) (v : Value) (xs : List UInt8) : Prop := w.ownsRow base 5 1 v xs.length (bvs xs)
theorem By.keep {S M : Nat → Prop} {w w' : World} {v : Value} {xs : List UInt8} (h : By M w v xs) (k : Only S w w') (hs : ∀ b, b < w.heap.size → S b → M b) : By M w' v xs := Rd.keep h k hs
theorem By.kept {M : Nat → Prop} {w w' : World} {v : Value} {xs : List UInt8} (h : By M w v xs) (k : Only Non w w') : By M w' v xs := Rd.kept h k
theorem By.more {M M' : Nat → Prop} {w : World} {v : Value} {xs : List UInt8} (h : By M w v xs) (hm : ∀ b, M' b → M b ∨ w.heap.size ≤ b) : By M' w v xs := Rd.more h hm
theorem OB.by {M : Nat → Prop} {w : World} {base : Nat} {v : Value} {xs : List UInt8} (h : OB w base v xs) (hM : ∀ b, M b → b < base) : By M w v xs := Rd.of_own h hM
theorem OB.non {w : World} {base : Nat} {v : Value} {xs : List UInt8} (h : OB w base v xs) : By Non w v xs := h.by fun _ => False.elim
/-- open a slice of bytes for a walk: its value written out, its length a letter of its own -/
theorem By.open {M : Nat → Prop} {w : World} {v : Value} {xs : List UInt8} (h : By M w v xs) : ∃ A c, v = .slice A xs.length c ∧ xs.length ≤ c ∧ c ≤ maxLen ∧ (A = none → c = 0) := Rd.form h
/-- one byte, built as the operand of an append -/
theorem By.one (w : World) (x : UInt8) (e : TypeId) (g : Nat) (hg : w.heap.size = g) : By Non (w.alloc (.cells #[bv x] e)) (.slice (some ⟨g, 0, none⟩) 1 1) [x] := Rd.built Non w 1 1 #[bv x] e g hg rfl (by omega) (fun _ h => h.elim)
theorem By.at {M : Nat → Prop} {w : World} {A : Option Addr} {c : Nat} {xs : List UInt8} (h : By M w (.slice A xs.length c) xs) (hn : 0 < xs.length) :
    ∃ b o, A = some ⟨b, o, none⟩ ∧ ¬ M b ∧ b < w.heap.size ∧ ∀ j (hj : j < xs.length), w.cell? ⟨b, o + j, none⟩ = some (.int .u8 (xs[j].toNat : Int)) := by
  obtain ⟨_, A', c', e, _, _, _, h5⟩ := h
  injection e with e1 e2 e3
  subst e1 e3
  obtain ⟨b, o, e, hM, hb, hc⟩ := h5 hn
  exact ⟨b, o, e, hM, hb, fun j hj => hc j _ (by simp [bvs, bv, hj])⟩
theorem OB.lower {w : World} {B B' : Nat} {v : Value} {xs : List UInt8} (h : OB w B v xs) (hB : B' ≤ B) : OB w B' v xs := by
  refine ⟨h.1, ?_⟩
  rcases h.2 with h2 | ⟨g, cap, cur, h3, h4, h5⟩
  · exact .inl h2
  · exact .inr ⟨g, cap, cur, h3, Nat.le_trans hB h4, h5⟩
/-- what is owned lives on where only other blocks change -/
theorem own_keep {S : Nat → Prop} {w w' : World} {base size n : Nat} {e : TypeId} {v : Value} {xs : List Value} (h : w.ownsRow base e size v n xs) (k : Only S w w') (hs : ∀ b, v.ownBlock = some b → ¬ S b) : w'.ownsRow base e size v n xs := by
  refine ⟨h.1, ?_⟩
  rcases h.2 with h2 | ⟨g, cap, cur, rfl, h4, h5, h6⟩
  · exact .inl h2
  · exact .inr ⟨g, cap, cur, rfl, h4, k.heap h5 (hs g rfl), h6⟩
theorem OB.keep {S : Nat → Prop} {w w' : World} {B : Nat} {v : Value} {xs : List UInt8} (h : OB w B v xs) (k : Only S w w') (hs : ∀ b, v.ownBlock = some b → ¬ S b) : OB w' B v xs := own_keep h k hs
theorem OB.kept {w w' : World} {B : Nat} {v : Value} {xs : List UInt8} (h : OB w B v xs) (k : Only Non w w') : OB w' B v xs := own_keep h k (fun _ _ => id)
end Go.Proofs.YtailcinidojdjaaDoor

/- Part of this seat's proofs: contracts of functions of the program and plain lemmas, which the claim's theorem uses. -/
import Derived.Test.YtailcinidojdjaaDoorLaw4
namespace Go.Proofs.YtailcinidojdjaaDoor
open Go Go.RowKit
set_option linter.unusedVariables false
set_option linter.unusedSimpArgs false

/-! ### segments, joined -/
theorem cut_join (b : List UInt8) (c : Nat) : ∀ k : Nat, ((List.range k).flatMap (cutB b c)) = b.take (k * c) := by
  intro k
  induction k with
  | zero => simp
  | succ k ih =>
    rw [List.range_succ, List.flatMap_append, ih]
    simp only [List.flatMap_cons, List.flatMap_nil, List.append_nil]
    have hq : (k + 1) * c = k * c + c := Nat.succ_mul k c
    unfold cutB
    rw [hq]
    apply List.ext_getElem?
    intro i
    rw [List.getElem?_append]
    simp only [List.length_take, List.getElem?_take, List.getElem?_drop]
    split
    · rename_i h
      rw [if_pos (by omega), if_pos (by omega)]
    · rename_i h
      by_cases h2 : k * c ≤ b.length
      · have e1 : min (k * c) b.length = k * c := by omega
        rw [e1] at h ⊢
        have e2 : k * c + (i - k * c) = i := by omega
        rw [e2]
        split
        · split
          · rfl
          · omega
        · split
          · rename_i h4 h5
            symm
            rw [List.getElem?_eq_none_iff]
            omega
          · rfl
      · have : b[i]? = none := by rw [List.getElem?_eq_none_iff]; omega
        have h3 : b[k * c + (i - min (k * c) b.length)]? = none := by rw [List.getElem?_eq_none_iff]; omega
        rw [this, h3]
        simp
theorem cut_all {b : List UInt8} {c : Nat} (hc : 1 ≤ c) : ((List.range (segN c b.length)).flatMap (cutB b c)) = b := by
  rw [cut_join]
  have := (seg_end (c := c) (T := b.length) hc).1
  exact List.take_of_length_le (by omega)

theorem cat_cuts {b : List UInt8} {c : Nat} (hc : 1 ≤ c) {ps : List (Value × List UInt8)} (h : ps.map (·.2) = (List.range (segN c b.length)).map (cutB b c)) : catB ps = b := by
  have h1 : catB ps = (ps.map (·.2)).flatten := by rw [catB, List.flatMap_def]
  rw [h1, h, ← List.flatMap_def, cut_all hc]

/-! ### leaving past several marks -/
/-- the marks of loops that a function has gone through, each block its own, all new since w0 -/
def Marks (w0 : World) : List Deferred → World → Prop
  | [], _ => True
  | d :: ds, W => (∃ D, d = markOf D ∧ w0.heap.size ≤ D ∧ W.heap[D]? = some (.deferred (some [])) ∧ ∀ d' ∈ ds, d' ≠ markOf D) ∧ Marks w0 ds W
theorem Marks.keep {w0 W W' : World} {S : Nat → Prop} (hO : Only S W W') : ∀ {ds : List Deferred}, Marks w0 ds W → (∀ D, markOf D ∈ ds → ¬ S D) → Marks w0 ds W'
  | [], _, _ => trivial
  | d :: ds, ⟨⟨D, e, h1, h2, h3⟩, h⟩, hn => ⟨⟨D, e, h1, hO.heap h2 (hn D (by rw [← e]; exact List.mem_cons_self)), h3⟩, h.keep hO fun D' hD' => hn D' (List.mem_cons_of_mem _ hD')⟩
theorem Marks.lt {w0 W : World} : ∀ {ds : List Deferred} {D : Nat}, Marks w0 ds W → markOf D ∈ ds → D < W.heap.size
  | d :: ds, D, ⟨⟨D', e, h1, h2, h3⟩, h⟩, hm => by
    rcases List.mem_cons.1 hm with h4 | h4
    · rw [e] at h4
      injection h4 with h5
      injection h5 with h6
      subst h6
      exact lt_of_block h2
    · exact h.lt h4
theorem leave_all {P : Program} {fn : Func} {tmps : Array Value} {R : Ending → World → Prop} {w0 : World} : ∀ {ds : List Deferred} {W : World}, Only Non w0 W → Marks w0 ds W →
    (∀ W', Only Non w0 W' → LeavesInM Fence.wide 1 P fn tmps R [] .returning W') → LeavesInM Fence.wide 1 P fn tmps R ds .returning W
  | [], W, hO, _, h => h W hO
  | d :: ds, W, hO, ⟨⟨D, e, h1, h2, h3⟩, hm⟩, h => by
    subst e
    have hP : Only (fun b => b = D) W (W.putObj D (.deferred none)) := (Only.refl (fun b => b = D) _).putObj (.inl rfl) _
    refine leave_mark h2 (leave_all (hO.step hP fun b hb => .inr (by omega)) (hm.keep hP fun D' hD' hb => ?_) h)
    subst hb
    exact h3 _ hD' rfl

/-! ### what holds between two rounds that collect segments -/
/-- the blocks that the collected slice lies in, or that a round writes -/
def Own3 (b : Nat) (pv : Value) (x : Nat) : Prop := x = b ∨ x = b + 3 + 1 ∨ pv.ownBlock = some x
def JnJ (w0 : World) (b : Nat) (SB : List UInt8) (c : Nat) (rec : Loop) (H : Nat → Prop) (k : Nat) (W : World) : Prop :=
  ∃ (pv : Value) (ps : List (Value × List UInt8)), Only (fun x => x = b ∨ x = b + 3 + 1) w0 W ∧ W.heap[b]? = some (.cells #[pv] 38 (0, 0)) ∧ W.ownsRow w0.heap.size 33 1 pv k (ps.map (·.1)) ∧ ps.length = k ∧
    ps.map (·.2) = (List.range k).map (cutB SB c) ∧ (∀ p ∈ ps, By (Own3 b pv) W p.1 p.2) ∧ W.heap[b + 3 + 1]? = some (.loop rec) ∧ ∀ x, H x → (x = b + 2 ∨ b + 5 ≤ x) ∧ pv.ownBlock ≠ some x
theorem jn_step {w0 W1 W2 w' : World} {b c : Nat} {SB : List UInt8} {rec : LoopState → Option Code → Loop} {H : Nat → Prop} {k N : Nat} {pv v' u : Value} {ps : List (Value × List UInt8)} {o : Obj} {a : Act} (hb : w0.heap.size = b + 5)
    (j1 : Only (fun x => x = b ∨ x = b + 3 + 1) w0 W1) (jb : W1.heap[b]? = some (.cells #[pv] 38 (0, 0))) (jo : W1.ownsRow w0.heap.size 33 1 pv k (ps.map (·.1))) (jl : ps.length = k)
    (jc : ps.map (·.2) = (List.range k).map (cutB SB c)) (jB : ∀ p ∈ ps, By (Own3 b pv) W1 p.1 p.2) (jr : W1.heap[b + 3 + 1]? = some (.loop (rec .ready none))) (jH : ∀ x, H x → (x = b + 2 ∨ b + 5 ≤ x) ∧ pv.ownBlock ≠ some x) (jHB : ∀ x, H x → x < W1.heap.size)
    (hu : By (fun x => x < N) W1 u (cutB SB c k)) (hN : b + 5 ≤ N) (hN2 : ∀ x, pv.ownBlock = some x → x < N) (hW2 : W2 = W1.putObj (b + 3 + 1) (.loop (rec .busy none)))
    (hG : Only (fun x => pv.ownBlock = some x) (W2.alloc o) w') (ho : w'.ownsRow w0.heap.size 33 1 v' (k + 1) (ps.map (·.1) ++ [u])) (hat : v'.ownBlock = pv.ownBlock ∨ v'.ownBlock = some (W2.alloc o).heap.size) :
    rndPost (b + 3 + 1) rec (fun e W' => e = .returned (.bool true) ∧ JnJ w0 b SB c (rec .ready none) H (k + 1) W' ∧ Only (fun x => ¬ H x) W1 W' ∨ e = .returned (.bool false) ∧ False) .normal a (w'.setCell ⟨b, 0, none⟩ v') := by
  have hpo : ∀ x, pv.ownBlock = some x → b + 5 ≤ x ∧ x < W1.heap.size := fun x hx => by have := jo.lt x hx; omega
  have hlt := lt_of_block jr
  have hO2 : Only (fun x => x = b + 3 + 1) W1 W2 := by rw [hW2]; exact (Only.refl (fun x => x = b + 3 + 1) _).putObj (.inl rfl) _
  have hsz2 : W2.heap.size = W1.heap.size := by rw [hW2]; simp
  have r2 : W2.heap[b + 3 + 1]? = some (.loop (rec .busy none)) := by rw [hW2]; exact World.putObj_heap_same hlt
  have hO3 : Only (fun x => x = b + 3 + 1) W1 (W2.alloc o) := hO2.alloc o
  have hsz3 : (W2.alloc o).heap.size = W1.heap.size + 1 := by simp [hsz2]
  have r3 := heap_keep r2 o
  generalize W2.alloc o = W3 at *
  -- behind the append
  have hnb : ¬ pv.ownBlock = some b := fun h => by have := (hpo _ h).1; omega
  have hnl : ¬ pv.ownBlock = some (b + 3 + 1) := fun h => by have := (hpo _ h).1; omega
  have b4 := hG.heap (hO3.heap jb (by omega)) hnb
  have r4 := hG.heap r3 hnl
  have hS : Only (fun x => x = b) w' (w'.setCell ⟨b, 0, none⟩ v') := (Only.refl (fun x => x = b) _).setCell (.inl rfl) _
  have b5 := one_setCell (u := v') b4
  have r5 := hS.heap r4 (by omega)
  have ho5 := own_keep ho hS (fun x hx h => by
    rcases hat with h1 | h1
    · rw [h1, h] at hx; exact hnb hx
    · rw [h1] at hx
      have := Option.some.inj hx
      omega)
  generalize w'.setCell ⟨b, 0, none⟩ v' = W5 at *
  refine ⟨r5, .inl ⟨rfl, ?_, ?_⟩⟩
  · have hP : Only (fun x => x = b + 3 + 1) W5 (W5.putObj (b + 3 + 1) (.loop (rec .ready none))) := (Only.refl (fun x => x = b + 3 + 1) _).putObj (.inl rfl) _
    have hr := World.putObj_heap_same (w := W5) (o := .loop (rec .ready none)) (lt_of_block r5)
    have b6 := hP.heap b5 (by omega)
    have hvb : ∀ x, v'.ownBlock = some x → pv.ownBlock = some x ∨ x = W1.heap.size + 1 := fun x hx => by
      rcases hat with h1 | h1
      · exact .inl (h1 ▸ hx)
      · rw [h1, hsz3] at hx
        exact .inr (Option.some.inj hx).symm
    have ho6 := own_keep ho5 hP (fun x hx h => by
      rcases hvb x hx with h1 | h1
      · rw [h] at h1; exact hnl h1
      · omega)
    generalize W5.putObj (b + 3 + 1) (.loop (rec .ready none)) = W6 at *
    have hall : Only (Own3 b pv) W1 W6 := (((hO3.mono (S' := Own3 b pv) fun x _ hx => .inr (.inl hx)).step hG fun x hx => .inl (.inr (.inr hx))).step hS fun x hx => .inl (.inl hx)).step hP fun x hx => .inl (.inr (.inl hx))
    have hmore : ∀ x, Own3 b v' x → Own3 b pv x ∨ W1.heap.size ≤ x := fun x hx => by
      rcases hx with h1 | h1 | h1
      · exact .inl (.inl h1)
      · exact .inl (.inr (.inl h1))
      · rcases hvb x h1 with h2 | h2
        · exact .inl (.inr (.inr h2))
        · exact .inr (by omega)
    refine ⟨v', ps ++ [(u, cutB SB c k)], ?_, b6, by simpa using ho6, by simp [jl], ?_, ?_, hr, ?_⟩
    · refine (((j1.step hO3 fun x hx => .inl (.inr hx)).step hG fun x hx => .inr ?_).step hS fun x hx => .inl (.inl hx)).step hP fun x hx => .inl (.inr hx)
      have := (hpo x hx).1
      omega
    · rw [List.map_append, jc, List.range_succ, List.map_append]
      rfl
    · have fin : ∀ (q : Value) (xs : List UInt8), By (fun x => Own3 b pv x ∨ W1.heap.size ≤ x) W1 q xs → By (Own3 b v') W6 q xs := fun q xs hq =>
        (By.keep hq hall fun x hx h => .inl h).more fun x hx => .inl (hmore x hx)
      intro p hp
      rcases List.mem_append.1 hp with hp | hp
      · exact fin _ _ ((jB p hp).more fun x hx => hx)
      · simp only [List.mem_cons, List.mem_nil_iff, or_false] at hp
        subst hp
        refine fin _ _ (hu.more fun x hx => ?_)
        rcases hx with (h1 | h1 | h1) | h1
        · exact .inl (by omega)
        · exact .inl (by omega)
        · exact .inl (hN2 x h1)
        · exact .inr h1
    · intro x hx
      refine ⟨(jH x hx).1, fun h => ?_⟩
      rcases hvb x h with h1 | h1
      · exact (jH x hx).2 h1
      · have := jHB x hx
        omega
  · have hP : Only (fun x => x = b + 3 + 1) W5 (W5.putObj (b + 3 + 1) (.loop (rec .ready none))) := (Only.refl (fun x => x = b + 3 + 1) _).putObj (.inl rfl) _
    have hn : ∀ x, (x = b + 3 + 1 ∨ x = b ∨ pv.ownBlock = some x) → ¬ H x := fun x hx h => by
      have h1 := jH x h
      rcases hx with h2 | h2 | h2
      · omega
      · omega
      · exact h1.2 h2
    exact (((hO3.mono (S' := fun x => ¬ H x) fun x _ hx => hn x (.inl hx)).step hG fun x hx => .inl (hn x (.inr (.inr hx)))).step hS fun x hx => .inl (hn x (.inr (.inl hx)))).step hP fun x hx => .inl (hn x (.inl hx))
end Go.Proofs.YtailcinidojdjaaDoor

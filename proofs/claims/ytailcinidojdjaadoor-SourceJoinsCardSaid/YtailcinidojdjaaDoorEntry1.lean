/- Part of this seat's proofs: contracts of functions of the program and plain lemmas, which the claim's theorem uses. -/
import Derived.Test.YtailcinidojdjaaDoorPath5
namespace Go.Proofs.YtailcinidojdjaaDoor
open Go Go.RowKit
set_option linter.unusedVariables false
set_option linter.unusedSimpArgs false

/-! ### rows of structs -/
theorem flat_length {α : Type} (enc : α → List Value) (sz : Nat) (hs : ∀ x, (enc x).length = sz) (l : List α) : (l.flatMap enc).length = l.length * sz := by
  induction l with
  | nil => simp
  | cons a l ih => rw [List.flatMap_cons, List.length_append, ih, hs, List.length_cons, Nat.succ_mul, Nat.add_comm]
theorem flat_get {α : Type} (enc : α → List Value) (sz : Nat) (hs : ∀ x, (enc x).length = sz) (l : List α) (k : Nat) (hk : k < l.length) (j : Nat) (v : Value) (hv : (enc l[k])[j]? = some v) : (l.flatMap enc)[k * sz + j]? = some v := by
  induction l generalizing k with
  | nil => simp at hk
  | cons a l ih =>
    rw [List.flatMap_cons]
    cases k with
    | zero =>
      have hj : j < (enc a).length := (List.getElem?_eq_some_iff.1 hv).1
      rw [Nat.zero_mul, Nat.zero_add, List.getElem?_append_left hj]
      exact hv
    | succ k =>
      rw [List.getElem?_append_right (by rw [hs, Nat.succ_mul]; omega), hs, show (k + 1) * sz + j - sz = k * sz + j by rw [Nat.succ_mul]; omega]
      exact ih k (by simpa using hk) hv
/-- v reads as a row of structs -/
def St {α : Type} (enc : α → List Value) (sz : Nat) (M : Nat → Prop) (w : World) (v : Value) (l : List α) : Prop := Rd M w sz v l.length (l.flatMap enc)
section
variable {α : Type} {enc : α → List Value} {sz : Nat} {M M' S : Nat → Prop} {w w' : World} {v : Value} {l : List α}
theorem St.keep (h : St enc sz M w v l) (k : Only S w w') (hs : ∀ b, b < w.heap.size → S b → M b) : St enc sz M w' v l := Rd.keep h k hs
theorem St.kept (h : St enc sz M w v l) (k : Only Non w w') : St enc sz M w' v l := Rd.kept h k
theorem St.more (h : St enc sz M w v l) (hm : ∀ b, M' b → M b ∨ w.heap.size ≤ b) : St enc sz M' w v l := Rd.more h hm
theorem St.open (h : St enc sz M w v l) : ∃ A c, v = .slice A l.length c ∧ l.length ≤ c ∧ c ≤ maxLen ∧ (A = none → c = 0) := Rd.form h
theorem St.at {A : Option Addr} {c : Nat} (h : St enc sz M w (.slice A l.length c) l) (hsz : ∀ x, (enc x).length = sz) (hn : 0 < l.length) :
    ∃ b o, A = some ⟨b, o, none⟩ ∧ ¬ M b ∧ b < w.heap.size ∧ ∀ k (hk : k < l.length) (j : Nat) (u : Value), (enc l[k])[j]? = some u → w.cell? ⟨b, o + k * sz + j, none⟩ = some u := by
  obtain ⟨_, A', c', e, _, _, _, h5⟩ := h
  injection e with e1 e2 e3
  subst e1 e3
  obtain ⟨b, o, e, hM, hb, hc⟩ := h5 hn
  exact ⟨b, o, e, hM, hb, fun k hk j u hu => by
    have := hc (k * sz + j) u (flat_get enc sz hsz l k hk j u hu)
    rwa [← Nat.add_assoc] at this⟩
end

/-- append to what the call owns, of whatever element type -/
theorem ap_rd {P : Program} {S : Nat → Prop} {ops : Array Oper} {rest : List Oper} {o : Oper} {a : Act} {Q : Exit → Act → World → Prop} {w : World} (t e : TypeId) (z : Value) (size bytes : Nat)
    (ht : P.underlying t = some (.slice e)) (hinfo : (P.info? e).map (fun i => (i.zero, i.size, i.bytes)) = some (some z, size, bytes)) (hzs : z.cells.size = size) (hsz : 0 < size) (hb0 : 0 < bytes)
    (hgd : o.guard = none) (s x : Operand) (ho : o.op = .call { callee := .builtin .append, args := #[s, x], argTypes := #[t, t] })
    (w0 : World) (v : Value) (n : Nat) (xs : List Value) (hs : a.eval s = v) (hown : w.ownsRow w0.heap.size e size v n xs)
    (M : Nat → Prop) (vx : Value) (m : Nat) (news : List Value) (hx : a.eval x = vx) (hr : Rd M w size vx m news) (h1 : ∀ u ∈ news, u.oneCell' = true) (hb : (n + m) * bytes ≤ 140737488355328) (hO : Only S w0 w)
    (h : ∀ v' w', w'.ownsRow w0.heap.size e size v' (n + m) (xs ++ news) → Only S w0 w' → Only (fun k => v.ownBlock = some k) w w' → (v'.ownBlock = v.ownBlock ∨ v'.ownBlock = some w.heap.size) → wpList P ops Q rest (a.put o.dst v') w') :
    wpList P ops Q (o :: rest) a w :=
  wpl_append hgd s x t ho e z size bytes ht hinfo hzs hsz hb0 w0.heap.size v n xs hs hown M vx m news hx hr h1 hb hO.size
    fun v' w' h1 h2 h3 => h v' w' h1 (hO.grown h2 fun k hk => .inr (hown.lt k hk).1) (Only.of_grown h2) h3

/-! ### entries -/
structure Ent where
  path : ByteArray
  kind : Int
  mode : Int
  time : Int
  to : ByteArray
  beg : Int
  size : Int
def entC (e : Ent) : List Value := [.string e.path, .int .i64 e.kind, .int .i64 e.mode, .int .i64 e.time, .string e.to, .int .i64 e.beg, .int .i64 e.size]
theorem entC_len (e : Ent) : (entC e).length = 7 := rfl

theorem info_str : (Tryd.prog.info? 9).map (fun i => (i.zero, i.size, i.bytes)) = some (some (.string ⟨#[]⟩), 1, 16) := by kernel_rfl

set_option maxRecDepth 100000 in
theorem allS_ok (f : FuncId) (caps : Array Value) (hcf : CanCall f) (p : ByteArray → Bool) (M : Nat → Prop) (w : World) (v : Value) (l : List ByteArray) (hv : Ss M w v l) (hn : l.length ≤ 1000000)
    (hf : ∀ x w', x ∈ l → Only Non w w' → Calls Tryd.prog f (#[.string x] ++ caps) w' fun e w'' => e = .returned (.bool (p x)) ∧ Only Non w' w'') :
    Calls Tryd.prog 25 #[v, .func (.func f) #[] caps] w fun e w' => e = .returned (.bool (l.all p)) ∧ Only Non w w' := by
  have hcf' : ∀ (args : Array Value) (w : World), (callFunc f args).run Tryd.prog w = .ok (.enter f args) w := hcf
  obtain ⟨A, c, rfl, hc1, hc2, hc3⟩ := hv.open
  have HF := Lib.hid hf
  have HV := Lib.hid hv
  clear hc1 hc2 hc3 hf hv
  go_enter Tryd.func25, Tryd.ntmps25
  go_wp2_with fail
  go_loopw [9] (fun i wr => ∃ k : Nat, k ≤ l.length ∧ i = .int .i64 k ∧ Hid (∀ x ∈ l.take k, p x = true) ∧ Only Non w wr) (fun i _ => l.length - (intOf i).toNat)
  case atStart => exact ⟨0, Nat.zero_le _, rfl, by intro x hx; simp at hx, Only.refl _ _⟩
  case round =>
    obtain ⟨k, hk, rfl, HP, hO⟩ := hrel
    by_cases hlt : k < l.length
    · obtain ⟨b, o, rfl, _, _, hc⟩ := (HV.out.kept hO).at (by omega)
      have hck := hc k hlt
      have HL := Lib.hid (show l[k]? = some l[k] from List.getElem?_eq_getElem hlt)
      generalize l[k] = x at hck HL
      clear hc
      have HX := Lib.hid (List.mem_of_getElem? HL.out)
      cases hp : p x with
      | false =>
        have HR := Lib.hid hp
        have HE := Lib.hid (show l.all p = false by rw [List.all_eq_false]; exact ⟨x, HX.out, by simp [hp]⟩)
        clear hp
        go_wp2_with fail
        refine (HF.out x _ HX.out hO).mono ?_
        rintro e w1 ⟨rfl, hO1⟩
        rw [HR.out]
        go_wp2
        go_ret
        exact ⟨by rw [HE.out]; rfl, hO.trans hO1⟩
      | true =>
        have HR := Lib.hid hp
        clear hp
        go_wp2_with fail
        refine (HF.out x _ HX.out hO).mono ?_
        rintro e w1 ⟨rfl, hO1⟩
        rw [HR.out]
        go_wp2
        go_roundw
        case rel =>
          refine ⟨k + 1, by omega, by go_num, ?_, hO.trans hO1⟩
          intro y hy
          rw [List.take_add_one, HL.out] at hy
          rcases List.mem_append.1 hy with hy | hy
          · exact HP.out y hy
          · simp only [Option.toList_some, List.mem_singleton] at hy
            subst hy
            exact HR.out
        case measure => simp [intOf]; omega
    · have HE := Lib.hid (show l.all p = true by rw [List.all_eq_true]; intro x hx; exact HP.out x (by rw [List.take_of_length_le (by omega)]; exact hx))
      go_wp2
      go_ret
      exact ⟨by rw [HE.out]; rfl, hO⟩

set_option maxRecDepth 100000 in
theorem paths_ok (M : Nat → Prop) (w : World) (v : Value) (l : List Ent) (hv : St entC 7 M w v l) (hn : l.length ≤ 1000000) :
    Calls Tryd.prog 26 #[v] w fun e w' => ∃ v', e = .returned v' ∧ Only Non w w' ∧ Ss Non w' v' (l.map (·.path)) := by
  obtain ⟨A, c, rfl, hc1, hc2, hc3⟩ := hv.open
  have HV := Lib.hid hv
  clear hc1 hc2 hc3 hv
  go_enter Tryd.func26, Tryd.ntmps26
  go_wp2_with fail
  go_loopw [3, 8] (fun out i wr => ∃ k : Nat, k ≤ l.length ∧ i = .int .i64 k ∧ wr.ownsRow w.heap.size 9 1 out k (strs ((l.take k).map (·.path))) ∧ Only Non w wr) (fun _ i _ => l.length - (intOf i).toNat)
  case atStart => exact ⟨0, Nat.zero_le _, rfl, World.ownsRow_nil _ _ _ _, Only.refl _ _⟩
  case round =>
    obtain ⟨k, hk, rfl, hown, hO⟩ := hrel
    by_cases hlt : k < l.length
    · obtain ⟨b, o, rfl, _, _, hc⟩ := (HV.out.kept hO).at entC_len (by omega)
      have hck := hc k hlt
      have HL := Lib.hid (show l[k]? = some l[k] from List.getElem?_eq_getElem hlt)
      generalize l[k] = x at hck HL
      have c0 := hck 0 _ rfl
      have c1 := hck 1 _ rfl
      have c2 := hck 2 _ rfl
      have c3 := hck 3 _ rfl
      have c4 := hck 4 _ rfl
      have c5 := hck 5 _ rfl
      have c6 := hck 6 _ rfl
      rw [Nat.add_zero] at c0
      clear hc hck
      go_wp2_with (at_builtin; refine ap_rd 61 9 _ 1 16 Tryd.underlying61 info_str rfl (by decide) (by decide) rfl _ _ rfl _ _ _ _ rfl ((hown.alloc _).alloc _) _ _ 1 _ rfl (Rd.built Non _ 1 1 #[.string x.path] _ _ (by simp) rfl (by omega) (fun _ h => h.elim)) (by simp [Value.oneCell']) (by omega) ((hO.alloc _).alloc _) ?_)
      intro v2 w2 ho2 hO2 hG hat
      clear hat hG
      have HO := Lib.hid (show w2.ownsRow w.heap.size 9 1 v2 (k + 1) (strs ((l.take (k + 1)).map (·.path))) by
        rw [List.take_add_one, HL.out]
        simpa [strs] using ho2)
      clear ho2
      go_wp2
      go_roundw
      case rel => exact ⟨k + 1, by omega, by go_num, HO.out, hO2⟩
      case measure => simp [intOf]; omega
    · go_wp2
      go_ret
      have hk' : k = l.length := by omega
      subst hk'
      rw [List.take_of_length_le (Nat.le_refl _)] at hown
      exact ⟨_, rfl, hO, by unfold Ss; rw [List.length_map]; exact Rd.of_own hown (fun _ h => h.elim)⟩
end Go.Proofs.YtailcinidojdjaaDoor

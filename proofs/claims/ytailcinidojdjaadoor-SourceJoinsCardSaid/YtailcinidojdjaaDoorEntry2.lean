/- Part of this seat's proofs: contracts of functions of the program and plain lemmas, which the claim's theorem uses. -/
import Derived.Test.YtailcinidojdjaaDoorEntry1
namespace Go.Proofs.YtailcinidojdjaaDoor
open Go Go.RowKit
set_option linter.unusedVariables false
set_option linter.unusedSimpArgs false

set_option maxRecDepth 100000 in
theorem allE_ok (f : FuncId) (caps : Array Value) (hcf : CanCall f) (S M : Nat → Prop) (J : Nat → World → Prop) (p : Nat → Bool) (w : World) (v : Value) (l : List Ent) (hv : St entC 7 M w v l) (hn : l.length ≤ 1000000)
    (hSM : ∀ b, b < w.heap.size → S b → M b) (hJ0 : J 0 w) (hJ : ∀ k w' w'', J k w' → Only Non w' w'' → J k w'')
    (hf : ∀ k x w', l[k]? = some x → J k w' → Only S w w' → Calls Tryd.prog f (#[.agg (entC x).toArray] ++ caps) w' fun e w'' => e = .returned (.bool (p k)) ∧ Only S w' w'' ∧ (p k = true → J (k + 1) w'')) :
    Calls Tryd.prog 29 #[v, .func (.func f) #[] caps] w fun e w' => e = .returned (.bool ((List.range l.length).all p)) ∧ Only S w w' := by
  have hcf' : ∀ (args : Array Value) (w : World), (callFunc f args).run Tryd.prog w = .ok (.enter f args) w := hcf
  obtain ⟨A, c, rfl, hc1, hc2, hc3⟩ := hv.open
  have HF := Lib.hid hf
  have HV := Lib.hid hv
  have HJ := Lib.hid hJ
  have HSM := Lib.hid hSM
  clear hc1 hc2 hc3 hf hv hJ hSM
  go_enter Tryd.func29, Tryd.ntmps29
  go_wp2_with fail
  go_loopw [9] (fun i wr => ∃ k : Nat, k ≤ l.length ∧ i = .int .i64 k ∧ Hid (∀ j, j < k → p j = true) ∧ Hid (J k wr) ∧ Only S w wr) (fun i _ => l.length - (intOf i).toNat)
  case atStart => exact ⟨0, Nat.zero_le _, rfl, fun j hj => absurd hj (by omega), hJ0, Only.refl _ _⟩
  case round =>
    obtain ⟨k, hk, rfl, HP, HJk, hO⟩ := hrel
    by_cases hlt : k < l.length
    · obtain ⟨b, o, rfl, _, _, hc⟩ := (HV.out.keep hO HSM.out).at entC_len (by omega)
      have hck := hc k hlt
      have HL := Lib.hid (show l[k]? = some l[k] from List.getElem?_eq_getElem hlt)
      generalize l[k] = x at hck HL
      have c0 := hck 0 _ rfl
      have c1 := hck 1 _ rfl
      have c2 := hck 2 _ rfl
      have c3 := hck 3 _ rfl
      have c4 := hck 4 _ rfl
      have c5 := hck 5 _ rfl
      have c6 := hck 6 _ rfl
      rw [Nat.add_zero] at c0
      clear hc hck
      have HO := Lib.hid ((Only.refl Non wr).alloc (.cells (entC x).toArray 59))
      cases hp : p k with
      | false =>
        have HR := Lib.hid hp
        have HE := Lib.hid (show (List.range l.length).all p = false by rw [List.all_eq_false]; exact ⟨k, by simpa using hlt, by simp [hp]⟩)
        clear hp
        go_wp2_with fail
        refine (HF.out k x _ HL.out (HJ.out _ _ _ HJk.out HO.out) (hO.then_ HO.out)).mono ?_
        rintro e w1 ⟨rfl, hO1, hJ1⟩
        rw [HR.out]
        clear hJ1
        go_wp2
        go_ret
        exact ⟨by rw [HE.out]; rfl, (hO.then_ HO.out).trans (hO1.mono fun _ _ h => h)⟩
      | true =>
        have HR := Lib.hid hp
        clear hp
        go_wp2_with fail
        refine (HF.out k x _ HL.out (HJ.out _ _ _ HJk.out HO.out) (hO.then_ HO.out)).mono ?_
        rintro e w1 ⟨rfl, hO1, hJ1⟩
        rw [HR.out]
        have HJ1 := Lib.hid (hJ1 HR.out)
        clear hJ1
        go_wp2
        go_roundw
        case rel =>
          refine ⟨k + 1, by omega, by go_num, ?_, HJ1, (hO.then_ HO.out).trans hO1⟩
          intro j hj
          by_cases hj' : j < k
          · exact HP.out j hj'
          · obtain rfl : j = k := by omega
            exact HR.out
        case measure => simp [intOf]; omega
    · have HE := Lib.hid (show (List.range l.length).all p = true by rw [List.all_eq_true]; intro j hj; exact HP.out j (by have := List.mem_range.1 hj; omega))
      go_wp2
      go_ret
      exact ⟨by rw [HE.out]; rfl, hO⟩

theorem why1_ok (x : Ent) (w : World) : Calls Tryd.prog 30 #[.agg (entC x).toArray] w fun e w' => e = .returned (.bool (decide (x.size ≤ 1048576))) ∧ Only Non w w' := by
  have HC := Lib.hid (show (entC x).toArray = #[.string x.path, .int .i64 x.kind, .int .i64 x.mode, .int .i64 x.time, .string x.to, .int .i64 x.beg, .int .i64 x.size] from rfl)
  rw [HC.out]
  go_enter Tryd.func30, Tryd.ntmps30
  go_wp2
  go_ret
  exact ⟨rfl, (Only.refl _ _).alloc _⟩

def plainB (e : Ent) : Bool :=
  if e.mode < 0 then false else if 4096 ≤ e.mode then false else if e.time < 0 then false else if 1099511627775 < e.time then false else if e.size < 0 then false else if 1048576 < e.size then false
  else if e.kind = 1 then e.to.toList.isEmpty else if e.kind = 2 then e.to.toList.isEmpty && decide (e.size = 0) else decide (e.kind = 3) && decide (1 ≤ e.to.size) && decide (e.to.size ≤ 256) && decide (e.size = 0)

theorem ret_bool {a b : Bool} (h : a = b) : Ending.returned (.bool a) = Ending.returned (.bool b) := by rw [h]

set_option maxRecDepth 100000 in
set_option maxHeartbeats 1000000 in
theorem plain_ok (x : Ent) (w : World) : Calls Tryd.prog 31 #[.agg (entC x).toArray] w fun e w' => e = .returned (.bool (plainB x)) ∧ Only Non w w' := by
  have HC := Lib.hid (show (entC x).toArray = #[.string x.path, .int .i64 x.kind, .int .i64 x.mode, .int .i64 x.time, .string x.to, .int .i64 x.beg, .int .i64 x.size] from rfl)
  rw [HC.out]
  obtain ⟨p, k, m, t, s, b, z⟩ := x
  dsimp only
  go_enter Tryd.func31, Tryd.ntmps31
  go_wp2
  all_goals go_ret
  all_goals refine ⟨?_, (Only.refl _ _).alloc _⟩
  all_goals clear HC
  all_goals go_tidy
  all_goals (refine ret_bool ?_; simp only [plainB])
  all_goals (try simp only [beq_iff_eq, beq_eq_false_iff_ne, ne_eq] at *)
  all_goals (repeat (first | rw [if_pos (by omega)] | rw [if_neg (by omega)]))
  all_goals (first | rfl | (simp_all; done) | (simp_all; omega) | (rw [show (z == 0) = decide (z = 0) from rfl]; simp [*]; done) | (rw [show (z == 0) = decide (z = 0) from rfl, decide_eq_true (show 1 ≤ s.size by omega), decide_eq_true (show s.size ≤ 256 by omega)]; simp))
end Go.Proofs.YtailcinidojdjaaDoor

/- Part of this seat's proofs: contracts of functions of the program and plain lemmas, which the claim's theorem uses. -/
import Derived.Test.YtailcinidojdjaaDoorSplit
import Derived.Deep.QuietTactic
import Derived.BigQuiet
import Derived.Laws.BitsAllLaws
namespace Go.Proofs.YtailcinidojdjaaDoor
open Go Go.RowKit
set_option linter.unusedVariables false
set_option linter.unusedSimpArgs false

/-- a word of 32 bits, turned down by n -/
def turnI (x : Int) (n : Nat) : Int := bits .or .u32 (x * ((2 ^ (32 - n) : Nat) : Int) % 4294967296) (x / ((2 ^ n : Nat) : Int))

theorem turn_ok (x : Int) (n : Nat) (hn : n ∈ [7, 18, 17, 19, 6, 11, 25, 2, 13, 22]) (w : World) :
    Calls Tryd.prog 47 #[.int .u32 x, .int .i64 (n : Int)] w fun e w' => e = .returned (.int .u32 (turnI x n)) ∧ w' = w := by
  simp only [List.mem_cons, List.mem_nil_iff, or_false] at hn
  rcases hn with rfl | rfl | rfl | rfl | rfl | rfl | rfl | rfl | rfl | rfl
  · have hb : bits BinOp.and IntKind.u64 (IntKind.u64.wrap (-7)) 31 = 25 := by decide
    go_enter Tryd.func47, Tryd.ntmps47
    go_wp2
    go_ret
    exact ⟨rfl, rfl⟩
  · have hb : bits BinOp.and IntKind.u64 (IntKind.u64.wrap (-18)) 31 = 14 := by decide
    go_enter Tryd.func47, Tryd.ntmps47
    go_wp2
    go_ret
    exact ⟨rfl, rfl⟩
  · have hb : bits BinOp.and IntKind.u64 (IntKind.u64.wrap (-17)) 31 = 15 := by decide
    go_enter Tryd.func47, Tryd.ntmps47
    go_wp2
    go_ret
    exact ⟨rfl, rfl⟩
  · have hb : bits BinOp.and IntKind.u64 (IntKind.u64.wrap (-19)) 31 = 13 := by decide
    go_enter Tryd.func47, Tryd.ntmps47
    go_wp2
    go_ret
    exact ⟨rfl, rfl⟩
  · have hb : bits BinOp.and IntKind.u64 (IntKind.u64.wrap (-6)) 31 = 26 := by decide
    go_enter Tryd.func47, Tryd.ntmps47
    go_wp2
    go_ret
    exact ⟨rfl, rfl⟩
  · have hb : bits BinOp.and IntKind.u64 (IntKind.u64.wrap (-11)) 31 = 21 := by decide
    go_enter Tryd.func47, Tryd.ntmps47
    go_wp2
    go_ret
    exact ⟨rfl, rfl⟩
  · have hb : bits BinOp.and IntKind.u64 (IntKind.u64.wrap (-25)) 31 = 7 := by decide
    go_enter Tryd.func47, Tryd.ntmps47
    go_wp2
    go_ret
    exact ⟨rfl, rfl⟩
  · have hb : bits BinOp.and IntKind.u64 (IntKind.u64.wrap (-2)) 31 = 30 := by decide
    go_enter Tryd.func47, Tryd.ntmps47
    go_wp2
    go_ret
    exact ⟨rfl, rfl⟩
  · have hb : bits BinOp.and IntKind.u64 (IntKind.u64.wrap (-13)) 31 = 19 := by decide
    go_enter Tryd.func47, Tryd.ntmps47
    go_wp2
    go_ret
    exact ⟨rfl, rfl⟩
  · have hb : bits BinOp.and IntKind.u64 (IntKind.u64.wrap (-22)) 31 = 10 := by decide
    go_enter Tryd.func47, Tryd.ntmps47
    go_wp2
    go_ret
    exact ⟨rfl, rfl⟩

theorem turn_any (x n : Int) (hn : n ∈ [7, 18, 17, 19, 6, 11, 25, 2, 13, 22]) (w : World) :
    Calls Tryd.prog 47 #[.int .u32 x, .int .i64 n] w fun e w' => e = .returned (.int .u32 (turnI x n.toNat)) ∧ w' = w := by
  have h0 : 0 ≤ n := by
    simp only [List.mem_cons, List.mem_nil_iff, or_false] at hn
    omega
  obtain ⟨m, rfl⟩ := Int.eq_ofNat_of_zero_le h0
  refine turn_ok x m ?_ w
  simp only [List.mem_cons, List.mem_nil_iff, or_false] at hn ⊢
  omega

/-- four bytes, the greatest first -/
def word32 (a b c d : UInt8) : Int := bits .or .u32 (bits .or .u32 (bits .or .u32 ((a.toNat : Int) * 16777216 % 4294967296) ((b.toNat : Int) * 65536 % 4294967296)) ((c.toNat : Int) * 256 % 4294967296)) (d.toNat : Int)

theorem u32_of_u8 (x : UInt8) : IntKind.u32.wrap (x.toNat : Int) = (x.toNat : Int) := by
  rw [IntKind.wrap_u32']
  have := x.toNat_lt
  omega
theorem word_ok (w : World) (g o n c : Nat) (x0 x1 x2 x3 : UInt8) (h0 : w.cell? ⟨g, o, none⟩ = some (bv x0)) (h1 : w.cell? ⟨g, o + 1, none⟩ = some (bv x1)) (h2 : w.cell? ⟨g, o + 2, none⟩ = some (bv x2)) (h3 : w.cell? ⟨g, o + 3, none⟩ = some (bv x3)) (hn : 4 ≤ n) :
    Calls Tryd.prog 46 #[.slice (some ⟨g, o, none⟩) n c] w fun e w' => e = .returned (.int .u32 (word32 x0 x1 x2 x3)) ∧ ∃ m, w' = w.drewN m := by
  have i1 : (1 : Int) < (n : Int) := by omega
  have i2 : (2 : Int) < (n : Int) := by omega
  have i3 : (3 : Int) < (n : Int) := by omega
  have j0 : 0 < n := by omega
  have e0 := u32_of_u8 x0
  have e1 := u32_of_u8 x1
  have e2 := u32_of_u8 x2
  have e3 := u32_of_u8 x3
  unfold word32
  unfold bv at h0 h1 h2 h3
  generalize (x0.toNat : Int) = y0 at *
  generalize (x1.toNat : Int) = y1 at *
  generalize (x2.toNat : Int) = y2 at *
  generalize (x3.toNat : Int) = y3 at *
  go_enter Tryd.func46, Tryd.ntmps46
  go_wp2_with fail
  go_quiet (fail)
  go_wp2
  go_ret
  exact ⟨rfl, nq, rfl⟩
end Go.Proofs.YtailcinidojdjaaDoor

/- Part of this seat's proofs: contracts of functions of the program and plain lemmas, which the claim's theorem uses. -/
import Derived.Test.YtailcinidojdjaaDoorSrc5
namespace Go.Proofs.YtailcinidojdjaaDoor
open Go Go.RowKit
set_option linter.unusedVariables false
set_option linter.unusedSimpArgs false

/-- the world in which the segments' function has been made: a box of the files, a box of the plan -/
def boxedW (w : World) (v : Value) (p : Array Value) : World := (w.alloc (.cells #[v] 22)).alloc (.cells p 27)
theorem Chunks_ok (w : World) (A : Option Addr) (m c : Nat) (p : Array Value) :
    Calls Tryd.prog 9 #[.slice A m c, .agg p] w fun e w' => e = .returned (.func (.func 21) #[] #[.pointer (some ⟨w.heap.size, 0, none⟩), .pointer (some ⟨w.heap.size + 1, 0, none⟩)]) ∧ w' = boxedW w (.slice A m c) p := by
  go_enter Tryd.func9, Tryd.ntmps9
  go_wp2
  go_ret
  exact ⟨rfl, rfl⟩
end Go.Proofs.YtailcinidojdjaaDoor

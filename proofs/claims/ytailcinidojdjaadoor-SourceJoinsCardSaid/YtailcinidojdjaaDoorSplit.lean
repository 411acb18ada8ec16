/- Part of this seat's proofs: contracts of functions of the program and plain lemmas, which the claim's theorem uses. -/
import Derived.Test.YtailcinidojdjaaDoorPath2
import Derived.Test.YtailcinidojdjaaDoorShelf
import Derived.Lib.SplitLaws
import Derived.Deep.MidRow
namespace Go.Proofs.YtailcinidojdjaaDoor
open Go Go.RowKit
set_option linter.unusedVariables false
set_option linter.unusedSimpArgs false

/-- SHA-256's table -/
def ktab : List Int := [1116352408, 1899447441, 3049323471, 3921009573, 961987163, 1508970993, 2453635748, 2870763221, 3624381080, 310598401, 607225278, 1426881987, 1925078388, 2162078206, 2614888103, 3248222580, 3835390401, 4022224774, 264347078, 604807628, 770255983, 1249150122, 1555081692, 1996064986, 2554220882, 2821834349, 2952996808, 3210313671, 3336571891, 3584528711, 113926993, 338241895, 666307205, 773529912, 1294757372, 1396182291, 1695183700, 1986661051, 2177026350, 2456956037, 2730485921, 2820302411, 3259730800, 3345764771, 3516065817, 3600352804, 4094571909, 275423344, 430227734, 506948616, 659060556, 883997877, 958139571, 1322822218, 1537002063, 1747873779, 1955562222, 2024104815, 2227730452, 2361852424, 2428436474, 2756734187, 3204031479, 3329325298]
def kcells : List Value := ktab.map fun n => .int .u32 n
theorem kcells_len : kcells.length = 64 := by decide

/-- the library's variables, and the program's tables, hold what they began with -/
def Env (w : World) : Prop := (∃ m : Int, w.cell? ⟨1, 0, none⟩ = some (.int .i64 m)) ∧ w.rangeAt 0 0 kcells
theorem Env.non {w w' : World} (h : Env w) (hO : Only Non w w') : Env w' := by
  obtain ⟨⟨m, hm⟩, ht⟩ := h
  exact ⟨⟨m, (hO.cell (World.block_lt_of_cell? _ _ hm) id).trans hm⟩, fun j v hv => (hO.cell (World.block_lt_of_cell? _ _ (ht j v hv)) id).trans (ht j v hv)⟩

def parts (s : ByteArray) : List ByteArray := Lib.splitB ⟨#[47]⟩ 0 (Lib.countB s ⟨#[47]⟩) s
theorem parts_length (s : ByteArray) : (parts s).length = Lib.countB s ⟨#[47]⟩ + 1 := Lib.splitB_all _ (by decide) _ _ _ rfl
theorem parts_len (s : ByteArray) : (parts s).length ≤ s.size + 1 := by
  rw [parts_length]
  have := Lib.countB_le ⟨#[47]⟩ (by decide) s.size s (Nat.le_refl _)
  omega

theorem Rd.made (M : Nat → Prop) (w : World) (cs : List Value) (e : TypeId) (hn : cs.length ≤ maxLen) (hM : ∀ b, M b → b < w.heap.size) :
    Rd M (w.alloc (.cells cs.toArray e)) 1 (.slice (some ⟨w.heap.size, 0, none⟩) cs.length cs.length) cs.length cs := by
  refine ⟨by simp, _, _, rfl, Nat.le_refl _, hn, nofun, fun _ => ⟨_, 0, rfl, fun h => by have := hM _ h; omega, by simp, fun j u hu => ?_⟩⟩
  have := World.news_of_block (w := w.alloc (.cells cs.toArray e)) (B := w.heap.size) (cs := cs.toArray) (t := e) (fr := (0, 0)) (heap_alloc_new w _) j u (by simpa using hu)
  rwa [add_at] at this

theorem Split_ok (s : ByteArray) (w : World) (hE : Env w) (hs : Hid (s.size < 4294967281)) :
    Calls Tryd.prog 43 #[.string s, .string ⟨#[47]⟩] w fun e w' => ∃ v', e = .returned v' ∧ Only Non w w' ∧ Ss Non w' v' (parts s) := by
  obtain ⟨⟨m, hm⟩, _⟩ := hE
  refine (Go.Proofs.Tryd.strings_Split s ⟨#[47]⟩ m w hs.out hm (by decide)).mono ?_
  rintro e w' ⟨rfl, rfl⟩
  refine ⟨_, rfl, (Only.refl _ _).alloc _, ?_⟩
  have h := Rd.made Non w (strs (parts s)) 9 (by
    have h1 := parts_len s
    have h2 := hs.out
    simp only [strs, List.length_map, maxLen]
    omega) (fun _ h => h.elim)
  have hl : (strs (parts s)).length = (parts s).length := by simp [strs]
  rw [hl] at h
  rw [← parts_length]
  exact h
end Go.Proofs.YtailcinidojdjaaDoor

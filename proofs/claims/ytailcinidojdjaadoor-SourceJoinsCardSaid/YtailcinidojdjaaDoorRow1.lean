/- What a row's start gives the walks: arguments that read as data are the words of this seat's texts; the listed table; the wrap that keeps both the world's shape and what the row lists. -/
import Derived.Test.YtailcinidojdjaaDoorLaw4
import Derived.Test.YtailcinidojdjaaDoorRows
import Derived.ProofKit
import Derived.HandedShaped
import Derived.LaidMore
import Derived.OpenShut
import Derived.Stop.Joined
import Derived.Lay
import Derived.Deep.Slices
import Derived.Shelf.Vars
namespace Go.Proofs.YtailcinidojdjaaDoor
open Go Go.RowKit Go.ChangeShapes Go.WideShapes Go.ChangeAt Go.Deep
set_option linter.unusedVariables false
set_option linter.unusedSimpArgs false

theorem own_ : ownKnob Tryd.prog.godebug = none := by kernel_rfl
theorem laidOut : laidOutB Tryd.prog = true := by kernel_rfl

section
variable {H : Type} {enc : TypeId × Value → H} {P : Program} {W : World} {spare : Nat → Bool} {held : Bool}

/-- a slice that reads as data is a row of whatever its elements read as -/
theorem open_row_of {α : Type} [Inhabited α] (encl : α → List Value) (sz : Nat) (R : α → Prop) {t e : TypeId} (ht : P.underlying t = some (.slice e)) (hc : P.cellsOf e = sz) (hpos : 0 < sz) (hlen : ∀ x, (encl x).length = sz)
    (hel : ∀ n cs y, DataW.trod enc P W 0 spare held n e cs = some y → ∃ x, cs = encl x ∧ R x) {fuel : Nat} {cs : List Value} {y : DataW H × List MemPlace} (h : DataW.trod enc P W 0 spare held fuel t cs = some y) :
    ∃ v l, cs = [v] ∧ St encl sz Non W v l ∧ ∀ x ∈ l, R x := by
  rcases DataW.trod_slice ht h with ⟨rfl, _⟩ | ⟨a, len, cap, elems, rest, n, _, rfl, _, _, hl, hm, hlen', hel', _, _⟩
  · exact ⟨_, [], rfl, Rd.nil _ _ _, fun _ h => by cases h⟩
  · rw [hc] at hel'
    have key : ∀ i, i < len → ∃ x : α, R x ∧ ∀ j u, (encl x)[j]? = some u → W.cell? (a.add (i * sz + j)) = some u := fun i hi => by
      have h1 := hel' i hi
      rw [List.getElem?_eq_getElem (show i < elems.length by omega)] at h1
      obtain ⟨cs', h2, h3⟩ := Option.bind_eq_some_iff.1 h1
      obtain ⟨_, h4, h5⟩ := World.cells?_some h2
      obtain ⟨x, rfl, hx⟩ := hel _ _ _ h3
      refine ⟨x, hx, fun j u hu => ?_⟩
      have hj : j < sz := by rw [← hlen x]; exact (List.getElem?_eq_some_iff.1 hu).1
      have := h5 j hj
      rw [hu, add_add] at this
      exact this
    obtain ⟨F, hF⟩ := choose_lt key
    refine ⟨_, (List.range len).map F, rfl, ⟨?_, some a, cap, ?_, ?_, hm, nofun, ?_⟩, ?_⟩
    · rw [flat_length encl sz hlen]
    · simp
    · simpa using hl
    · intro hn
      have hlen0 : 0 < len := by simpa using hn
      obtain ⟨u0, hu0⟩ : ∃ u, (encl (F 0))[0]? = some u := ⟨_, List.getElem?_eq_getElem (by rw [hlen]; exact hpos)⟩
      have hc0 := (hF 0 hlen0).2 0 u0 hu0
      obtain ⟨b, o, spot⟩ := a
      have hspot : spot = none := by simpa [Addr.add] using World.cell?_spot hc0
      subst hspot
      rw [Nat.zero_mul, Nat.zero_add, add_at] at hc0
      refine ⟨b, o, rfl, id, World.block_lt_of_cell? _ _ hc0, fun j u hu => ?_⟩
      have hj : j < len * sz := by
        have := (List.getElem?_eq_some_iff.1 hu).1
        rw [flat_length encl sz hlen] at this
        simpa using this
      have hk : j / sz < len := Nat.div_lt_of_lt_mul (by rw [Nat.mul_comm]; exact hj)
      have hjj : j / sz * sz + j % sz = j := Nat.div_add_mod' j sz
      have hr : j % sz < sz := Nat.mod_lt _ hpos
      obtain ⟨u', hu'⟩ : ∃ u', (encl (F (j / sz)))[j % sz]? = some u' := ⟨_, List.getElem?_eq_getElem (by rw [hlen]; exact hr)⟩
      have h6 := flat_get encl sz hlen ((List.range len).map F) (j / sz) (by simpa using hk) (j % sz) u' (by simpa using hu')
      rw [hjj, hu] at h6
      obtain rfl := Option.some.inj h6
      have h7 := (hF (j / sz) hk).2 (j % sz) u hu'
      rw [hjj, add_at] at h7
      exact h7
    · intro x hx
      obtain ⟨i, hi, rfl⟩ := List.mem_map.1 hx
      exact (hF i (List.mem_range.1 hi)).1
end

section
variable {H : Type} {enc : TypeId × Value → H} {W : World} {spare : Nat → Bool} {held : Bool}
theorem cells_u8 : Tryd.prog.cellsOf 5 = 1 := by kernel_rfl
theorem cells_int : Tryd.prog.cellsOf 3 = 1 := by kernel_rfl
theorem cells_str : Tryd.prog.cellsOf 9 = 1 := by kernel_rfl
theorem cells_bytes : Tryd.prog.cellsOf 33 = 1 := by kernel_rfl
theorem cells_file : Tryd.prog.cellsOf 42 = 6 := by kernel_rfl
theorem open_byte {n : Nat} {cs : List Value} {y : DataW H × List MemPlace} (h : DataW.trod enc Tryd.prog W 0 spare held n 5 cs = some y) : ∃ x : UInt8, cs = [bv x] ∧ True := by
  obtain ⟨m, rfl, _, hw⟩ := DataW.trod_int Tryd.underlying5 h
  have := bounds_u8 hw
  refine ⟨UInt8.ofNat m.toNat, ?_, trivial⟩
  have h1 : (UInt8.ofNat m.toNat).toNat = m.toNat := by rw [UInt8.toNat_ofNat']; omega
  simp only [bv, h1]
  rw [Int.toNat_of_nonneg this.1]
theorem flat_bvs (l : List UInt8) : l.flatMap (fun x => [bv x]) = bvs l := by
  induction l with
  | nil => rfl
  | cons x l ih => rw [List.flatMap_cons, ih]; rfl
theorem open_bytes {fuel : Nat} {cs : List Value} {y : DataW H × List MemPlace} (h : DataW.trod enc Tryd.prog W 0 spare held fuel 33 cs = some y) : ∃ v xs, cs = [v] ∧ By Non W v xs := by
  obtain ⟨v, l, rfl, hs, _⟩ := open_row_of (fun x : UInt8 => [bv x]) 1 (fun _ => True) Tryd.underlying33 cells_u8 (by omega) (fun _ => rfl) (fun n cs y h => open_byte h) h
  refine ⟨v, l, rfl, ?_⟩
  unfold St at hs
  rw [flat_bvs] at hs
  exact hs
instance : Inhabited Fil := ⟨⟨⟨#[]⟩, 0, 0, 0, .nilIface, [], ⟨#[]⟩⟩⟩
theorem open_file {n : Nat} {cs : List Value} {y : DataW H × List MemPlace} (h : DataW.trod enc Tryd.prog W 0 spare held n 42 cs = some y) : ∃ f : Fil, cs = filC f ∧ By Non W f.dv f.data := by
  obtain ⟨xs, m, _, _, hl, hn, hf⟩ := DataW.trod_struct Tryd.underlying42 h
  rw [cells_file] at hl
  match cs, hl with
  | [c0, c1, c2, c3, c4, c5], _ =>
    have g : ∀ i f, _ := hf
    obtain ⟨x0, e0⟩ : ∃ x, xs[0]? = some x := ⟨_, List.getElem?_eq_getElem (by rw [hn]; decide)⟩
    obtain ⟨x1, e1⟩ : ∃ x, xs[1]? = some x := ⟨_, List.getElem?_eq_getElem (by rw [hn]; decide)⟩
    obtain ⟨x2, e2⟩ : ∃ x, xs[2]? = some x := ⟨_, List.getElem?_eq_getElem (by rw [hn]; decide)⟩
    obtain ⟨x3, e3⟩ : ∃ x, xs[3]? = some x := ⟨_, List.getElem?_eq_getElem (by rw [hn]; decide)⟩
    obtain ⟨x4, e4⟩ : ∃ x, xs[4]? = some x := ⟨_, List.getElem?_eq_getElem (by rw [hn]; decide)⟩
    obtain ⟨x5, e5⟩ : ∃ x, xs[5]? = some x := ⟨_, List.getElem?_eq_getElem (by rw [hn]; decide)⟩
    have t0 : DataW.trod enc Tryd.prog W 0 spare held m 9 (([c0, c1, c2, c3, c4, c5].drop 0).take (Tryd.prog.cellsOf 9)) = some x0 := (hf 0 _ rfl).trans e0
    have t1 : DataW.trod enc Tryd.prog W 0 spare held m 3 (([c0, c1, c2, c3, c4, c5].drop 1).take (Tryd.prog.cellsOf 3)) = some x1 := (hf 1 _ rfl).trans e1
    have t2 : DataW.trod enc Tryd.prog W 0 spare held m 3 (([c0, c1, c2, c3, c4, c5].drop 2).take (Tryd.prog.cellsOf 3)) = some x2 := (hf 2 _ rfl).trans e2
    have t3 : DataW.trod enc Tryd.prog W 0 spare held m 3 (([c0, c1, c2, c3, c4, c5].drop 3).take (Tryd.prog.cellsOf 3)) = some x3 := (hf 3 _ rfl).trans e3
    have t4 : DataW.trod enc Tryd.prog W 0 spare held m 33 (([c0, c1, c2, c3, c4, c5].drop 4).take (Tryd.prog.cellsOf 33)) = some x4 := (hf 4 _ rfl).trans e4
    have t5 : DataW.trod enc Tryd.prog W 0 spare held m 9 (([c0, c1, c2, c3, c4, c5].drop 5).take (Tryd.prog.cellsOf 9)) = some x5 := (hf 5 _ rfl).trans e5
    simp only [cells_str, cells_int, cells_bytes, List.drop_succ_cons, List.drop_zero, List.take_succ_cons, List.take_zero] at t0 t1 t2 t3 t4 t5
    obtain ⟨s0, q0, _, _⟩ := DataW.trod_string Tryd.underlying9 t0
    obtain ⟨n1, q1, _, _⟩ := DataW.trod_int Tryd.underlying3 t1
    obtain ⟨n2, q2, _, _⟩ := DataW.trod_int Tryd.underlying3 t2
    obtain ⟨n3, q3, _, _⟩ := DataW.trod_int Tryd.underlying3 t3
    obtain ⟨v4, d4, q4, hby⟩ := open_bytes t4
    obtain ⟨s5, q5, _, _⟩ := DataW.trod_string Tryd.underlying9 t5
    simp only [List.cons.injEq, and_true] at q0 q1 q2 q3 q4 q5
    subst q0 q1 q2 q3 q4 q5
    exact ⟨⟨s0, n1, n2, n3, c4, d4, s5⟩, rfl, hby⟩
theorem open_files {v : Value} {d : DataW H} {p : List MemPlace} (hv : ∃ a n c, v = .slice a n c) (h : DataW.Trod enc Tryd.prog W 0 spare held 22 v d p) : ∃ l, Fs Non W v l := by
  obtain ⟨a, n, c, rfl⟩ := hv
  obtain ⟨fuel, hf⟩ := h
  obtain ⟨v', l, e, hs, hR⟩ := open_row_of filC 6 (fun f => By Non W f.dv f.data) Tryd.underlying22 cells_file (by omega) filC_len (fun n cs y h => open_file h) hf
  have : v' = .slice a n c := by simpa [Value.cells] using e.symm
  subst this
  exact ⟨l, hs, hR⟩
end
end Go.Proofs.YtailcinidojdjaaDoor

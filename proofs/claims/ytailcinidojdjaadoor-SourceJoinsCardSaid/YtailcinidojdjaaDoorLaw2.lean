/- Part of this seat's proofs: contracts of functions of the program and plain lemmas, which the claim's theorem uses. -/
import Derived.Test.YtailcinidojdjaaDoorSrc7
import Derived.Test.YtailcinidojdjaaDoorLaw1
import Derived.Laws.IdiomStrings
import Derived.Lib.SlBytesConst
namespace Go.Proofs.YtailcinidojdjaaDoor
open Go Go.RowKit
set_option linter.unusedVariables false
set_option linter.unusedSimpArgs false

theorem conv_str {M : Nat → Prop} {w : World} {v : Value} {xs : List UInt8} (h : By M w v xs) : (convert 33 9 v).run Tryd.prog w = .ok (.string ⟨xs.toArray⟩) w := by
  obtain ⟨A, c, rfl, h1, h2, h3⟩ := h.open
  cases xs with
  | nil =>
    cases A with
    | none =>
      obtain rfl := h3 rfl
      rw [run_convert_bytes_string w 33 9 5 none _ _ Tryd.underlying33 Tryd.underlying5 Tryd.underlying9]
      rfl
    | some a => exact run_convert_bytes_back (P := Tryd.prog) w 33 9 5 a c [] Tryd.underlying33 Tryd.underlying5 Tryd.underlying9 (fun j hj => absurd hj (by simp))
  | cons x xs =>
    obtain ⟨b, o, rfl, _, _, hc⟩ := h.at (by simp)
    refine run_convert_bytes_back (P := Tryd.prog) w 33 9 5 ⟨b, o, none⟩ c (x :: xs) Tryd.underlying33 Tryd.underlying5 Tryd.underlying9 (fun j hj => ?_)
    rw [add_at]
    exact hc j hj

def sA : ByteArray := ⟨#[97]⟩
def sB : ByteArray := ⟨#[98]⟩
def two (u v : Value) : List Fil := [⟨sA, 1, 0, 0, u, [97, 98, 99], ⟨#[]⟩⟩, ⟨sB, 1, 0, 0, v, [100, 101], ⟨#[]⟩⟩]
theorem two_why (u v : Value) : whyE (entsOf 0 (two u v)) = 0 := by kernel_rfl
theorem two_fine (u v : Value) : fineB (entsOf 0 (two u v)) = true := by kernel_rfl
theorem two_tot (u v : Value) : totB (entsOf 0 (two u v)) = 5 := by kernel_rfl
theorem two_stream (u v : Value) : streamB (two u v) = [97, 98, 99, 100, 101] := by kernel_rfl

/-- Rd.built, of a row that bears a mark -/
theorem Rd.builtF (M : Nat → Prop) (w : World) (size n : Nat) (cs : Array Value) (e : TypeId) (fr : Nat × Nat) (g : Nat) (hg : w.heap.size = g) (hs : cs.size = n * size) (hn : n ≤ 1000) (hM : ∀ b, M b → b < w.heap.size) :
    Rd M (w.alloc (.cells cs e fr)) size (.slice (some ⟨g, 0, none⟩) n n) n cs.toList := by
  subst hg
  refine ⟨by simpa using hs, _, n, rfl, Nat.le_refl _, by simp only [maxLen]; omega, nofun, fun _ => ⟨_, 0, rfl, fun h => by have := hM _ h; omega, by simp, fun j u hu => ?_⟩⟩
  have := World.news_of_block (w := w.alloc (.cells cs e fr)) (B := w.heap.size) (cs := cs) (t := e) (fr := fr) (heap_alloc_new w _) j u hu
  rwa [add_at] at this
def zS : ByteArray := ⟨#[]⟩
/-- the world behind awake's two files, and the files there -/
theorem two_Fs (w : World) (ty ty' ty'' : TypeId) : Fs Non (((w.alloc (.cells #[.int .u8 97, .int .u8 98, .int .u8 99] ty (3, 4))).alloc (.cells #[.int .u8 100, .int .u8 101] ty' (2, 3))).alloc
      (.cells #[.string sA, .int .i64 1, .int .i64 0, .int .i64 0, .slice (some ⟨w.heap.size, 0, none⟩) 3 3, .string zS, .string sB, .int .i64 1, .int .i64 0, .int .i64 0, .slice (some ⟨w.heap.size + 1, 0, none⟩) 2 2, .string zS] ty''))
    (.slice (some ⟨w.heap.size + 1 + 1, 0, none⟩) 2 2) (two (.slice (some ⟨w.heap.size, 0, none⟩) 3 3) (.slice (some ⟨w.heap.size + 1, 0, none⟩) 2 2)) := by
  refine ⟨?_, ?_⟩
  · exact Rd.built Non _ 6 2 #[.string sA, .int .i64 1, .int .i64 0, .int .i64 0, .slice (some ⟨w.heap.size, 0, none⟩) 3 3, .string zS, .string sB, .int .i64 1, .int .i64 0, .int .i64 0, .slice (some ⟨w.heap.size + 1, 0, none⟩) 2 2, .string zS] ty'' _ (by simp) rfl (by omega) (fun _ h => h.elim)
  · intro f hf
    simp only [two, List.mem_cons, List.mem_nil_iff, or_false] at hf
    rcases hf with rfl | rfl
    · exact Rd.kept (Rd.builtF Non w 1 3 #[.int .u8 97, .int .u8 98, .int .u8 99] ty (3, 4) _ rfl rfl (by omega) (fun _ h => h.elim)) (((Only.refl _ _).alloc _).alloc _)
    · exact Rd.kept (Rd.builtF Non _ 1 2 #[.int .u8 100, .int .u8 101] ty' (2, 3) _ (by simp) rfl (by omega) (fun _ h => h.elim)) ((Only.refl _ _).alloc _)

/-- a name for the world that the walk has come to -/
theorem wpList_name {P : Program} {ops : Array Oper} {rest : List Oper} {a : Act} {w : World} {Q : Exit → Act → World → Prop} (h : ∀ w2, w2 = w → wpList P ops Q rest a w2) : wpList P ops Q rest a w := h w rfl
theorem two_plan {u v : Value} {w w' : World} {e : Ending} (h : PlanPost (two u v) 2 9 w e w') : Only Non w w' ∧ ∃ D : List UInt8, (bvs D).length = 32 ∧ e = .returned (.tuple #[.agg (planC 2 9 5 (bvs D)).toArray, .int .i64 0]) := by
  obtain ⟨hO, ⟨h1, _⟩ | ⟨_, _, h3⟩ | ⟨_, h2, _⟩⟩ := h
  · exact absurd (two_why u v) h1
  · rw [two_tot] at h3
    exact ⟨hO, planD (two u v), by simp [bvs, planD, digestB_len], h3⟩
  · rw [two_tot] at h2
    exact absurd h2 (by decide)
theorem Bys.lits (w : World) (A B : Option Addr) (W : World) (t : TypeId) (g : Nat) (hg : W.heap.size = g) (ha : By Non W (.slice A 1 1) [1]) (hb : By Non W (.slice B 1 1) [2]) :
    Bys Non (W.alloc (.cells #[.slice A 1 1, .slice B 1 1] t)) (.slice (some ⟨g, 0, none⟩) 2 2) [(.slice A 1 1, [1]), (.slice B 1 1, [2])] := by
  subst hg
  exact Bys.two ha hb t

set_option maxRecDepth 100000 in
set_option maxHeartbeats 2000000 in
theorem awake_ok (w : World) (hE : Env w) : Calls Tryd.prog 7 #[] w fun e w' => e = .returned (.bool true) ∧ Only Non w w' := by
  have HE := Lib.hid hE
  clear hE
  go_enter Tryd.func7, Tryd.ntmps7
  have hc := fun (w : World) (C : Array Value) (n c : Nat) => Lib.run_convert_bytes_const (P := Tryd.prog) w 33 5 C n c Tryd.underlying33 Tryd.underlying5
  have hc2 := fun (w : World) (X : Obj) (C : Array Value) (n c : Nat) => hc (w.alloc X) C n c
  simp only [World.size_alloc] at hc2
  have hw3 := two_Fs w 5 5 42
  have HO3 := Lib.hid ((((Only.refl Non w).alloc (.cells #[.int .u8 97, .int .u8 98, .int .u8 99] 5 (3, 4))).alloc (.cells #[.int .u8 100, .int .u8 101] 5 (2, 3))).alloc
      (.cells #[.string sA, .int .i64 1, .int .i64 0, .int .i64 0, .slice (some ⟨w.heap.size, 0, none⟩) 3 3, .string zS, .string sB, .int .i64 1, .int .i64 0, .int .i64 0, .slice (some ⟨w.heap.size + 1, 0, none⟩) 2 2, .string zS] 42))
  have HV := Lib.hid hw3
  clear hw3
  go_wp2_with (first
    | (go_at_call 8; refine (Plan_ok Non _ _ _ 2 9 (HE.out.non HO3.out) HV.out (by simp [two]) (by simp [two, totD])).mono ?_; intro e w1 hp; obtain ⟨hO1, D, hD, rfl⟩ := two_plan hp; have HO1 := Lib.hid (HO3.out.trans hO1); have HV1 := Lib.hid (HV.out.kept hO1); have HD := Lib.hid hD; have HP6 := Lib.hid (planRow (w5 := w1) (planC 2 9 5 (bvs D)).toArray); clear hp hO1 hD HV HO3)
    | (refine wpList_store_row rfl 27 _ _ rfl w1.heap.size (planC 2 9 5 (bvs D)).toArray rfl rfl _ (planC 0 0 0 (bvs zD)).toArray (heap_new _ _ _ rfl) (planC_size HD.out) (by have := HD.out; simp [bvs] at this; simp [planC, bvs, this, zD]) (planC_one _ _ _ _) ?_; refine wpList_name ?_; intro w2 hw2; have hP6 := HP6.out; clear HP6; rw [show (w1.alloc (.cells (planC 0 0 0 (bvs zD)).toArray 27)).setRow w1.heap.size (planC 2 9 5 (bvs D)).toArray = w2 from hw2.symm] at hP6; have HP6 := Lib.hid hP6; clear hw2 hP6; have p2 := (plan_cells HP6.out.1).2.2; have HO2 := Lib.hid (HO1.out.trans HP6.out.2); have HV2 := Lib.hid (HV1.out.kept HP6.out.2); clear HV1 HO1)
    | (refine load_wanted 27 _ rfl _ rfl _ _ _ _ HP6.out.1 Tryd.underlying27 rfl (planC_size HD.out) (by rfl) ?_)
    | (go_at_call 15; refine (Chunk_ok Non _ _ _ 2 9 5 1 D HD (HE.out.non HO2.out) HV2.out (by simp [two]) (by simp [two, totD]) (by omega) (by decide) (by rw [two_stream]; rfl)).mono ?_; rintro e w3 ⟨v3, rfl, hO3, ho3⟩; rw [two_stream] at ho3; have hcv3 : (convert 33 9 v3).run Tryd.prog w3 = .ok (.string ⟨#[99, 100]⟩) w3 := conv_str ho3.non; have HP3 := Lib.hid (hO3.heap HP6.out.1 id); have HO3 := Lib.hid (HO2.out.trans hO3); have HV3 := Lib.hid (HV2.out.kept hO3); clear HP6 HO2 HV2 ho3 hO3)
    | (refine load_wanted 27 _ rfl _ rfl _ _ _ _ HP3.out Tryd.underlying27 rfl (planC_size HD.out) (by rfl) ?_)
    | (go_at_call 15; refine (Chunk_ok Non _ _ _ 2 9 5 2 D HD (HE.out.non HO3.out) HV3.out (by simp [two]) (by simp [two, totD]) (by omega) (by decide) (by rw [two_stream]; rfl)).mono ?_; rintro e w4 ⟨v4, rfl, hO4, ho4⟩; rw [two_stream] at ho4; have hcv4 : (convert 33 9 v4).run Tryd.prog w4 = .ok (.string ⟨#[101]⟩) w4 := conv_str ho4.non; have HO4 := Lib.hid (HO3.out.trans hO4); have HV4 := Lib.hid (HV3.out.kept hO4); clear HP3 HO3 HV3 ho4 hO4)
    | (go_at_call 11; refine (Stream_ok Non _ _ _ (HE.out.non HO4.out) HV4.out (by simp [two]) (by simp [two, totD])).mono ?_; rintro e w5 ⟨v5, rfl, hO5, ho5⟩; rw [two_stream] at ho5; have hcv5 : (convert 33 9 v5).run Tryd.prog w5 = .ok (.string ⟨#[97, 98, 99, 100, 101]⟩) w5 := conv_str ho5.non; have HO5 := Lib.hid (HO4.out.trans hO5); clear HO4 HV4 ho5 hO5)
    | (go_at_call 12; refine (Join_ok _ _ [(.slice (some ⟨w5.heap.size, 0, none⟩) 1 1, [1]), (.slice (some ⟨w5.heap.size + 1, 0, none⟩) 1 1, [2])] ?_ (by simp) (by simp [catB])).mono ?_; rotate_left; rintro e w6 ⟨v6, rfl, hO6, ho6⟩; have hcv6 : (convert 33 9 v6).run Tryd.prog w6 = .ok (.string ⟨#[1, 2]⟩) w6 := conv_str ho6.non; have HO6 := Lib.hid hO6; clear ho6 hO6))
  · go_ret
    exact ⟨rfl, (((HO5.out.alloc _).alloc _).alloc _).trans HO6.out⟩
  · refine Bys.lits w _ _ _ _ _ (by first | rfl | simp) ?_ ?_
    · exact Rd.kept (Rd.built Non w5 1 1 #[.int .u8 1] _ _ rfl rfl (by omega) (fun _ h => h.elim)) ((Only.refl _ _).alloc _)
    · exact Rd.built Non _ 1 1 #[.int .u8 2] _ _ (by simp) rfl (by omega) (fun _ h => h.elim)
end Go.Proofs.YtailcinidojdjaaDoor

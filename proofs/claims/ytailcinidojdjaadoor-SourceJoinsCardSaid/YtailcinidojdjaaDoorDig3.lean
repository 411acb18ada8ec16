/- Part of this seat's proofs: contracts of functions of the program and plain lemmas, which the claim's theorem uses. -/
import Derived.Test.YtailcinidojdjaaDoorDig2
namespace Go.Proofs.YtailcinidojdjaaDoor
open Go Go.RowKit
set_option linter.unusedVariables false
set_option linter.unusedSimpArgs false

set_option maxRecDepth 100000 in
set_option maxHeartbeats 2000000 in
theorem Block_ok (w : World) (S : List Int) (B : List UInt8) (hE : Env w) (hS : Hid (S.length = 8)) (hB : Hid (B.length = 64)) :
    Calls Tryd.prog 37 #[aggI S, aggB B] w fun e w' => e = .returned (aggI (blockI S B)) ∧ Only Non w w' := by
  unfold aggI aggB
  go_enter Tryd.func37, Tryd.ntmps37
  go_wp2_with fail
  have h0 : BlkW w ((((w.alloc (.cells (words S) 73)).alloc (.cells (bvs B).toArray 76)).alloc (.cells (words (List.replicate 8 0)) 73)).alloc (.cells (words (List.replicate 64 0)) 82)) w.heap.size S B (wfill B 0) := by
    refine ⟨?_, ?_, ?_, ?_, by simp, by simp [wfill], ((((Only.refl _ _).alloc _).alloc _).alloc _).alloc _⟩
    · exact heap_keep (heap_keep (heap_keep (heap_new _ _ _ rfl) _) _) _
    · exact heap_keep (heap_keep (heap_new _ _ _ (by simp)) _) _
    · exact heap_keep (heap_new _ _ _ (by simp)) _
    · exact heap_new _ _ _ (by simp)
  have H0 := Lib.hid h0
  clear h0
  generalize hG : w.heap.size = G at *
  have HG := Lib.hid (Nat.le_of_eq hG)
  clear hG
  go_loopw [18] (fun i wr => ∃ k : Nat, k ≤ 16 ∧ i = .int .i64 k ∧ BlkW w wr G S B (wfill B k)) (fun i _ => 16 - (intOf i).toNat)
  case atStart => exact ⟨0, Nat.zero_le _, rfl, H0.out⟩
  case round =>
    obtain ⟨k, hk, rfl, hW⟩ := hrel
    by_cases hlt : k < 16
    --<
    · have HW := Lib.hid hW
      have hx : ∀ j, j < 4 → wr.cell? ⟨G + 1, 4 * k + j, none⟩ = some (bv (B.getD (4 * k + j) 0)) := fun j hj => by
        rw [cell_of_row _ _ _ _ _ _ HW.out.b]
        have := hB.out
        rw [List.getD_eq_getElem?_getD, List.getElem?_eq_getElem (by omega)]
        simp [bvs, List.getElem?_eq_getElem (show 4 * k + j < B.length by omega)]
      have x0 := hx 0 (by omega)
      have x1 := hx 1 (by omega)
      have x2 := hx 2 (by omega)
      have x3 := hx 3 (by omega)
      clear hx hW
      obtain ⟨old, ho⟩ : ∃ old, (wfill B k)[k]? = some old := ⟨_, List.getElem?_eq_getElem (by rw [wfill_len]; omega)⟩
      have cw := HW.out.ww.cell ho
      clear ho
      have e4 : (4 : Int) * k = ((4 * k : Nat) : Int) := by omega
      have e5 : 4 * k ≤ 60 := by omega
      have HK := Lib.hid (show wordAt B k = word32 (B.getD (4 * k) 0) (B.getD (4 * k + 1) 0) (B.getD (4 * k + 2) 0) (B.getD (4 * k + 3) 0) from rfl)
      generalize B.getD (4 * k + 0) 0 = b0 at *
      rw [Nat.add_zero] at x0
      generalize B.getD (4 * k + 1) 0 = b1 at *
      generalize B.getD (4 * k + 2) 0 = b2 at *
      generalize B.getD (4 * k + 3) 0 = b3 at *
      generalize 4 * k = q at *
      have hfz : wr.frozen? ⟨G + 1 + 1 + 1, k, none⟩ = false := frozen_of_row _ _ _ _ _ HW.out.ww
      have hsl := fun W => slice64 W (G + 1) q e5
      have e6 : 4 ≤ 64 - q := by omega
      go_wp2_with (first | (go_at_call 46; refine (word_ok _ _ _ _ _ _ _ _ _ x0 x1 x2 x3 e6).mono ?_; rintro e w1 ⟨rfl, m, rfl⟩))
      go_roundw
      case rel => exact ⟨k + 1, by omega, by go_num, by rw [wfill_succ, HK.out]; exact (HW.out.drewN m).set HG.out k _⟩
      case measure => simp [intOf]; omega
    -->
    · obtain rfl : k = 16 := by omega
      clear hlt hk
      go_wp2_with fail
      have HW := Lib.hid hW
      clear hW H0
      go_loopw [7] (fun i wr => ∃ n : Nat, n ≤ 48 ∧ i = .int .i64 ((n : Int) + 16) ∧ BlkW w wr G S B (wext (wfill B 16) n)) (fun i _ => 64 - (intOf i).toNat)
      case atStart => exact ⟨0, Nat.zero_le _, rfl, HW.out⟩
      case round =>
        obtain ⟨n, hn, rfl, hW⟩ := hrel
        clear HW
        have HW := Lib.hid hW
        clear hW
        by_cases hlt : n < 48
        --<
        · have hl : (wext (wfill B 16) n).length = 64 := by rw [wext_len, wfill_len]
          have hg : ∀ j, j < 64 → wr.cell? ⟨G + 1 + 1 + 1, j, none⟩ = some (.int .u32 ((wext (wfill B 16) n).getD j 0)) := fun j hj => HW.out.ww.cell (by
            rw [List.getD_eq_getElem?_getD, List.getElem?_eq_getElem (by omega)]
            rfl)
          have c0 := hg n (by omega)
          have c1 := hg (n + 1) (by omega)
          have c9 := hg (n + 9) (by omega)
          have c14 := hg (n + 14) (by omega)
          have c16 := hg (n + 16) (by omega)
          have HS := Lib.hid (wext_succ (wfill B 16) n)
          have hfz : wr.frozen? ⟨G + 1 + 1 + 1, n + 16, none⟩ = false := frozen_of_row _ _ _ _ _ HW.out.ww
          clear hg hl
          generalize (wext (wfill B 16) n).getD n 0 = a at *
          generalize (wext (wfill B 16) n).getD (n + 1) 0 = x at *
          generalize (wext (wfill B 16) n).getD (n + 9) 0 = m at *
          generalize (wext (wfill B 16) n).getD (n + 14) 0 = y at *
          generalize (wext (wfill B 16) n).getD (n + 16) 0 = old at *
          have h16 : ((n : Int) + 16) = ((n + 16 : Nat) : Int) := by omega
          have i1 : IntKind.i64.wrap (((n + 16 : Nat) : Int) - 15) = ((n + 1 : Nat) : Int) := by rw [IntWalk.i64_in _ (by omega)]; omega
          have i14 : IntKind.i64.wrap (((n + 16 : Nat) : Int) - 2) = ((n + 14 : Nat) : Int) := by rw [IntWalk.i64_in _ (by omega)]; omega
          have i0 : IntKind.i64.wrap (((n + 16 : Nat) : Int) - 16) = (n : Int) := by rw [IntWalk.i64_in _ (by omega)]; omega
          have i9 : IntKind.i64.wrap (((n + 16 : Nat) : Int) - 7) = ((n + 9 : Nat) : Int) := by rw [IntWalk.i64_in _ (by omega)]; omega
          have ik : IntKind.i64.wrap (((n + 16 : Nat) : Int) + 1) = ((n + 1 + 16 : Nat) : Int) := by rw [IntWalk.i64_in _ (by omega)]; omega
          have b0 : n < 64 := by omega
          have b1 : n + 1 < 64 := by omega
          have b9 : n + 9 < 64 := by omega
          have b14 : n + 14 < 64 := by omega
          have b16 : n + 16 < 64 := by omega
          rw [h16]
          have HH := Lib.hid h16
          clear h16
          generalize hq1 : n + 1 = p1 at *
          generalize hq9 : n + 9 = p9 at *
          generalize hq14 : n + 14 = p14 at *
          generalize hq16 : n + 16 = p16 at *
          generalize hqk : p1 + 16 = pk at *
          have HQ := Lib.hid (And.intro hq1 (And.intro hq16 hqk))
          clear hq1 hq9 hq14 hq16 hqk
          go_wp2_with fail
          go_quiet (fail)
          go_wp2_with fail
          generalize hwd : wr.drewN nq = wd
          have HWd := Lib.hid (HW.out.drewN nq)
          have d0 : wd.cell? ⟨G + 1 + 1 + 1, n, none⟩ = some (.int .u32 a) := by rw [← hwd]; exact c0
          have d9 : wd.cell? ⟨G + 1 + 1 + 1, p9, none⟩ = some (.int .u32 m) := by rw [← hwd]; exact c9
          have d16 : wd.cell? ⟨G + 1 + 1 + 1, p16, none⟩ = some (.int .u32 old) := by rw [← hwd]; exact c16
          have dfz : wd.frozen? ⟨G + 1 + 1 + 1, p16, none⟩ = false := by rw [← hwd]; exact hfz
          rw [hwd] at HWd
          clear hwd c0 c1 c9 c14 c16 hfz HW
          have bi0 : (n : Int) < 64 := by omega
          have bi9 : (p9 : Int) < 64 := by omega
          have bi16 : (p16 : Int) < 64 := by omega
          refine wp_region_still_tail 28 (by kernel_rfl) (by kernel_rfl) ?_
          simp only [List.take_succ_cons, List.take_zero, List.drop_succ_cons, List.drop_zero]
          iterate 6 still_step
          still_call (turn_ok _ 7 (by decide) _)
          iterate 1 still_step
          still_call (turn_ok _ 18 (by decide) _)
          iterate 11 still_step
          still_call (turn_ok _ 17 (by decide) _)
          iterate 1 still_step
          still_call (turn_ok _ 19 (by decide) _)
          iterate 5 still_step
          refine wpStill_nil ?_
          change wpList _ _ _ _ _ wd.drew
          go_wp2_with fail
          refine ⟨⟨_, _, _, _, _, _, _, _, _, _, _, _, _, _, _, _, _, _, _, _, _, _, _, _, _, _, _, _, _, _, _, _, _, _, _, _, _, _, _, _, _, _, _, _, ?rel, rfl⟩, ?measure⟩
          case rel =>
            have hq := HQ.out
            refine ⟨n + 1, by omega, by rw [show ((n + 1 : Nat) : Int) + 16 = ((pk : Nat) : Int) by omega], ?_⟩
            rw [hq.1, HS.out]
            have := (HWd.out.set HG.out p16 (extI a x m y)).drewN 1
            rw [show 16 + n = p16 by omega]
            exact this
          case measure => have hq := HQ.out; simp [intOf]; omega
        -->
        · obtain rfl : n = 48 := by omega
          clear hlt hn
          have hw48 : ((48 : Nat) : Int) + 16 = 64 := by omega
          have hsz := HW.out.size
          have hE' := Lib.hid hE
          have hWl : (wext (wfill B 16) 48).length = 64 := by rw [wext_len, wfill_len]
          have HWl := Lib.hid hWl
          have HB := Lib.hid (show blockI S B = sumsI S (roundsI (wext (wfill B 16) 48) S 64) 8 from rfl)
          clear hWl hE
          generalize wext (wfill B 16) 48 = WW at *
          go_wp2_with (first
            | (refine wpList_load_row rfl 73 _ rfl _ rfl _ _ _ _ HW.out.s Tryd.underlying73 rfl (info8 hS.out) ?_)
            | (refine wpList_store_row rfl 73 _ _ rfl (G + 1 + 1 + 1 + 1) (words S) rfl rfl _ (words (List.replicate 8 0)) (heap_new _ _ _ hsz) (info8 hS.out) (by rw [words_size, words_size, hS.out]; rfl) (words_one S) ?_)
            | (refine wpList_load_mid rfl 82 _ rfl 0 0 rfl kcells _ (hE'.out.non (HW.out.next HG.out).only).2 Tryd.underlying82 rfl info64 ?_))
          have hR := HW.out.next HG.out
          change RndW w ((wr.alloc (.cells #[.int .u32 0, .int .u32 0, .int .u32 0, .int .u32 0, .int .u32 0, .int .u32 0, .int .u32 0, .int .u32 0] 73)).setRow (G + 1 + 1 + 1 + 1) (words S)) G S WW S at hR
          have HR := Lib.hid hR
          clear hR hsz HW hE'
          go_loopw [71] (fun i wr => ∃ n : Nat, n ≤ 64 ∧ i = .int .i64 n ∧ RndW w wr G S WW (roundsI WW S n)) (fun i _ => 64 - (intOf i).toNat)
          case atStart => exact ⟨0, Nat.zero_le _, rfl, HR.out⟩
          case round =>
            obtain ⟨n, hn, rfl, hW⟩ := hrel
            clear HR
            have HW := Lib.hid hW
            clear hW
            by_cases hlt : n < 64
            --<
            · have hidx := kidx n hlt
              have hx : wr.cell? ⟨G + 1 + 1 + 1, n, none⟩ = some (.int .u32 (WW.getD n 0)) := HW.out.ww.cell (by
                rw [List.getD_eq_getElem?_getD, List.getElem?_eq_getElem (by have := HWl.out; omega)]
                rfl)
              have HS := Lib.hid (roundsI_succ WW S n)
              obtain ⟨a, b, c, d, e, f, g, v7, hs⟩ := len8 (roundsI_len WW S n hS.out)
              rw [hs] at HW HS
              clear hs
              have c0 := HW.out.t.cell (k := 0) rfl
              have c1 := HW.out.t.cell (k := 1) rfl
              have c2 := HW.out.t.cell (k := 2) rfl
              have c3 := HW.out.t.cell (k := 3) rfl
              have c4 := HW.out.t.cell (k := 4) rfl
              have c5 := HW.out.t.cell (k := 5) rfl
              have c6 := HW.out.t.cell (k := 6) rfl
              have c7 := HW.out.t.cell (k := 7) rfl
              have bi : (n : Int) < 64 := by omega
              have hsg : IntKind.u32.signed = false := rfl
              generalize WW.getD n 0 = x at *
              generalize ktab.getD n 0 = kk at *
              generalize kcells.toArray = KA at *
              go_wp2_with fail
              go_quiet (fail)
              go_wp2_with fail
              go_quiet ((go_at_call 47; exact quietTwo (turn_any _ _ (by decide) _)))
              generalize hT : (((v7 + bits .xor .u32 (bits .xor .u32 (turnI e 6) (turnI e 11)) (turnI e 25) + bits .or .u32 (bits .and .u32 e f) (bits .and .u32 (bits .xor .u32 IntKind.u32.max e) g) + kk) % 4294967296 + x) % 4294967296) = T
              have HT := Lib.hid hT
              clear hT
              go_wp2_with fail
              go_quiet ((go_at_call 47; exact quietTwo (turn_any _ _ (by decide) _)))
              generalize hU : ((bits .xor .u32 (bits .xor .u32 (turnI a 2) (turnI a 13)) (turnI a 22) + bits .xor .u32 (bits .xor .u32 (bits .and .u32 a b) (bits .and .u32 a c)) (bits .and .u32 b c)) % 4294967296) = U
              have HU := Lib.hid hU
              clear hU
              go_wp2_with (refine wpList_store_row rfl 73 _ _ rfl (G + 1 + 1 + 1 + 1) (words [(T + U) % 4294967296, a, b, c, (d + T) % 4294967296, e, f, g]) rfl rfl _ (words [a, b, c, d, e, f, g, v7]) HW.out.t (info8 rfl) rfl (words_one _) ?_)
              refine ⟨?rel, ?measure⟩
              case rel =>
                refine ⟨n + 1, by omega, by go_num, ?_⟩
                have h9 := fun m => (HW.out.drewN m).put HG.out [(T + U) % 4294967296, a, b, c, (d + T) % 4294967296, e, f, g]
                have h1 : sT e f g v7 kk x = T := HT.out
                have h2 : sU a b c = U := HU.out
                rw [HS.out]
                simp only [roundI, h1, h2]
                exact h9 _
              case measure => simp [intOf]; omega
            -->
            · obtain rfl : n = 64 := by omega
              clear hlt hn
              have HX := Lib.hid (roundsI_len WW S 64 hS.out)
              generalize roundsI WW S 64 = R at *
              go_wp2_with fail
              go_loopw [150] (fun i wr => ∃ n : Nat, n ≤ 8 ∧ i = .int .i64 n ∧ RndW w wr G S WW (sumsI S R n)) (fun i _ => 8 - (intOf i).toNat)
              case atStart => exact ⟨0, Nat.zero_le _, rfl, HW.out⟩
              case round =>
                obtain ⟨n, hn, rfl, hW⟩ := hrel
                clear HW
                have HW := Lib.hid hW
                clear hW
                by_cases hlt : n < 8
                · have c0 : wr.cell? ⟨G + 1 + 1 + 1 + 1, n, none⟩ = some (.int .u32 ((sumsI S R n).getD n 0)) := HW.out.t.cell (by
                    rw [List.getD_eq_getElem?_getD, List.getElem?_eq_getElem (by have := HX.out; rw [sumsI_len]; omega)]
                    rfl)
                  have c1 : wr.cell? ⟨G, n, none⟩ = some (.int .u32 (S.getD n 0)) := HW.out.ss.cell (by
                    rw [List.getD_eq_getElem?_getD, List.getElem?_eq_getElem (by have := hS.out; omega)]
                    rfl)
                  have HS := Lib.hid (sumsI_succ S R n)
                  have hfz : wr.frozen? ⟨G + 1 + 1 + 1 + 1, n, none⟩ = false := frozen_of_row _ _ _ _ _ HW.out.t
                  have bi : (n : Int) < 8 := by omega
                  generalize (sumsI S R n).getD n 0 = p at *
                  generalize S.getD n 0 = q at *
                  go_wp2_with fail
                  refine wp_region_still_tail 7 (by kernel_rfl) (by kernel_rfl) ?_
                  simp only [List.take_succ_cons, List.take_zero, List.drop_succ_cons, List.drop_zero]
                  iterate 7 still_step
                  refine wpStill_nil ?_
                  change wpList _ _ _ _ _ wr.drew
                  go_wp2_with fail
                  refine ⟨⟨_, _, _, _, _, _, _, _, _, _, _, _, _, ?rel, rfl⟩, ?measure⟩
                  case rel =>
                    refine ⟨n + 1, by omega, by go_num, ?_⟩
                    rw [HS.out]
                    exact (HW.out.set HG.out n _).drewN 1
                  case measure => simp [intOf]; omega
                · obtain rfl : n = 8 := by omega
                  clear hlt hn
                  have HX2 := Lib.hid ((sumsI_len S R 8).trans HX.out)
                  have HB2 := Lib.hid (show blockI S B = sumsI S R 8 from HB.out)
                  generalize sumsI S R 8 = Z at *
                  go_wp2_with (first
                    | (refine wpList_load_row rfl 73 _ rfl _ rfl _ _ _ _ HW.out.t Tryd.underlying73 rfl (info8 HX2.out) ?_)
                    | (refine wpList_store_row rfl 73 _ _ rfl (G + 1 + 1) (words Z) rfl rfl _ (words (List.replicate 8 0)) HW.out.r (info8 HX2.out) (by rw [words_size, words_size, HX2.out]; rfl) (words_one Z) ?_))
                  refine bodyPost_ret (results_cell_row rfl _ _ (G + 1 + 1) _ _ _ _ rfl (HW.out.r.put Z) Tryd.underlying73 rfl (info8 HX2.out)) rfl ?_
                  exact ⟨by rw [HB2.out], HW.out.only.setRow (.inr (by have := HG.out; omega)) _⟩
end Go.Proofs.YtailcinidojdjaaDoor

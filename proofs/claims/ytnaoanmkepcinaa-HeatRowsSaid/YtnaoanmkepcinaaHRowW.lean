/- Heat: the law HeatRows at two rows of a bank. -/
import Derived.Test.YtnaoanmkepcinaaHRowT
import Derived.Deep.CutRange
import Derived.BigRegion
import Derived.BigQuiet
namespace Go.Proofs.Ytnaoanmkepcinaa
open Go.RowKit

set_option maxRecDepth 100000 in
set_option maxHeartbeats 4000000 in
theorem rows_main (v : Value) (m : List (List Int)) (a0 b0 : Int) (i k : Nat) (w : World) (hv : RdM w v m) (hq1 : wideB m = false) (hq2 : vB m = true) (ha0 : 0 ≤ a0 ∧ a0 ≤ 255) (hb0' : 0 ≤ b0 ∧ b0 ≤ 255)
    (hiN : i < m.length) (hkN : k < m.length) (hia : a0.tmod (m.length : Int) = (i : Int)) (hkb : b0.tmod (m.length : Int) = (k : Int)) (hik : i ≠ k) :
    Calls Try.prog 3 #[.agg #[v], .agg #[.int .u8 a0, .int .u8 b0]] w fun e w' => e = .returned (.bool true) ∧ Below w.heap.size w w' := by
  have HV := Lib.hid hv
  have HSN := Lib.hid (fun W => sane_any W)
  have HWD := Lib.hid (fun W hb => wide_any _ m W (HV.out.below (w' := W) hb))
  obtain ⟨w1', w2'⟩ := wideB_bd hq1
  have HVD := Lib.hid (fun W hb => refValid_any _ m W (HV.out.below (w' := W) hb) w2')
  obtain ⟨d1, d2, d3⟩ := vB_bd hq2
  have hikb : ((i : Int) == (k : Int)) = false := by simp; omega
  obtain ⟨ri, hri⟩ : ∃ r, m[i]? = some r := ⟨_, List.getElem?_eq_getElem hiN⟩
  obtain ⟨rk, hrk⟩ : ∃ r, m[k]? = some r := ⟨_, List.getElem?_eq_getElem hkN⟩
  have hdb : -1000000000000000000 ≤ dt m.length m ∧ dt m.length m ≤ 1000000000000000000 := by
    obtain ⟨b1, b2, b3, b4, b5⟩ := rep_bd hq2
    have := (dt_bd m.length m _ rfl b2 b3).1
    omega
  have hvs : vB ((m.set i rk).set k ri) = true := vB_put (vB_put hq2 (vB_row hq2 hrk)) (by rw [List.length_set]; exact vB_row hq2 hri)
  have hvt : vB (m.set i rk) = true := vB_put hq2 (vB_row hq2 hrk)
  have HD1 := Lib.hid (fun W v (hv : RdM W v m) => Det_any v m W hv w1' w2')
  have HD2 := Lib.hid (fun W v (hv : RdM W v ((m.set i rk).set k ri)) => Det_any v _ W hv (by rw [List.length_set, List.length_set]; exact w1') (fun r hr => by have := (vB_bd hvs).2.2 r hr; rw [this.1, List.length_set, List.length_set]; exact w1'))
  have HD3 := Lib.hid (fun W v (hv : RdM W v (m.set i rk)) => Det_any v _ W hv (by rw [List.length_set]; exact w1') (fun r hr => by have := (vB_bd hvt).2.2 r hr; rw [this.1, List.length_set]; exact w1'))
  rw [show detN m = dt m.length m from by simp [detN, hq2], show heatE m = 0 from by simp [heatE, hq2]] at HD1
  rw [show detN ((m.set i rk).set k ri) = -dt m.length m from by unfold detN; rw [if_pos hvs, List.length_set, List.length_set, dt_swap hri hrk hik], show heatE ((m.set i rk).set k ri) = 0 from by simp [heatE, hvs]] at HD2
  rw [show detN (m.set i rk) = 0 from by unfold detN; rw [if_pos hvt, List.length_set, dt_twice hiN hrk hik], show heatE (m.set i rk) = 0 from by simp [heatE, hvt]] at HD3
  obtain ⟨vs, ⟨a, cap, rfl, hc, hcm, ha, _⟩, hr⟩ := hv
  have hE := hr.1
  rw [hr.1] at HV HWD HVD hc ⊢
  have HR := Lib.hid hr
  have HGM : Hid (∀ j, j < m.length → ∃ r, m[j]? = some r ∧ r.length = m.length) := Lib.hid fun j hj => ⟨_, List.getElem?_eq_getElem hj, (d3 _ (List.getElem_mem hj)).1⟩
  have hb0 : Hid (Below w.heap.size w ((w.alloc (.cells #[.slice a m.length cap] 24)).alloc (.cells #[.int .u8 a0, .int .u8 b0] 25))) := Lib.hid (((Below.refl _ _).alloc (Nat.le_refl _) _).alloc (by simp) _)
  have hcB : Hid (((w.alloc (.cells #[.slice a m.length cap] 24)).alloc (.cells #[.int .u8 a0, .int .u8 b0] 25)).cell? ⟨w.heap.size, 0, none⟩ = some (.slice a m.length cap)) := Lib.hid (cell_alloc (World.cell?_alloc_at _ _ _ _ rfl) _)
  have hcA : Hid (((w.alloc (.cells #[.slice a m.length cap] 24)).alloc (.cells #[.int .u8 a0, .int .u8 b0] 25)).cell? ⟨w.heap.size + 1, 0, none⟩ = some (.int .u8 a0)) := Lib.hid (World.cell?_alloc_at _ _ _ _ (by simp))
  have hcC : Hid (((w.alloc (.cells #[.slice a m.length cap] 24)).alloc (.cells #[.int .u8 a0, .int .u8 b0] 25)).cell? ⟨w.heap.size + 1, 1, none⟩ = some (.int .u8 b0)) := Lib.hid (World.cell?_alloc_at _ _ _ _ (by simp))
  rw [hq1] at HWD
  rw [hq2] at HVD
  have HRI := Lib.hid hri
  have HRK := Lib.hid hrk
  have HIK := Lib.hid hik
  generalize dt m.length m = d at *
  clear hq1 hq2 hr w2' d3 hri hrk hvs hvt hik
  generalize hN : m.length = N at *
  have HN := Lib.hid hN
  have HM0 : Hid (m.take 0 = []) := Lib.hid (by simp)
  have HMN : Hid (m.take N = m) := Lib.hid (by rw [← hN, List.take_length])
  clear hN
  have hNz : ((N : Int) == 0) = false := by simp; omega
  go_enter Try.func3, Try.ntmps3
  go_wp2_with (first
    | (go_at_call 14; refine (HWD.out _ hb0.out).mono ?_; rintro e w1 ⟨rfl, hb1⟩; have hb01 := hb0.out.trans (hb1.mono hb0.out.size); have c1 := cell_below hcB.out hb1)
    | (go_at_call 15; refine (HVD.out _ hb01).mono ?_; rintro e w2 ⟨rfl, hb2⟩; have hb02 := hb01.trans (hb2.mono hb01.size); have c2 := cell_below c1 hb2; have c3 := cell_below (cell_below hcA.out hb1) hb2; have c4 := cell_below (cell_below hcC.out hb1) hb2))
  go_quiet (fail)
  have c5 := cell_below c2 (bel_drewN (Below.refl w2.heap.size w2) nq)
  obtain ⟨w3, hw3⟩ : ∃ x, x = w2.drewN nq := ⟨_, rfl⟩
  have hb03 : Below w.heap.size w w3 := by rw [hw3]; exact bel_drewN hb02 nq
  rw [← hw3] at c5 ⊢
  clear hw3 c1 c2 c3 c4 hb1 hb2 hb01 hb02
  go_wp2_with fail
  have hz3 := hb03.size
  have hgw : w.heap.size < w3.heap.size := World.block_lt_of_cell? _ _ c5
  have c2B := c5
  clear c5
  go_loopw [10] (fun x wr => ∃ j : Nat, j ≤ N ∧ x = .int .i64 j ∧ Hid (∃ tv vs sv us, St wr w3.heap.size tv vs sv us (m.take j) (m.take j)) ∧ Below w3.heap.size w3 wr) (fun x _ => N - (intOf x).toNat)
  case atStart => exact ⟨0, Nat.zero_le _, rfl, Lib.hid (by
    rw [HM0.out]
    refine ⟨.slice none 0 0, [], .slice none 0 0, [], OwnT.empty _ _, OwnT.empty _ _, fun i j x y hx _ => by simp at hx, fun i j x y _ hx _ => by simp at hx, ⟨cell_alloc (World.cell?_alloc_at _ _ _ _ rfl) _, by simp⟩, World.cell?_alloc_at _ _ _ _ (by simp), by simp⟩), ((Below.refl _ _).alloc (Nat.le_refl _) _).alloc (by simp) _⟩
  case round =>
    obtain ⟨j, hj, rfl, HST, hbel⟩ := hrel
    have hbw := hb03.trans (hbel.mono hz3)
    by_cases hjt : j < N
    · obtain ⟨r, hrr, hrl⟩ := HGM.out j hjt
      obtain ⟨b, off, rfl, hcell⟩ := ha.cell (j := j) (by rw [hE]; exact hjt)
      obtain ⟨rv, hrv⟩ : ∃ rv, vs[j]? = some rv := ⟨_, List.getElem?_eq_getElem (by rw [hE]; exact hjt)⟩
      have HC5 := Lib.hid (hcell j _ hrv)
      obtain ⟨a1, cap1, rfl, hc1, hcm1, ha1, _⟩ := HR.out.2 j rv r hrv hrr
      obtain ⟨b3, off3, rfl, hcell3⟩ := ha1.cell (j := 0) (by rw [ints_length]; omega)
      rw [ints_length, hrl] at HC5
      have HRL := Lib.hid hrl
      have HC3 := Lib.hid hcell3
      have HTS := Lib.hid (take_snoc hrr)
      have HBW := Lib.hid hbw
      have HBE := Lib.hid hbel
      obtain ⟨mj, hmj⟩ : ∃ x, x = m.take j := ⟨_, rfl⟩
      have HMJ := Lib.hid hmj
      rw [← hmj] at HST HTS
      have hjN : (j : Int) < (N : Int) := by omega
      have hml : mj.length ≤ 10 := by rw [hmj, List.length_take]; omega
      have h1N : 0 < N := by omega
      clear hcell hcell3 hrv hrr hrl ha1 hmj hbel
      go_wp2_with fail
      go_cut [] from 42 to 70 (fun wx => Hid (∃ tv vs sv us, St wx w3.heap.size tv vs sv us (mj ++ [r]) mj) ∧ Below w3.heap.size w3 wx)
      case first =>
        obtain ⟨tv, vs1, sv, us, hst⟩ := HST.out
        have HS := Lib.hid hst
        obtain ⟨at1, ct1, rfl⟩ := own_form HS.out.1.top
        obtain ⟨ct, ft⟩ := HS.out.2.2.2.2.1
        have c5 := cell_below HC5.out HBW.out
        have cB := cell_below c2B HBE.out
        have l5 : b < wr.heap.size := World.block_lt_of_cell? _ _ c5
        have lB : w.heap.size < wr.heap.size := World.block_lt_of_cell? _ _ cB
        have lt : w3.heap.size < wr.heap.size := World.block_lt_of_cell? _ _ ct
        have lt2 : w3.heap.size + 2 ≤ wr.heap.size := by have := World.block_lt_of_cell? _ _ HS.out.2.2.2.2.2.1; simp at this; omega
        have HSD : Hid (∀ o, (wr.alloc o).drew.heap.size = wr.heap.size + 1) := Lib.hid fun o => by show (wr.alloc o).heap.size = _; simp
        clear hst
        go_region_law (first
          | (refine stepS el_int1 rfl rfl (v := .slice (some ⟨wr.heap.size, 0, none⟩) 0 0) (B := w3.heap.size + 2) (n := 0) (ys := ints r) rfl rfl (by rw [ints_length]; exact HRL.out) (fun q u hq => by rw [add_none]; exact cell_below (HC3.out q u hq) (HBW.out.alloc HBW.out.size _).drew) (ints_cell r) h1N (by omega) (by rw [HSD.out]; omega) (own_drewN (own_lit wr (w3.heap.size + 2) 3 #[] 0 lt2 rfl (by decide)) 1) ?_; simp only [Nat.zero_add]; intro g1 cp1 w5 ho5 hg5 hat5 hlt5; have hge5 : wr.heap.size ≤ g1 := (by rcases hat5 with h | h; { have h' : wr.heap.size = g1 := (by simpa [Value.ownBlock] using h); omega }; { rw [HSD.out] at h; omega }); have hbr5 : Below wr.heap.size wr w5 := ((Below.refl wr.heap.size wr).alloc (Nat.le_refl _) _).drew.grown hg5 (by rw [HSD.out]; omega) (fun q e => by have e' : wr.heap.size = q := (by simpa [Value.ownBlock] using e); omega); have ct5 := cell_below ct hbr5; have ft5 := frozen_below ft lt hbr5; have lt5 : w3.heap.size < w5.heap.size := World.block_lt_of_cell? _ _ ct5; have HS5 := Lib.hid (HS.out.below hbr5); have HO5 : Hid (w5.ownsRow (w3.heap.size + 2) 3 1 (.slice (some ⟨g1, 0, none⟩) N cp1) r.length (ints r)) := Lib.hid (by rw [HRL.out]; simpa using ho5))
          | (refine stepS el_row1 rfl rfl (v := .slice at1 mj.length ct1) (B := w3.heap.size + 2) (ys := [.slice (some ⟨g1, 0, none⟩) N cp1]) (n := mj.length) (m := 1) rfl rfl rfl (World.news_of_block (cs := #[.slice (some ⟨g1, 0, none⟩) N cp1]) (heap_alloc_new _ _)) (by simp [Value.oneCell']) (by decide) (by omega) (by have := hbr5.size; simp; omega) (by exact ((HS5.out.1).top).alloc _) ?_; intro g2 cp2 w6 ho6 hg6 hat6 hlt6; have HX := Lib.hid (St.one (g := g1) (HS5.out.below ((Below.refl _ _).alloc (Nat.le_refl _) _)) (HO5.out.alloc _) rfl (fun q y hy => HS.out.1.old hy hge5) (fun q y hy => HS.out.2.1.old hy hge5) hg6 ho6); have hct6 := cell_low ((HS5.out.1).top.alloc _) hg6 (by omega : w3.heap.size < w3.heap.size + 2) (cell_alloc ct5 _) (frozen_below ft5 lt5 ((Below.refl _ _).alloc (Nat.le_refl _) _)); have ct6 := hct6.1; have ft6 := hct6.2; have hb6 : Below w3.heap.size w3 w6 := ((HBE.out.trans (hbr5.mono HBE.out.size)).alloc (by have := HBE.out.size; have := hbr5.size; omega) _).grown hg6 (by have := HBE.out.size; have := hbr5.size; simp; omega) (fun q e => by have := ((HS5.out.1).top.lt q e).1; omega)))
        all_goals (
          go_wp2_with fail
          go_meet
          exact ⟨Lib.hid ⟨_, _, _, _, HX.out⟩, hb6.setCell (p := ⟨w3.heap.size, 0, none⟩) (Nat.le_refl _) _⟩)
      case rest =>
        obtain ⟨HST, hbel⟩ := hcut
        have hbw := hb03.trans (hbel.mono hz3)
        have HBW := Lib.hid hbw
        have HBE := Lib.hid hbel
        clear hbel
        go_wp2_with fail
        obtain ⟨tv, vs1, sv, us, hst⟩ := HST.out
        have HS := Lib.hid hst
        obtain ⟨at1, ct1, rfl⟩ := own_form HS.out.2.1.top
        obtain ⟨ct, ft⟩ := HS.out.2.2.2.2.2
        have c5 := cell_below HC5.out HBW.out
        have cB := cell_below c2B HBE.out
        have l5 : b < wc.heap.size := World.block_lt_of_cell? _ _ c5
        have lB : w.heap.size < wc.heap.size := World.block_lt_of_cell? _ _ cB
        have lt : w3.heap.size + 1 < wc.heap.size := World.block_lt_of_cell? _ _ ct
        have lt2 : w3.heap.size + 2 ≤ wc.heap.size := by have := World.block_lt_of_cell? _ _ HS.out.2.2.2.2.2.1; simp at this; omega
        have HSD : Hid (∀ o, (wc.alloc o).drew.heap.size = wc.heap.size + 1) := Lib.hid fun o => by show (wc.alloc o).heap.size = _; simp
        clear hst
        go_region_law (first
          | (refine stepS el_int1 rfl rfl (v := .slice (some ⟨wc.heap.size, 0, none⟩) 0 0) (B := w3.heap.size + 2) (n := 0) (ys := ints r) rfl rfl (by rw [ints_length]; exact HRL.out) (fun q u hq => by rw [add_none]; exact cell_below (HC3.out q u hq) (HBW.out.alloc HBW.out.size _).drew) (ints_cell r) h1N (by omega) (by rw [HSD.out]; omega) (own_drewN (own_lit wc (w3.heap.size + 2) 3 #[] 0 lt2 rfl (by decide)) 1) ?_; simp only [Nat.zero_add]; intro g1 cp1 w5 ho5 hg5 hat5 hlt5; have hge5 : wc.heap.size ≤ g1 := (by rcases hat5 with h | h; { have h' : wc.heap.size = g1 := (by simpa [Value.ownBlock] using h); omega }; { rw [HSD.out] at h; omega }); have hbr5 : Below wc.heap.size wc w5 := ((Below.refl wc.heap.size wc).alloc (Nat.le_refl _) _).drew.grown hg5 (by rw [HSD.out]; omega) (fun q e => by have e' : wc.heap.size = q := (by simpa [Value.ownBlock] using e); omega); have ct5 := cell_below ct hbr5; have ft5 := frozen_below ft lt hbr5; have lt5 : w3.heap.size + 1 < w5.heap.size := World.block_lt_of_cell? _ _ ct5; have HS5 := Lib.hid (HS.out.below hbr5); have HO5 : Hid (w5.ownsRow (w3.heap.size + 2) 3 1 (.slice (some ⟨g1, 0, none⟩) N cp1) r.length (ints r)) := Lib.hid (by rw [HRL.out]; simpa using ho5))
          | (refine stepS el_row1 rfl rfl (v := .slice at1 mj.length ct1) (B := w3.heap.size + 2) (ys := [.slice (some ⟨g1, 0, none⟩) N cp1]) (n := mj.length) (m := 1) rfl rfl rfl (World.news_of_block (cs := #[.slice (some ⟨g1, 0, none⟩) N cp1]) (heap_alloc_new _ _)) (by simp [Value.oneCell']) (by decide) (by omega) (by have := hbr5.size; simp; omega) (by exact ((HS5.out.2.1).top).alloc _) ?_; intro g2 cp2 w6 ho6 hg6 hat6 hlt6; have HX := Lib.hid (St.two (g := g1) (HS5.out.below ((Below.refl _ _).alloc (Nat.le_refl _) _)) (HO5.out.alloc _) rfl (fun q y hy => HS.out.1.old hy hge5) (fun q y hy => HS.out.2.1.old hy hge5) hg6 ho6); have hct6 := cell_low ((HS5.out.2.1).top.alloc _) hg6 (by omega : w3.heap.size + 1 < w3.heap.size + 2) (cell_alloc ct5 _) (frozen_below ft5 lt5 ((Below.refl _ _).alloc (Nat.le_refl _) _)); have ct6 := hct6.1; have ft6 := hct6.2; have hb6 : Below w3.heap.size w3 w6 := ((HBE.out.trans (hbr5.mono HBE.out.size)).alloc (by have := HBE.out.size; have := hbr5.size; omega) _).grown hg6 (by have := HBE.out.size; have := hbr5.size; simp; omega) (fun q e => by have := ((HS5.out.2.1).top.lt q e).1; omega)))
        all_goals (
          go_wp2_with fail
          go_roundw
          case rel => exact ⟨j + 1, by omega, by go_num, by rw [HTS.out]; exact Lib.hid ⟨_, _, _, _, HX.out⟩, hb6.setCell (p := ⟨w3.heap.size + 1, 0, none⟩) (Nat.le_succ _) _⟩
          case measure => simp [intOf]; omega)
    · obtain rfl : j = N := by omega
      rw [HMN.out] at HST
      have hbN : (0 : Int) < (j : Int) := by omega
      have hiZ : (i : Int) < (j : Int) := by omega
      have hkZ : (k : Int) < (j : Int) := by omega
      have HBE := Lib.hid hbel
      go_wp2_with fail
      go_cut [] from 71 to 88 (fun wx => Hid (∃ tv vs sv us, St wx w3.heap.size tv vs sv us ((m.set i rk).set k ri) m) ∧ Below w3.heap.size w3 wx)
      case first =>
        obtain ⟨tv, vs1, sv, us, hst⟩ := HST.out
        obtain ⟨g, ct1, etv, hgl, _⟩ := own_some hst.1.top (by rw [HN.out]; omega)
        rw [HN.out] at etv
        subst etv
        have htop := hst.1.top
        rw [HN.out] at htop
        have HS := Lib.hid hst
        have hln := hst.1.len
        obtain ⟨xi, hxi⟩ : ∃ x, vs1[i]? = some x := ⟨_, List.getElem?_eq_getElem (by rw [hln, HN.out]; exact hiN)⟩
        obtain ⟨xk, hxk⟩ : ∃ x, vs1[k]? = some x := ⟨_, List.getElem?_eq_getElem (by rw [hln, HN.out]; exact hkN)⟩
        obtain ⟨ai, ci, rfl⟩ := own_form (hst.1.row i xi ri hxi HRI.out)
        obtain ⟨ak, ck, rfl⟩ := own_form (hst.1.row k xk rk hxk HRK.out)
        obtain ⟨ct, ft⟩ := hst.2.2.2.2.1
        have e1 : wr.cell? ⟨g, i, none⟩ = some (.slice ai ri.length ci) := (htop.cellAt i (by omega)).trans hxi
        have e2 : wr.cell? ⟨g, k, none⟩ = some (.slice ak rk.length ck) := (htop.cellAt k (by omega)).trans hxk
        have f1 : wr.frozen? ⟨g, i, none⟩ = false := htop.frozenAt i
        have f2 : wr.frozen? ⟨g, k, none⟩ = false := htop.frozenAt k
        have HX := Lib.hid (St.swap hst HIK.out hxi hxk HRI.out HRK.out)
        have hik' : i ≠ k := HIK.out
        have hki' : k ≠ i := fun e => HIK.out e.symm
        clear hst hln hxi hxk htop
        go_region
        all_goals (
          go_wp2_with fail
          go_meet
          exact ⟨Lib.hid ⟨_, _, _, _, HX.out.below (Below.refl _ _).drew⟩, ((HBE.out.setCell (p := ⟨g, i, none⟩) (show _ ≤ g by omega) _).setCell (p := ⟨g, k, none⟩) (show _ ≤ g by omega) _).drew⟩)
      case rest =>
        obtain ⟨HST, hbel⟩ := hcut
        have HBW := Lib.hid (hb03.trans (hbel.mono hz3))
        have HBE := Lib.hid hbel
        clear hbel
        go_wp2_with fail
        go_cut [] from 89 to 99 (fun wx => Hid (∃ tv vs sv us, St wx w3.heap.size tv vs sv us ((m.set i rk).set k ri) (m.set i rk)) ∧ Below w3.heap.size w3 wx)
        case first =>
          obtain ⟨tv, vs1, sv, us, hst⟩ := HST.out
          obtain ⟨g, ct1, etv, hgl, _⟩ := own_some hst.2.1.top (by rw [HN.out]; omega)
          rw [HN.out] at etv
          subst etv
          have htop := hst.2.1.top
          rw [HN.out] at htop
          have hln := hst.2.1.len
          obtain ⟨yi, hyi⟩ : ∃ x, us[i]? = some x := ⟨_, List.getElem?_eq_getElem (by rw [hln, HN.out]; exact hiN)⟩
          have hril : ri.length = j := by obtain ⟨r, h1, h2⟩ := HGM.out i hiN; rw [HRI.out] at h1; cases h1; exact h2
          have hrkl : rk.length = j := by obtain ⟨r, h1, h2⟩ := HGM.out k hkN; rw [HRK.out] at h1; cases h1; exact h2
          have hrow := hst.2.1.row i yi ri hyi HRI.out
          rw [hril] at hrow
          obtain ⟨gy, cy, rfl, hgyl, _⟩ := own_some hrow (by omega)
          obtain ⟨ct, ft⟩ := hst.2.2.2.2.2
          have e1 : wc.cell? ⟨g, i, none⟩ = some (.slice (some ⟨gy, 0, none⟩) j cy) := (htop.cellAt i (by omega)).trans hyi
          obtain ⟨b, off, rfl, hcell⟩ := ha.cell (j := k) (by rw [hE]; exact hkN)
          obtain ⟨rv, hrv⟩ : ∃ rv, vs[k]? = some rv := ⟨_, List.getElem?_eq_getElem (by rw [hE]; exact hkN)⟩
          have h5 := hcell k _ hrv
          obtain ⟨a1, cap1, rfl, hc1, hcm1, ha1, _⟩ := HR.out.2 k rv rk hrv HRK.out
          obtain ⟨b3, off3, rfl, hcell3⟩ := ha1.cell (j := 0) (by rw [ints_length]; omega)
          rw [ints_length, hrkl] at h5
          have HC3 := Lib.hid hcell3
          have c5 := cell_below h5 HBW.out
          have cB := cell_below c2B HBE.out
          have l5 : b < wc.heap.size := World.block_lt_of_cell? _ _ c5
          have lB : w.heap.size < wc.heap.size := World.block_lt_of_cell? _ _ cB
          obtain ⟨cur, hcur, hfit, ho, hg⟩ := own_setRow (own_drewN hrow 1) (cs := ints rk) (by rw [ints_length]; exact hrkl)
          have HX := Lib.hid (St.copy (hst.below (Below.refl _ _).drew) hyi hg hrkl ho)
          have HCU := Lib.hid hcur
          have HG := Lib.hid hg
          have HRK2 := Lib.hid hrkl
          clear hst hln hyi htop hrow ho hg hcur h5 hrv hcell hcell3 ha1 hril hrkl
          go_region_law (first
            | (refine stepCopy (dT := 28) (sT := 28) (elem := 3) (n := j) (g := gy) (cs := ints rk) rfl rfl (by kernel_rfl) (by kernel_rfl) rfl rfl HCU.out (by rw [ints_length]; exact HRK2.out) (fun q u hq => by rw [add_none]; exact cell_below (HC3.out q u hq) HBW.out.drew) hfit (ints_cell rk) ?_))
          all_goals (
            go_wp2_with fail
            go_meet
            exact ⟨Lib.hid ⟨_, _, _, _, HX.out⟩, HBE.out.drew.grown HG.out (HBE.out.drew.size) (fun q e => by have e' : gy = q := (by simpa using e); omega)⟩)
        case rest =>
          obtain ⟨HST, hbel⟩ := hcut
          have HBW := Lib.hid (hb03.trans (hbel.mono hz3))
          have HBE := Lib.hid hbel
          obtain ⟨tv, vs1, sv, us, hst⟩ := HST.out
          have HS := Lib.hid hst
          obtain ⟨ct, _⟩ := hst.2.2.2.2.1
          have cs := hst.2.2.2.2.2.1
          have cB := cell_below c2B HBE.out
          obtain ⟨a1, q1, etv⟩ := own_form hst.1.top
          obtain ⟨a2, q2, esv⟩ := own_form hst.2.1.top
          rw [List.length_set, List.length_set, HN.out] at etv
          rw [List.length_set, HN.out] at esv
          subst etv esv
          have HV2 := Lib.hid (HS.out.1.rd)
          have HV3 := Lib.hid (HS.out.2.1.rd)
          clear hst
          have hw1 : IntKind.i64.wrap (-d) = -d := IntWalk.i64_in _ ⟨by omega, by omega⟩
          have hw2 : IntKind.i64.wrap (- -d) = d := by rw [Int.neg_neg]; exact IntWalk.i64_in _ ⟨by omega, by omega⟩
          have hdd : (d == d) = true := by simp
          go_wp2_with (first
            | (go_at_call 16; refine (HSN.out _).mono ?_; rintro e wk ⟨rfl, hbk⟩)
            | (go_at_call 17; with_reducible refine (HD1.out _ _ (HV.out.below HBW.out)).mono ?_; rintro e wa ⟨rfl, hka⟩; have ct1 := cell_below ct hka; have cs1 := cell_below cs hka; have HV4 := Lib.hid (HV2.out.below hka))
            | (go_at_call 17; with_reducible refine (HD2.out _ _ HV4.out).mono ?_; rintro e wb ⟨rfl, hkb'⟩; have cs2 := cell_below cs1 hkb'; have HV5 := Lib.hid (HV3.out.below (hka.trans (hkb'.mono hka.size))))
            | (go_at_call 17; with_reducible refine (HD3.out _ _ HV5.out).mono ?_; rintro e wd ⟨rfl, hkd⟩; have hkf := hka.trans ((hkb'.trans (hkd.mono hkb'.size)).mono hka.size)))
          go_ret
          exact ⟨rfl, HBW.out.trans ((hkf.trans (hbk.mono hkf.size)).mono HBW.out.size)⟩

end Go.Proofs.Ytnaoanmkepcinaa

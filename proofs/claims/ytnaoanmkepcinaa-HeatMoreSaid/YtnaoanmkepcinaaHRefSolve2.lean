/- Heat: solved, Det, Solve of the document's text. -/
import Derived.Test.YtnaoanmkepcinaaHRefSolve
namespace Go.Proofs.Ytnaoanmkepcinaa
open Go.RowKit

set_option maxRecDepth 100000 in
set_option maxHeartbeats 2000000 in
theorem solved_any (v wv : Value) (m : List (List Int)) (want : List Int) (w : World) (hv : RdM w v m) (hwv : Rd w wv (ints want)) (hq1 : vB m = true) (hq2 : lstB want m.length (-1000000) 1000000 = true) (hq3 : dt m.length m ≠ 0) :
    Calls Try.prog 66 #[.agg #[v], wv] w fun e w' => ∃ u, e = .returned u ∧ w'.ownsRow w.heap.size 69 2 u m.length (pairs (slv m want m.length)) ∧ Below w.heap.size w w' := by
  have HV := Lib.hid hv
  have HWV := Lib.hid hwv
  obtain ⟨h1, h2, h3⟩ := vB_bd hq1
  obtain ⟨g1, g2⟩ := lstB_bd hq2
  obtain ⟨vs, ⟨a, cap, rfl, hc, hcm, ha, _⟩, hr⟩ := hv
  obtain ⟨aw, capw, rfl, hcw, hcmw, haw, _⟩ := hwv
  rw [hr.1] at hc HV ⊢
  rw [ints_length, g1] at hcw HWV ⊢
  have hE := hr.1
  have HR := Lib.hid hr
  have HDT : Hid (∀ W, Below w.heap.size w W → Calls Try.prog 61 #[.slice a m.length cap] W fun e w' => e = .returned (.int .i64 (dt m.length m)) ∧ Below W.heap.size W w') := Lib.hid fun W hb => by
    obtain ⟨b1, b2, b3, b4, b5⟩ := rep_bd hq1
    exact refDet_any m.length m _ _ W b1 (HV.out.below hb) rfl b2 b3 b4 b5
  have HCD : Hid (∀ k W u, k < m.length → RdM W u (colm m k want m.length) → Calls Try.prog 61 #[u] W fun e w' => e = .returned (.int .i64 (dt m.length (colm m k want m.length))) ∧ Below W.heap.size W w') := Lib.hid fun k W u hk hu => by
    obtain ⟨b1, b2, b3, b4⟩ := cwt_bd hq1 hq2 k
    exact refDet_any m.length _ _ _ W h2 hu (colm_len _ _ _ _) b1 b2 b3 (b4 hk)
  have HCB : Hid (∀ k, k < m.length → -1000000000000000000 ≤ dt m.length (colm m k want m.length) ∧ dt m.length (colm m k want m.length) ≤ 1000000000000000000) := Lib.hid fun k hk => by
    obtain ⟨b1, b2, b3, b4⟩ := cwt_bd hq1 hq2 k
    have := (dt_bd m.length _ _ (colm_len _ _ _ _) b1 b2).1
    have := b4 hk
    omega
  have hdb : -1000000000000000000 ≤ dt m.length m ∧ dt m.length m ≤ 1000000000000000000 := by
    obtain ⟨b1, b2, b3, b4, b5⟩ := rep_bd hq1
    have := (dt_bd m.length m _ rfl b2 b3).1
    omega
  have HSL : Hid (∀ j, slv m want (j + 1) = _) := Lib.hid (slv_succ m want)
  have HGW : Hid (∀ j, j < m.length → ∃ x, want[j]? = some x ∧ want.getD j 0 = x) := Lib.hid fun j hj => ⟨_, List.getElem?_eq_getElem (by omega), by rw [List.getD_eq_getElem?_getD, List.getElem?_eq_getElem (by omega)]; rfl⟩
  have HGM : Hid (∀ j, j < m.length → ∃ r, m[j]? = some r ∧ m.getD j [] = r ∧ r.length = m.length) := Lib.hid fun j hj => by
    refine ⟨_, List.getElem?_eq_getElem hj, by rw [List.getD_eq_getElem?_getD, List.getElem?_eq_getElem hj]; rfl, (h3 _ (List.getElem_mem hj)).1⟩
  have hwl := Lib.hid g1
  generalize hd : dt m.length m = d at *
  clear hd hq1 hq2 h3 g2 hr g1
  generalize hN : m.length = N at *
  have HN := Lib.hid hN
  clear hN
  have hb0 : Hid (Below w.heap.size w (w.alloc (.cells #[.slice a N cap] 24))) := Lib.hid ((Below.refl _ _).alloc (Nat.le_refl _) _)
  have hcB : Hid ((w.alloc (.cells #[.slice a N cap] 24)).cell? ⟨w.heap.size, 0, none⟩ = some (.slice a N cap)) := Lib.hid (World.cell?_alloc_at _ _ _ _ rfl)
  go_enter Try.func66, Try.ntmps66
  go_wp2_with (first
    | (go_at_call 61; refine (HDT.out _ hb0.out).mono ?_; rintro e w1 ⟨rfl, hb1⟩; have hb01 := hb0.out.trans (hb1.mono hb0.out.size); have c1 := cell_below hcB.out hb1))
  have hz1 := hb01.size
  go_loopw [6, 7] (fun o i wr => ∃ k : Nat, k ≤ N ∧ i = .int .i64 k ∧ wr.ownsRow w1.heap.size 69 2 o k (pairs (slv m want k)) ∧ Below w1.heap.size w1 wr) (fun _ i _ => N - (intOf i).toNat)
  case atStart => exact ⟨0, Nat.zero_le _, rfl, World.ownsRow_nil _ _ _ _, Below.refl _ _⟩
  case round =>
    obtain ⟨k, hk, rfl, hown, hb4r⟩ := hrel
    have hbel := hb01.trans (hb4r.mono hz1)
    have cB := cell_below c1 hb4r
    by_cases hlt : k < N
    · obtain ⟨wo, hwo⟩ : ∃ wo, wo = wr := ⟨_, rfl⟩
      subst hwo
      have hkN : (k : Int) < N := by omega
      have hkN' : k < N := hlt
      go_wp2_with fail
      go_loopw [8, 9] (fun u i wr => ∃ j : Nat, j ≤ N ∧ i = .int .i64 j ∧ Hid (OwnM wr wo.heap.size u (colm m k want j)) ∧ Below wo.heap.size wo wr) (fun _ i _ => N - (intOf i).toNat)
      case atStart => exact ⟨0, Nat.zero_le _, rfl, Lib.hid (OwnM.nil _ _), Below.refl _ _⟩
      case round =>
        obtain ⟨j, hj, rfl, HO, hbi⟩ := hrel
        have hbw := hbel.trans (hbi.mono hbel.size)
        have cBi := cell_below cB hbi
        by_cases hjt : j < N
        · obtain ⟨r, hrr, hgr, hrl⟩ := HGM.out j hjt
          obtain ⟨x, hx, hgx⟩ := HGW.out j hjt
          obtain ⟨b, off, rfl, hcell⟩ := ha.cell (j := j) (by rw [hE]; exact hjt)
          obtain ⟨rv, hrv⟩ : ∃ rv, vs[j]? = some rv := ⟨_, List.getElem?_eq_getElem (by rw [hE]; exact hjt)⟩
          have HC5 := Lib.hid (hcell j _ hrv)
          have hR := HR.out.2 j rv r hrv hrr
          have HRW := Lib.hid hR
          obtain ⟨a1, cap1, rfl, hc1, hcm1, _, _⟩ := hR
          obtain ⟨b2, off2, rfl, hcell2⟩ := haw.cell (j := j) (by rw [ints_length, hwl.out]; exact hjt)
          have HC6 := Lib.hid (hcell2 j _ (ints_get hx))
          obtain ⟨y, hy⟩ : ∃ y, r[k]? = some y := ⟨_, List.getElem?_eq_getElem (by omega)⟩
          have HY := Lib.hid hy
          have HCS : Hid (colm m k want (j + 1) = colm m k want j ++ [r.set k x]) := Lib.hid (by rw [colm_succ, hgr, hgx])
          have HRL := Lib.hid hrl
          have HIS : Hid ((ints r).set k (.int .i64 x) = ints (r.set k x)) := Lib.hid (by simp [ints])
          rw [ints_length, hrl] at hc1 HC5 HRW
          have c5 := cell_below HC5.out hbw
          have hlt5 : b < wr.heap.size := World.block_lt_of_cell? _ _ c5
          have hltB : w.heap.size < wr.heap.size := World.block_lt_of_cell? _ _ cBi
          obtain ⟨os, ho1, ho2⟩ := HO.out
          have HO1 := Lib.hid ho1
          have HO2 := Lib.hid ho2
          have hcl : (colm m k want j).length ≤ 1000 := by rw [colm_len]; omega
          clear ho1 ho2 hcell hcell2 hrr hrv hx hy hgr hgx hrl
          go_wp2_with (first
            | (at_builtin; refine appS el_int rfl rfl (w0 := wr) rfl rfl (by exact (Below.refl _ _).alloc (Nat.le_refl _) _) (by exact own_lit wr wr.heap.size _ _ 0 (Nat.le_refl _) rfl (by decide)) (by exact HRW.out.below (hbw.alloc hbw.size _) (Nat.le_refl _)) (by exact ints_cell r) (by rw [ints_length, HRL.out]; omega) ?_; rw [ints_length, HRL.out, Nat.zero_add]; intro u1 w5 hu1 hb5 _; obtain ⟨g1, c1', rfl, hg1, _⟩ := own_some hu1 (by omega); have c7 : w5.cell? ⟨g1, k, none⟩ = some (.int .i64 y) := by { rw [hu1.cellAt k (by omega)]; exact ints_get HY.out }; have c8 : w5.frozen? ⟨g1, k, none⟩ = false := hu1.frozenAt k; have c9 := cell_below HC6.out (hbw.trans (hb5.mono hbw.size)); have HST := Lib.hid (hu1.stored k (.int .i64 x)); have HB6 := Lib.hid ((hbi.trans (hb5.mono hbi.size)).setCell (p := ⟨g1, k, none⟩) (Nat.le_trans hbi.size hg1) (.int .i64 x)); have HO6 := Lib.hid ((own_below HO1.out hb5).kept HST.out.2 (own_ne (own_below HO1.out hb5) hu1 (by decide))))
            | (at_builtin; refine app1 el_row rfl rfl (w0 := wo) rfl (by rw [show w5.heap.size = (w5.setCell ⟨g1, k, none⟩ (.int .i64 x)).heap.size from by simp]; rfl) (by exact HB6.out) (by exact HO6.out) rfl (by omega) ?_; intro v3 w7 ho7 hb7 hg7))
          have HX : Hid ((w5.setCell ⟨g1, k, none⟩ (.int .i64 x)).ownsRow wo.heap.size 3 1 (.slice (some ⟨g1, 0, none⟩) N c1') (r.set k x).length (ints (r.set k x))) := Lib.hid (by
            rw [List.length_set, HRL.out, ← HIS.out]
            exact own_le HST.out.1 hbi.size)
          go_roundw
          case rel => exact ⟨j + 1, by omega, by go_num, by rw [HCS.out]; exact Lib.hid (OwnM.snoc (HO6.out.alloc _) (fun i x r hx hr => ((own_below (HO2.out i x r hx hr) hb5).kept HST.out.2 (own_old (HO2.out i x r hx hr) hg1)).alloc _) (HX.out.alloc _) hg7 ho7), hb7⟩
          case measure => simp [intOf]; omega
        · obtain rfl : j = N := by omega
          have HSK := Lib.hid (HSL.out k)
          have HCD2 := Lib.hid (HCD.out k wr _ hkN' HO.out.rd)
          have hcb := HCB.out k hkN'
          have hown2 := own_below hown hbi
          generalize hdk : dt j (colm m k want j) = dk at *
          clear hdk
          go_wp2_with (first
            | (go_at_call 61; refine HCD2.out.mono ?_; rintro e w8 ⟨rfl, hb8⟩; have hbw8 := (hb4r.trans (hbi.mono hb4r.size)).trans (hb8.mono (Nat.le_trans hb4r.size hbi.size));  have HR8 := Lib.hid (refRatio_any dk d w8 hcb hdb hq3))
            | (go_at_call 81; refine HR8.out.mono ?_; rintro e w9 ⟨rfl, hb9⟩; have hbw9 := hbw8.trans (hb9.mono hbw8.size); have ho9 := own_below (own_below hown2 hb8) hb9)
            | (at_builtin; refine appK el_rat rfl rfl (w0 := w1) rfl rfl (by exact hbw9) (by exact ho9) rfl (by simp [Value.oneCell']) (by omega) ?_; intro v3 w10 ho10 hb10 hg10))
          go_roundw
          case rel => exact ⟨k + 1, by omega, by go_num, by rw [HSK.out, pairs_append]; exact ho10, hb10⟩
          case measure => simp [intOf]; omega
    · obtain rfl : k = N := by omega
      clear ha haw
      go_wp2_with fail
      go_ret
      exact ⟨_, rfl, own_le hown hz1, hbel⟩

theorem refDetD_any (v : Value) (m : List (List Int)) (w : World) (hv : RdM w v m) (hw : ∀ r ∈ m, r.length ≤ 10) :
    Calls Try.prog 22 #[.agg #[v]] w fun e w' => e = .returned (.tuple #[.int .i64 (detN m), .int .i64 (heatE m)]) ∧ Below w.heap.size w w' := by
  have HV := Lib.hid hv
  obtain ⟨vs, ⟨a, cap, rfl, hc, hcm, ha, _⟩, hr⟩ := hv
  rw [hr.1] at hc HV ⊢
  clear hr ha
  have hb0 : Hid (Below w.heap.size w (w.alloc (.cells #[.slice a m.length cap] 24))) := Lib.hid ((Below.refl _ _).alloc (Nat.le_refl _) _)
  have hcB : Hid ((w.alloc (.cells #[.slice a m.length cap] 24)).cell? ⟨w.heap.size, 0, none⟩ = some (.slice a m.length cap)) := Lib.hid (World.cell?_alloc_at _ _ _ _ rfl)
  have hcall := Lib.hid (fun W hb => refValid_any _ m W (HV.out.below (w' := W) hb) hw)
  have hbd := Lib.hid (@rep_bd m)
  cases hq : vB m with
  | true =>
    have h1 : detN m = dt m.length m := by simp [detN, hq]
    have h2 : heatE m = 0 := by simp [heatE, hq]
    rw [h1, h2]
    rw [hq] at hcall
    have HQ := Lib.hid hq
    have HD : Hid (∀ W, Below w.heap.size w W → Calls Try.prog 61 #[.slice a m.length cap] W fun e w' => e = .returned (.int .i64 (dt m.length m)) ∧ Below W.heap.size W w') := Lib.hid fun W hb => by
      obtain ⟨b1, b2, b3, b4, b5⟩ := hbd.out HQ.out
      exact refDet_any m.length m _ _ W b1 (HV.out.below hb) rfl b2 b3 b4 b5
    clear hq h1 h2 hw
    generalize dt m.length m = d at *
    generalize m.length = n at *
    go_enter Try.func22, Try.ntmps22
    go_wp2_with (first
      | (go_at_call 15; refine (hcall.out _ hb0.out).mono ?_; rintro e w1 ⟨rfl, hb1⟩; have hb01 := hb0.out.trans (hb1.mono hb0.out.size); have c1 := cell_below hcB.out hb1)
      | (go_at_call 61; refine (HD.out _ hb01).mono ?_; rintro e w2 ⟨rfl, hb2⟩))
    go_ret2
    exact ⟨rfl, hb01.trans (hb2.mono hb01.size)⟩
  | false =>
    have h1 : detN m = 0 := by simp [detN, hq]
    have h2 : heatE m = 60 := by simp [heatE, hq]
    rw [h1, h2]
    rw [hq] at hcall
    clear hq h1 h2 hw
    generalize m.length = n at *
    go_enter Try.func22, Try.ntmps22
    go_wp2_with (first
      | (go_at_call 15; refine (hcall.out _ hb0.out).mono ?_; rintro e w1 ⟨rfl, hb1⟩; have hb01 := hb0.out.trans (hb1.mono hb0.out.size)))
    go_ret2
    exact ⟨rfl, hb01⟩

set_option maxRecDepth 100000 in
set_option maxHeartbeats 2000000 in
theorem refSolve_any (v wv : Value) (m : List (List Int)) (want : List Int) (w : World) (hv : RdM w v m) (hwv : Rd w wv (ints want)) (hw : ∀ r ∈ m, r.length ≤ 10) (hq : want.length ≤ 1000) :
    Calls Try.prog 24 #[.agg #[v], wv] w fun e w' => ∃ u, e = .returned (.tuple #[u, .int .i64 (slvE m want)]) ∧ w'.ownsRow w.heap.size 69 2 u (slvL m want).length (pairs (slvL m want)) ∧ Below w.heap.size w w' := by
  have HV := Lib.hid hv
  have HWV := Lib.hid hwv
  have HE : Hid (slvE m want = if vB m then (if lstB want m.length (-1000000) 1000000 then (if dt m.length m = 0 then 61 else 0) else 2) else 60) := Lib.hid rfl
  have HL : Hid (slvL m want = if slvE m want = 0 then slv m want m.length else []) := Lib.hid rfl
  have hcall := Lib.hid (fun W hb => refValid_any _ m W (HV.out.below (w' := W) hb) hw)
  obtain ⟨vs, ⟨a, cap, rfl, hc, hcm, ha, _⟩, hr⟩ := hv
  obtain ⟨aw, capw, rfl, hcw, hcmw, haw, _⟩ := hwv
  rw [hr.1] at hc HV hcall ⊢
  rw [ints_length] at hcw HWV ⊢
  have hb0 : Hid (Below w.heap.size w (w.alloc (.cells #[.slice a m.length cap] 24))) := Lib.hid ((Below.refl _ _).alloc (Nat.le_refl _) _)
  have hcB : Hid ((w.alloc (.cells #[.slice a m.length cap] 24)).cell? ⟨w.heap.size, 0, none⟩ = some (.slice a m.length cap)) := Lib.hid (World.cell?_alloc_at _ _ _ _ rfl)
  have HPH := Lib.hid (fun W hb => isPhases_any m.length _ want W (HWV.out.below (w' := W) (B := w.heap.size) hb (Nat.le_refl _)) (by omega))
  clear ha haw hr
  generalize hE : slvE m want = E at *
  clear hE
  cases hq1 : vB m with
  | false =>
    rw [hq1] at hcall HE
    simp only [Bool.false_eq_true, if_false] at HE
    obtain rfl := HE.out
    rw [if_neg (by decide)] at HL
    rw [HL.out]
    clear hq1
    generalize m.length = N at *
    go_enter Try.func24, Try.ntmps24
    go_wp2_with (first
      | (go_at_call 15; refine (hcall.out _ hb0.out).mono ?_; rintro e w1 ⟨rfl, hb1⟩; have hb01 := hb0.out.trans (hb1.mono hb0.out.size)))
    go_ret2
    exact ⟨_, rfl, World.ownsRow_nil _ _ _ _, hb01⟩
  | true =>
    rw [hq1] at hcall HE
    simp only [if_true] at HE
    obtain ⟨b1, b2, b3, b4, b5⟩ := rep_bd hq1
    have HDT : Hid (∀ W, Below w.heap.size w W → Calls Try.prog 61 #[.slice a m.length cap] W fun e w' => e = .returned (.int .i64 (dt m.length m)) ∧ Below W.heap.size W w') := Lib.hid fun W hb => refDet_any m.length m _ _ W b1 (HV.out.below hb) rfl b2 b3 b4 b5
    cases hq2 : lstB want m.length (-1000000) 1000000 with
    | false =>
      rw [hq2] at HPH HE
      simp only [Bool.false_eq_true, if_false] at HE
      obtain rfl := HE.out
      rw [if_neg (by decide)] at HL
      rw [HL.out]
      clear hq1 hq2 b1 b2 b3 b4 b5 HDT
      generalize m.length = N at *
      go_enter Try.func24, Try.ntmps24
      go_wp2_with (first
        | (go_at_call 15; refine (hcall.out _ hb0.out).mono ?_; rintro e w1 ⟨rfl, hb1⟩; have hb01 := hb0.out.trans (hb1.mono hb0.out.size); have c1 := cell_below hcB.out hb1)
        | (go_at_call 65; refine (HPH.out _ hb01).mono ?_; rintro e w' ⟨rfl, rfl⟩))
      go_ret2
      exact ⟨_, rfl, World.ownsRow_nil _ _ _ _, hb01⟩
    | true =>
      rw [hq2] at HPH HE
      simp only [if_true] at HE
      by_cases hq3 : dt m.length m = 0
      · rw [if_pos hq3] at HE
        rw [hq3] at HDT
        obtain rfl := HE.out
        rw [if_neg (by decide)] at HL
        rw [HL.out]
        clear hq1 hq2 hq3 b1 b2 b3 b4 b5
        generalize m.length = N at *
        go_enter Try.func24, Try.ntmps24
        go_wp2_with (first
          | (go_at_call 15; refine (hcall.out _ hb0.out).mono ?_; rintro e w1 ⟨rfl, hb1⟩; have hb01 := hb0.out.trans (hb1.mono hb0.out.size); have c1 := cell_below hcB.out hb1)
          | (go_at_call 65; refine (HPH.out _ hb01).mono ?_; rintro e w' ⟨rfl, rfl⟩)
          | (go_at_call 61; refine (HDT.out _ hb01).mono ?_; rintro e w2 ⟨rfl, hb2⟩; have hb02 := hb01.trans (hb2.mono hb01.size)))
        go_ret2
        exact ⟨_, rfl, World.ownsRow_nil _ _ _ _, hb02⟩
      · rw [if_neg hq3] at HE
        obtain rfl := HE.out
        rw [if_pos rfl] at HL
        rw [HL.out, slv_len]
        have HSV := Lib.hid (fun W hb => solved_any _ _ m want W (HV.out.below (w' := W) hb) (HWV.out.below (w' := W) (B := w.heap.size) hb (Nat.le_refl _)) hq1 hq2 hq3)
        have hdz : (dt m.length m == 0) = false := by simpa using hq3
        generalize dt m.length m = d at *
        clear hq1 hq2 hq3 b1 b2 b3 b4 b5
        generalize m.length = N at *
        go_enter Try.func24, Try.ntmps24
        go_wp2_with (first
          | (go_at_call 15; refine (hcall.out _ hb0.out).mono ?_; rintro e w1 ⟨rfl, hb1⟩; have hb01 := hb0.out.trans (hb1.mono hb0.out.size); have c1 := cell_below hcB.out hb1)
          | (go_at_call 65; refine (HPH.out _ hb01).mono ?_; rintro e w' ⟨rfl, rfl⟩)
          | (go_at_call 61; refine (HDT.out _ hb01).mono ?_; rintro e w2 ⟨rfl, hb2⟩; have hb02 := hb01.trans (hb2.mono hb01.size); have c2 := cell_below c1 hb2)
          | (go_at_call 66; refine (HSV.out _ hb02).mono ?_; rintro e w3 ⟨u, rfl, hu, hb3⟩))
        go_ret2
        exact ⟨_, rfl, own_le hu hb02.size, hb02.trans (hb3.mono hb02.size)⟩

end Go.Proofs.Ytnaoanmkepcinaa

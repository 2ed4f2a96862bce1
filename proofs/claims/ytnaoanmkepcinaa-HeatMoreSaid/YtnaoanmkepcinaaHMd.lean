/- Heat: the law HeatMore where one step more is too much for a heater; the law. -/
import Derived.Test.YtnaoanmkepcinaaHMb
namespace Go.Proofs.Ytnaoanmkepcinaa
open Go.RowKit
/- what the second part of the law needs of a world -/
set_option maxRecDepth 100000 in
set_option maxHeartbeats 8000000 in
theorem more_over (u : Value) (m : List (List Int)) (x : Value) (S : List Int) (y : Value) (T : List Int) (a0 b0 c0 : Int) (k : Nat) (xk : Int) (w : World) (hv : RdM w u m) (hS : Rd w x (ints S)) (hT : Rd w y (ints T))
    (ha0 : 0 ≤ a0 ∧ a0 ≤ 255) (hb0' : 0 ≤ b0 ∧ b0 ≤ 255) (hc0' : 0 ≤ c0 ∧ c0 ≤ 255)
    (hq1 : wideB m = false) (hs20 : S.length ≤ 20) (hq2 : vB m = true) (htn : T.length = m.length) (hsn : S.length = m.length) (hl1 : lstB S m.length (-1000000) 1000000 = true) (hl2 : lstB T m.length 0 1000 = true)
    (hkN : k < m.length) (hka : a0.tmod (m.length : Int) = (k : Int)) (hxk : T[k]? = some xk) (hm : ¬ xk + 1 ≤ 1000) :
    Calls Try.prog 13 #[.agg #[u, x, y], .agg #[.int .u8 a0, .int .u8 b0, .int .u8 c0]] w fun e w' => e = .returned (.bool true) ∧ Below w.heap.size w w' := by
  have HV := Lib.hid hv
  have HS := Lib.hid hS
  have HT := Lib.hid hT
  have HSN := Lib.hid (fun W => sane_any W)
  have HWD := Lib.hid (fun W hb => wide_any _ m W (HV.out.below (w' := W) hb))
  rw [hq1] at HWD
  obtain ⟨h1, h2⟩ := wideB_bd hq1
  have HVD := Lib.hid (fun W hb => refValid_any _ m W (HV.out.below (w' := W) hb) h2)
  rw [hq2] at HVD
  obtain ⟨vs, ⟨a, cap, rfl, hc, hcm, ha, _⟩, hr⟩ := hv
  obtain ⟨ab, capb, rfl, hcb, hcmb, hab, _⟩ := hS
  obtain ⟨aw, capw, rfl, hcw, hcmw, haw, _⟩ := hT
  rw [hr.1] at HV HWD HVD hc ⊢
  rw [ints_length, hsn] at hcb HS ⊢
  rw [ints_length, htn] at hcw HT ⊢
  obtain ⟨W0, hW0⟩ : ∃ W0, (w.alloc (.cells #[.slice a m.length cap, .slice ab m.length capb, .slice aw m.length capw] 53)).alloc (.cells #[.int .u8 a0, .int .u8 b0, .int .u8 c0] 64) = W0 := ⟨_, rfl⟩
  have hb0 : Below w.heap.size w W0 := by rw [← hW0]; exact ((Below.refl _ _).alloc (Nat.le_refl _) _).alloc (by simp) _
  have c0' : W0.cell? ⟨w.heap.size, 0, none⟩ = some (.slice a m.length cap) := by rw [← hW0]; exact cell_alloc (World.cell?_alloc_at _ _ _ _ rfl) _
  have c1' : W0.cell? ⟨w.heap.size, 1, none⟩ = some (.slice ab m.length capb) := by rw [← hW0]; exact cell_alloc (World.cell?_alloc_at _ _ _ _ rfl) _
  have c2' : W0.cell? ⟨w.heap.size, 2, none⟩ = some (.slice aw m.length capw) := by rw [← hW0]; exact cell_alloc (World.cell?_alloc_at _ _ _ _ rfl) _
  have cA' : W0.cell? ⟨w.heap.size + 1, 0, none⟩ = some (.int .u8 a0) := by rw [← hW0]; exact World.cell?_alloc_at _ _ _ _ (by simp)
  have cB' : W0.cell? ⟨w.heap.size + 1, 1, none⟩ = some (.int .u8 b0) := by rw [← hW0]; exact World.cell?_alloc_at _ _ _ _ (by simp)
  have cC' : W0.cell? ⟨w.heap.size + 1, 2, none⟩ = some (.int .u8 c0) := by rw [← hW0]; exact World.cell?_alloc_at _ _ _ _ (by simp)
  obtain ⟨h4, h5, h3⟩ := vB_bd hq2
  obtain ⟨g1, g2⟩ := lstB_bd hl1
  obtain ⟨p1, p2⟩ := lstB_bd hl2
  have hx2 := p2 xk (List.mem_of_getElem? hxk)
  have hE1 : psE m S T = 0 := by rw [psE_val hq2 hl1, hl2]; rfl
  have hE2 : psE m S (T.set k (xk + 1)) = 2 := by rw [psE_val hq2 hl1, lst_set hl2 hxk]; simp [hm]
  have hE3 : psE m S (List.replicate m.length 0) = 0 := by rw [psE_val hq2 hl1, lst_zero]; rfl
  have H1 := Lib.hid (fun W hb => Phases_any _ _ _ m S T W (HV.out.below (w' := W) hb) (HS.out.below (w' := W) (B := w.heap.size) hb (Nat.le_refl _)) (HT.out.below (w' := W) (B := w.heap.size) hb (Nat.le_refl _)) h1 h2 (by omega) (by omega))
  rw [hE1, show phA m S T = phL m S T m.length by unfold phA; rw [if_pos hE1], phL_len] at H1
  have H2 := Lib.hid (fun W v hb hp => Phases_any (.slice a m.length cap) (.slice ab m.length capb) v m S (T.set k (xk + 1)) W (HV.out.below (w' := W) hb) (HS.out.below (w' := W) (B := w.heap.size) hb (Nat.le_refl _)) hp h1 h2 (by omega) (by rw [List.length_set]; omega))
  rw [hE2, show phA m S (T.set k (xk + 1)) = [] by unfold phA; rw [if_neg (by rw [hE2]; decide)]] at H2
  have H3 := Lib.hid (fun W v hb hp => Phases_any (.slice a m.length cap) (.slice ab m.length capb) v m S (List.replicate m.length 0) W (HV.out.below (w' := W) hb) (HS.out.below (w' := W) (B := w.heap.size) hb (Nat.le_refl _)) hp h1 h2 (by omega) (by simp; omega))
  rw [hE3, show phA m S (List.replicate m.length 0) = phL m S (List.replicate m.length 0) m.length by unfold phA; rw [if_pos hE3], phL_len] at H3
  have HCH := Lib.hid (fun s t W hb => Cheapest_any _ _ m S s t W (HV.out.below (w' := W) hb) (HS.out.below (w' := W) (B := w.heap.size) hb (Nat.le_refl _)) h1 h2 (by omega))
  have HCB : Hid (∀ s t : Int, m.length ≤ 3 → 0 ≤ s → s ≤ 1000000 → 0 ≤ t → t ≤ 20 → chE m S s t = (if (chO m S s t.toNat).isNone then 62 else 0) ∧ chR m S s t = (chO m S s t.toNat).getD []) := Lib.hid fun s t n3 q1 q2 q3 q4 => by
    have hb : chB m S s t = true := by
      unfold chB
      rw [hq2, hl1, (inB_iff _ _ _).2 ⟨q1, q2⟩, (inB_iff _ _ _).2 ⟨q3, q4⟩, decide_eq_false (by omega)]
      rfl
    exact ⟨(chB_ok hb).2.2.2.2.2.1, (chB_ok hb).2.2.2.2.2.2⟩
  have HSU : Hid (∀ (s t : Int) (q : List Int) (v : Value) (W : World), t ≤ 20 → chO m S s t.toNat = some q → Rd W v (ints q) → Calls Try.prog 46 #[v] W fun e w' => e = .returned (.int .i64 q.sum) ∧ W = w') := Lib.hid fun s t q v W ht hq hr => by
    obtain ⟨q1, q2⟩ := listsP_mem _ _ _ (chO_mem hq)
    exact lawSum_any v q W hr (by omega) (fun z hz => by have := q2 z hz; omega)
  have HGB : Hid (∀ j, j < m.length → ∃ z, S[j]? = some z ∧ S.getD j 0 = z ∧ -1000000 ≤ z ∧ z ≤ 1000000) := Lib.hid fun j hj =>
    have hj2 : j < S.length := by omega
    ⟨_, List.getElem?_eq_getElem hj2, by rw [List.getD_eq_getElem?_getD, List.getElem?_eq_getElem hj2]; rfl, g2 _ (List.getElem_mem hj2)⟩
  have HGM : Hid (∀ i, i < m.length → ∃ r z, m[i]? = some r ∧ r.length = m.length ∧ r[k]? = some z ∧ at2 m i k = z ∧ -200 ≤ z ∧ z ≤ 200) := Lib.hid fun i hi => by
    have hrl := h3 _ (List.getElem_mem hi)
    have hk2 : k < m[i].length := by rw [hrl.1]; exact hkN
    refine ⟨_, _, List.getElem?_eq_getElem hi, hrl.1, List.getElem?_eq_getElem hk2, ?_, hrl.2 _ (List.getElem_mem hk2)⟩
    unfold at2
    rw [List.getD_eq_getElem?_getD, List.getD_eq_getElem?_getD, List.getElem?_eq_getElem hi, Option.getD_some, List.getElem?_eq_getElem hk2]; rfl
  have HP1 : Hid (∀ i, i < m.length → (ints (phL m S T m.length))[i]? = some (.int .i64 (ph (S.getD i 0) (hs m T i m.length)))) := Lib.hid fun i hi => ints_get (phL_get hi)
  have HP2 : Hid (∀ i, i < m.length → (ints (phL m S (T.set k (xk + 1)) m.length))[i]? = some (.int .i64 (ph (S.getD i 0) (hs m T i m.length + at2 m i k)))) := Lib.hid fun i hi => by
    have := ints_get (phL_get (m := m) (base := S) (pw := T.set k (xk + 1)) hi)
    rwa [hs_set hxk, if_pos hkN] at this
  have HP3 : Hid (∀ i, i < m.length → (ints (phL m S (List.replicate m.length 0) m.length))[i]? = some (.int .i64 (ph (S.getD i 0) 0))) := Lib.hid fun i hi => by
    have := ints_get (phL_get (m := m) (base := S) (pw := List.replicate m.length 0) hi)
    rwa [hs_zero] at this
  have hE := hr.1
  have HR := Lib.hid hr
  obtain ⟨Z, hmk, hZ⟩ := make_run m.length (by omega)
  have HZ := Lib.hid hZ
  have HTX := Lib.hid (ints_get hxk)
  have HTS : Hid ((ints T).set k (.int .i64 (xk + 1)) = ints (T.set k (xk + 1))) := Lib.hid (by simp [ints])
  have hwx : IntKind.i64.wrap (xk + 1) = xk + 1 := IntWalk.i64_in _ ⟨by omega, by omega⟩
  have hbl := Lib.hid hsn
  have HTL := Lib.hid htn
  clear hq1 hq2 h2 hl1 hl2 hE1 hE2 hE3 h3 g1 g2 p1 p2 hxk hr hZ haw
  generalize hN : m.length = N at *
  have HNN := Lib.hid hN
  clear hN
  have hNz : ((N : Int) == 0) = false := by simp; omega
  go_enter Try.func13, Try.ntmps13
  go_wp2_with (first
    | (go_at_call 14; refine (HWD.out _ hb0).mono ?_; rintro e w1 ⟨rfl, hb1⟩; have hb01 := hb0.trans (hb1.mono hb0.size); have d0 := cell_below c0' hb1; have d1 := cell_below c1' hb1; have d2 := cell_below c2' hb1; have dA := cell_below cA' hb1; have dB := cell_below cB' hb1; have dC := cell_below cC' hb1)
    | (go_at_call 15; refine (HVD.out _ hb01).mono ?_; rintro e w2 ⟨rfl, hb2⟩; have hb02 := hb01.trans (hb2.mono hb01.size); have e0 := cell_below d0 hb2; have e1 := cell_below d1 hb2; have e2 := cell_below d2 hb2; have eA := cell_below dA hb2; have eB := cell_below dB hb2; have eC := cell_below dC hb2)
    | (go_at_call 31; (with_reducible refine (H1.out _ hb02).mono ?_); rintro e w3 ⟨u3, rfl, hu3, hb3⟩; obtain ⟨g3, c3, rfl, hg3, _⟩ := own_some hu3 (by omega); have hb03 := hb02.trans (hb3.mono hb02.size); have f0 := cell_below e0 hb3; have f1 := cell_below e1 hb3; have f2 := cell_below e2 hb3; have fA := cell_below eA hb3; have fB := cell_below eB hb3; have fC := cell_below eC hb3; have lf : w.heap.size < w3.heap.size := World.block_lt_of_cell? _ _ f0; clear hb02)
    | (at_builtin; refine appS el_int rfl rfl (w0 := w3) rfl rfl (by exact (Below.refl _ _).alloc (Nat.le_refl _) _) (by exact own_lit w3 w3.heap.size _ _ 0 (Nat.le_refl _) rfl (by decide)) (by exact HT.out.below (hb03.alloc hb03.size _) (Nat.le_refl _)) (by exact ints_cell _) (by rw [ints_length, HTL.out]; omega) ?_; rw [ints_length, HTL.out, Nat.zero_add]; intro v4 w4 ho4 hb4 hg4; obtain ⟨g, cg, rfl, hgl, hgl2⟩ := own_some ho4 (by omega); have c7 : w4.cell? ⟨g, k, none⟩ = some (.int .i64 xk) := by { rw [ho4.cellAt k (by omega)]; exact HTX.out }; have c8 : w4.frozen? ⟨g, k, none⟩ = false := ho4.frozenAt k; have HST := Lib.hid (ho4.stored k (.int .i64 (xk + 1))); have hb5 : Below w3.heap.size w3 (w4.setCell ⟨g, k, none⟩ (.int .i64 (xk + 1))) := hb4.setCell (p := ⟨g, k, none⟩) hgl _; have hb05 := hb03.trans (hb5.mono hb03.size); have m0 := cell_below f0 hb5; have m1 := cell_below f1 hb5; have m2 := cell_below f2 hb5; have mA := cell_below fA hb5; have mB := cell_below fB hb5; have mC := cell_below fC hb5; have HMO : Hid ((w4.setCell ⟨g, k, none⟩ (.int .i64 (xk + 1))).ownsRow w3.heap.size 3 1 (.slice (some ⟨g, 0, none⟩) N cg) N (ints (T.set k (xk + 1)))) := Lib.hid (by rw [← HTS.out]; exact HST.out.1))
    | (go_at_call 31; (with_reducible refine (H2.out _ _ hb05 (Rd.own HMO.out)).mono ?_); rintro e w6 ⟨u6, rfl, hu6, hb6⟩; obtain ⟨a6, c6, rfl⟩ := own_form hu6; have hb06 := hb05.trans (hb6.mono hb05.size); have n0 := cell_below m0 hb6; have n1 := cell_below m1 hb6; have n2 := cell_below m2 hb6; have nA := cell_below mA hb6; have nB := cell_below mB hb6; have nC := cell_below mC hb6; clear hb05 m0 m1))
  have HC0 := Lib.hid n0
  have HC1 := Lib.hid n1
  have HB6 := Lib.hid hb06
  have HZR : Hid (∀ W : World, W.heap = (w6.alloc (.cells Z 3)).heap → Rd W (.slice (some ⟨w6.heap.size, 0, none⟩) N N) (ints (List.replicate N 0))) := Lib.hid fun W e => Rd.own (B := w6.heap.size) (n := N) (e := 3) (by
    have h := HZ.out w6
    unfold World.ownsRow at h ⊢
    rw [e]; exact h)
  have H3b := Lib.hid (fun W (hb : Hid (Below w6.heap.size w6 W)) (e : W.heap = (w6.alloc (.cells Z 3)).heap) => H3.out W _ (HB6.out.trans (hb.out.mono HB6.out.size)) (HZR.out W e))
  go_region_held3 (fun w' => w'.cell? ⟨w.heap.size, 0, none⟩ = some (.slice a N cap) ∧ w'.cell? ⟨w.heap.size, 1, none⟩ = some (.slice ab N capb) ∧ Hid (Below w6.heap.size w6 w'))
    (first | exact keepS2 hbk (by assumption) | exact ⟨HC0.out, HC1.out, Lib.hid (Below.refl _ _).drew⟩ | exact keepA _ (by assumption))
    (first
      | (go_at_call 31; refine (H3b.out _ (And.right (And.right (by assumption))) (by rfl)).mono ?_; rintro e wk ⟨u7, rfl, hu7, hbk⟩))
  have hS : wk.cell? ⟨w.heap.size, 0, none⟩ = some (.slice a N cap) ∧ wk.cell? ⟨w.heap.size, 1, none⟩ = some (.slice ab N capb) ∧ Hid (Below w6.heap.size w6 wk) := by assumption
  obtain ⟨g7, c7', rfl, hg7, _⟩ := own_some hu7 (by omega)
  have hb6k := hS.2.2.out
  have hb0k := HB6.out.trans (hb6k.mono HB6.out.size)
  have hz0k := hb0k.size
  have o3 := own_below (own_below (own_below hu3 hb5) hb6) hb6k
  have o4 := own_below (own_below HMO.out hb6) hb6k
  skip
  have o7 := hu7
  have kk : wk.cell? ⟨g, k, none⟩ = some (.int .i64 (xk + 1)) := by rw [o4.cellAt k (by omega), ← HTS.out]; simp [ints, HTL.out, hkN]
  have k0 := hS.1
  have k1 := hS.2.1
  have kB := cell_below nB hb6k
  have kC := cell_below nC hb6k
  have hnn : ((N : Int) != (N : Int)) = false := by simp
  have hkI : (k : Int) < (N : Int) := by omega
  clear hS hu3 hu6 hu7 hb1 hb2 hb3 hb4 hb5 hb6 hbk hb01 hb03 hb06 d0 d1 d2 dA dB dC e0 e1 e2 eA eB eC f0 f1 f2 fA fB fC m2 mA mB mC n0 n1 n2 nA nB nC ho4 c7 c8 hb0 c0' c1' c2' cA' cB' cC'
  go_wp2_with fail
  go_loopw [14] (fun i wr => ∃ j : Nat, j ≤ N ∧ i = .int .i64 j ∧ Below wk.heap.size wk wr) (fun i _ => N - (intOf i).toNat)
  case atStart => exact ⟨0, Nat.zero_le _, rfl, Below.refl _ _⟩
  case round =>
    obtain ⟨j, hj, rfl, hbr⟩ := hrel
    have hbw := hb0k.trans (hbr.mono hz0k)
    by_cases hlt : j < N
    · obtain ⟨sI, hsS, hgs, hs1, hs2⟩ := HGB.out j hlt
      obtain ⟨r, z, hrr, hrl, hrz, haz, hz1, hz2⟩ := HGM.out j hlt
      obtain ⟨b1, off1, rfl, hcell1⟩ := (hab.below hbw (Nat.le_refl _)).cell (j := j) (by rw [ints_length, hbl.out]; exact hlt)
      have q1 := hcell1 j _ (ints_get hsS)
      obtain ⟨b2, off2, rfl, hcell2⟩ := (ha.below hbw (Nat.le_refl _)).cell (j := j) (by rw [hE]; exact hlt)
      obtain ⟨rv, hrv⟩ : ∃ rv, vs[j]? = some rv := ⟨_, List.getElem?_eq_getElem (by rw [hE]; exact hlt)⟩
      have q2 := hcell2 j _ hrv
      obtain ⟨a9, cap9, rfl, hc9, hcm9, ha9, _⟩ := HR.out.2 j rv r hrv hrr
      rw [ints_length, hrl] at hc9 q2
      obtain ⟨b3, off3, rfl, hcell3⟩ := (ha9.below hbw (Nat.le_refl _)).cell (j := k) (by rw [ints_length, hrl]; exact hkN)
      have q3 := hcell3 k _ (ints_get hrz)
      have rA : wr.cell? ⟨g3, j, none⟩ = some (.int .i64 (ph (S.getD j 0) (hs m T j N))) := by rw [(own_below o3 hbr).cellAt j (by omega)]; exact HP1.out j hlt
      have rC : wr.cell? ⟨g7, j, none⟩ = some (.int .i64 (ph (S.getD j 0) 0)) := by rw [(own_below o7 hbr).cellAt j (by omega)]; exact HP3.out j hlt

      have v0 := cell_below k0 hbr
      have v1 := cell_below k1 hbr
      have hbA := ph_bd (S.getD j 0) (hs m T j N)
      have hbC := ph_bd (S.getD j 0) 0
      have hC0 := ph_none (S.getD j 0)

      rw [hgs] at rA rC hbA hbC hC0
      generalize ph sI (hs m T j N) = A at *
      generalize ph sI 0 = C at *
      have hw3 : IntKind.i64.wrap (C - sI) = C - sI := IntWalk.i64_in _ ⟨by omega, by omega⟩
      have hjI : (j : Int) < (N : Int) := by omega
      have hzz : ((0 : Int) != 0) = false := rfl
      have HBR := Lib.hid hbr
      clear hcell1 hcell2 hcell3 hsS hgs hrr hrl hrz haz hrv ha9 hbr hbw
      go_wp2_with fail
      go_quiet (fail)
      go_wp2_with fail
      go_roundw
      case rel => exact ⟨j + 1, by omega, by go_num, bel_drewN HBR.out _⟩
      case measure => simp [intOf]; omega
    · obtain rfl : j = N := by omega
      have v0 := cell_below k0 hbr
      have v1 := cell_below k1 hbr
      have vB := cell_below kB hbr
      have vC := cell_below kC hbr
      have HBW := Lib.hid hbw
      have hwB : IntKind.i64.wrap b0 = b0 := IntWalk.i64_in _ ⟨by omega, by omega⟩
      have hwC : IntKind.i64.wrap c0 = c0 := IntWalk.i64_in _ ⟨by omega, by omega⟩
      have hw100 : IntKind.i64.wrap (100 * b0) = 100 * b0 := IntWalk.i64_in _ ⟨by omega, by omega⟩
      have htt0 : 0 ≤ c0.tmod 10 ∧ c0.tmod 10 ≤ 9 := by rw [Int.tmod_eq_emod_of_nonneg hc0'.1]; omega
      obtain ⟨tt, htt⟩ : ∃ tt, c0.tmod 10 = tt := ⟨_, rfl⟩
      rw [htt] at htt0
      by_cases hn3 : 3 < j
      · have hn3' : (3 : Int) < (j : Int) := by omega
        clear hbr hbw ha hab
        go_wp2_with (first
          | (go_at_call 16; refine (HSN.out _).mono ?_; rintro e w9 ⟨rfl, hb9⟩))
        go_ret
        exact ⟨rfl, HBW.out.trans (hb9.mono HBW.out.size)⟩
      · have hn3' : ¬ (3 : Int) < (j : Int) := by omega
        have hw50 : IntKind.i64.wrap (100 * b0 + 50) = 100 * b0 + 50 := IntWalk.i64_in _ ⟨by omega, by omega⟩
        have hwt2 : IntKind.i64.wrap (tt + 2) = tt + 2 := IntWalk.i64_in _ ⟨by omega, by omega⟩
        have HB1 := Lib.hid (HCB.out (100 * b0) tt (by omega) (by omega) (by omega) (by omega) (by omega))
        have HB2 := Lib.hid (HCB.out (100 * b0 + 50) tt (by omega) (by omega) (by omega) (by omega) (by omega))
        have HB3 := Lib.hid (HCB.out (100 * b0) (tt + 2) (by omega) (by omega) (by omega) (by omega) (by omega))
        cases hp : chO m S (100 * b0) tt.toNat with
        | none =>
          have HC1 := Lib.hid (fun W hb => HCH.out (100 * b0) tt W hb)
          rw [HB1.out.1, HB1.out.2, hp] at HC1
          clear hbr hbw ha hab hp
          go_wp2_with fail
          go_quiet (fail)
          go_wp2_with (first
            | (go_at_call 44; refine (HC1.out _ (bel_drewN HBW.out _)).mono ?_; rintro e w8 ⟨u8, rfl, hu8, hb8⟩; have hb08 := (bel_drewN HBW.out nq).trans (hb8.mono HBW.out.size))
            | (go_at_call 16; refine (HSN.out _).mono ?_; rintro e w9 ⟨rfl, hb9⟩))
          go_ret
          exact ⟨rfl, hb08.trans (hb9.mono hb08.size)⟩
        | some p =>
          obtain ⟨q, hq, hle1⟩ := chO_mono (s' := 100 * b0 + 50) (t' := tt.toNat) hp (by omega) (Nat.le_refl _)
          obtain ⟨s, hs, hle2⟩ := chO_mono (s' := 100 * b0) (t' := (tt + 2).toNat) hp (Int.le_refl _) (by omega)
          have HC1 := Lib.hid (fun W hb => HCH.out (100 * b0) tt W hb)
          rw [HB1.out.1, HB1.out.2, hp] at HC1
          have HC2 := Lib.hid (fun W hb => HCH.out (100 * b0 + 50) tt W hb)
          rw [HB2.out.1, HB2.out.2, hq] at HC2
          have HC3 := Lib.hid (fun W hb => HCH.out (100 * b0) (tt + 2) W hb)
          rw [HB3.out.1, HB3.out.2, hs] at HC3
          have HSp := Lib.hid (fun v W hr => HSU.out (100 * b0) tt p v W (by omega) hp hr)
          have HSq := Lib.hid (fun v W hr => HSU.out (100 * b0 + 50) tt q v W (by omega) hq hr)
          have HSs := Lib.hid (fun v W hr => HSU.out (100 * b0) (tt + 2) s v W (by omega) hs hr)
          clear hbr hbw ha hab hp hq hs
          go_wp2_with fail
          go_quiet (fail)
          go_wp2_with (first
            | (go_at_call 44; (with_reducible refine (HC1.out _ (bel_drewN HBW.out _)).mono ?_); rintro e w8 ⟨u8, rfl, hu8, hb8⟩; have hb08 := (bel_drewN HBW.out nq).trans (hb8.mono HBW.out.size); have x0 : w8.cell? ⟨w.heap.size, 0, none⟩ = some (.slice a j cap) := cell_below v0 (bel_drewN (Below.refl _ _) nq |>.trans hb8); have x1 : w8.cell? ⟨w.heap.size, 1, none⟩ = some (.slice ab j capb) := cell_below v1 (bel_drewN (Below.refl _ _) nq |>.trans hb8))
            | (go_at_call 44; (with_reducible refine (HC2.out _ hb08).mono ?_); rintro e w9 ⟨u9, rfl, hu9, hb9⟩; have hb09 := hb08.trans (hb9.mono hb08.size); have y0 := cell_below x0 hb9; have y1 := cell_below x1 hb9)
            | (go_at_call 44; (with_reducible refine (HC3.out _ hb09).mono ?_); rintro e wa ⟨ua, rfl, hua, hba⟩; have hb0a := hb09.trans (hba.mono hb09.size); have hu8a := (hu8.below hb9 (Nat.le_refl _)).below hba (Nat.le_refl _); have hu9a := hu9.below hba (Nat.le_refl _); have HS8 := Lib.hid (HSp.out u8 wa hu8a); have HS9 := Lib.hid (HSq.out u9 wa hu9a); have HSA := Lib.hid (HSs.out ua wa hua))
            | (go_at_call 46; (with_reducible refine HS9.out.mono ?_); rintro e w' ⟨rfl, rfl⟩)
            | (go_at_call 46; (with_reducible refine HS8.out.mono ?_); rintro e w' ⟨rfl, rfl⟩)
            | (go_at_call 46; (with_reducible refine HSA.out.mono ?_); rintro e w' ⟨rfl, rfl⟩)
            | (go_at_call 16; refine (HSN.out _).mono ?_; rintro e wb ⟨rfl, hbb⟩))
          go_ret
          exact ⟨rfl, hb0a.trans (hbb.mono hb0a.size)⟩

theorem law_more (u : Value) (m : List (List Int)) (x : Value) (S : List Int) (y : Value) (T : List Int) (a0 b0 c0 : Int) (w : World) (hv : RdM w u m) (_ : ∀ r ∈ m, ∀ x ∈ r, (Lit.int .i64 x).wf = true)
    (hS : Rd w x (ints S)) (_ : ∀ x ∈ S, (Lit.int .i64 x).wf = true) (hT : Rd w y (ints T)) (_ : ∀ x ∈ T, (Lit.int .i64 x).wf = true) (hwa : (Lit.int .u8 a0).wf = true) (hwb : (Lit.int .u8 b0).wf = true) (hwc : (Lit.int .u8 c0).wf = true) :
    Calls Try.prog 13 #[.agg #[u, x, y], .agg #[.int .u8 a0, .int .u8 b0, .int .u8 c0]] w fun e w' => e = .returned (.bool true) ∧ Below w.heap.size w w' := by
  have ha0 : 0 ≤ a0 ∧ a0 ≤ 255 := by simpa [Lit.wf, IntKind.min, IntKind.max, IntKind.signed, IntKind.bits] using hwa
  have hb0 : 0 ≤ b0 ∧ b0 ≤ 255 := by simpa [Lit.wf, IntKind.min, IntKind.max, IntKind.signed, IntKind.bits] using hwb
  have hc0 : 0 ≤ c0 ∧ c0 ≤ 255 := by simpa [Lit.wf, IntKind.min, IntKind.max, IntKind.signed, IntKind.bits] using hwc
  by_cases hne : wideB m = false ∧ S.length ≤ 20 ∧ T.length ≤ 20 ∧ vB m = true ∧ T.length = m.length ∧ S.length = m.length
  · obtain ⟨q1, q2, q3, q4, q5, q6⟩ := hne
    rcases psE_two (base := S) (pw := T) q4 with hE | hE
    · obtain ⟨_, l1, l2⟩ := psE_ok hE
      obtain ⟨d1, _, _⟩ := vB_bd q4
      obtain ⟨k, hk⟩ : ∃ k : Nat, k = a0.toNat % m.length := ⟨_, rfl⟩
      have hkN : k < m.length := by rw [hk]; exact Nat.mod_lt _ (by omega)
      have hka : a0.tmod (m.length : Int) = (k : Int) := by rw [hk]; conv => lhs; rw [show a0 = (a0.toNat : Int) by omega]
                                                            rfl
      obtain ⟨xk, hxk⟩ : ∃ xk, T[k]? = some xk := ⟨_, List.getElem?_eq_getElem (by omega)⟩
      by_cases hm : xk + 1 ≤ 1000
      · exact more_in u m x S y T a0 b0 c0 k xk w hv hS hT ha0 hb0 hc0 q1 q2 q4 q5 q6 l1 l2 hkN hka hxk hm
      · exact more_over u m x S y T a0 b0 c0 k xk w hv hS hT ha0 hb0 hc0 q1 q2 q4 q5 q6 l1 l2 hkN hka hxk hm
    · exact more_two u m x S y T a0 b0 c0 w hv hS hT q1 q2 q4 q5 q6 hE
  · exact more_out u m x S y T a0 b0 c0 w hv hS hT hne

end Go.Proofs.Ytnaoanmkepcinaa

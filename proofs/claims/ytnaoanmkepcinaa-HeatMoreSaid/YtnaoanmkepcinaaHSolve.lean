/- Heat: Solve (the program's). -/
import Derived.Test.YtnaoanmkepcinaaHApp
namespace Go.Proofs.Ytnaoanmkepcinaa
open Go.RowKit

/-- the solution; its error -/
def slv (m : List (List Int)) (want : List Int) (j : Nat) : List (Int × Int) :=
  (List.range j).map fun k => (rN (dt m.length (colm m k want m.length)) (dt m.length m), rD (dt m.length (colm m k want m.length)) (dt m.length m))
theorem slv_len (m : List (List Int)) (want : List Int) (j : Nat) : (slv m want j).length = j := by simp [slv]
theorem slv_succ (m : List (List Int)) (want : List Int) (j : Nat) : slv m want (j + 1) = slv m want j ++ [(rN (dt m.length (colm m j want m.length)) (dt m.length m), rD (dt m.length (colm m j want m.length)) (dt m.length m))] := by
  unfold slv; rw [List.range_succ, List.map_append]; rfl
def slvE (m : List (List Int)) (want : List Int) : Int :=
  if vB m then (if lstB want m.length (-1000000) 1000000 then (if dt m.length m = 0 then 61 else 0) else 2) else 60
def slvL (m : List (List Int)) (want : List Int) : List (Int × Int) := if slvE m want = 0 then slv m want m.length else []

/-- what was owned before lies in no younger block -/
theorem own_old {w : World} {B n : Nat} {e : TypeId} {s : Nat} {v : Value} {xs : List Value} (h : w.ownsRow B e s v n xs) {g : Nat} (hg : w.heap.size ≤ g) : v.ownBlock = none ∨ v.ownBlock ≠ some g := by
  refine .inr fun e => ?_
  have := (h.lt g e).2
  omega

set_option maxRecDepth 100000 in
set_option maxHeartbeats 2000000 in
theorem Solve_ok (v wv : Value) (m : List (List Int)) (want : List Int) (w : World) (hv : RdM w v m) (hwv : Rd w wv (ints want)) (hq1 : vB m = true) (hq2 : lstB want m.length (-1000000) 1000000 = true) (hq3 : dt m.length m ≠ 0) :
    Calls Try.prog 23 #[.agg #[v], wv] w fun e w' => ∃ u, e = .returned (.tuple #[u, .int .i64 0]) ∧ w'.ownsRow w.heap.size 69 2 u m.length (pairs (slv m want m.length)) ∧ Below w.heap.size w w' := by
  have HV := Lib.hid hv
  have HWV := Lib.hid hwv
  obtain ⟨h1, h2, h3⟩ := vB_bd hq1
  obtain ⟨g1, g2⟩ := lstB_bd hq2
  obtain ⟨vs, ⟨a, cap, rfl, hc, hcm, ha, _⟩, hr⟩ := hv
  obtain ⟨aw, capw, rfl, hcw, hcmw, haw, _⟩ := hwv
  rw [hr.1] at hc HV ⊢
  rw [ints_length, g1] at hcw HWV ⊢
  have hE := hr.1
  have HR := Lib.hid hr
  have hcall := Lib.hid (fun W hb => opened_any _ m W (HV.out.below (w' := W) hb) (by omega) (fun r hr => by rw [(h3 r hr).1]; omega))
  rw [hq1] at hcall
  simp only [if_true] at hcall
  have HPH := Lib.hid (fun W hb => phases_any a m.length cap _ want W (HWV.out.below (w' := W) (B := w.heap.size) hb (Nat.le_refl _)) (by omega))
  rw [hq2] at HPH
  have HDT : Hid (∀ W, Below w.heap.size w W → Calls Try.prog 49 #[.slice a m.length cap] W fun e w' => e = .returned (.int .i64 (dt m.length m)) ∧ Below W.heap.size W w') := Lib.hid fun W hb => by
    obtain ⟨b1, b2, b3, b4, b5⟩ := rep_bd hq1
    exact det_any m.length m _ _ W b1 (HV.out.below hb) rfl b2 b3 b4 b5
  have HCD : Hid (∀ k W u, k < m.length → RdM W u (colm m k want m.length) → Calls Try.prog 49 #[u] W fun e w' => e = .returned (.int .i64 (dt m.length (colm m k want m.length))) ∧ Below W.heap.size W w') := Lib.hid fun k W u hk hu => by
    obtain ⟨b1, b2, b3, b4⟩ := cwt_bd hq1 hq2 k
    exact det_any m.length _ _ _ W h2 hu (colm_len _ _ _ _) b1 b2 b3 (b4 hk)
  have HCB : Hid (∀ k, k < m.length → -1000000000000000000 ≤ dt m.length (colm m k want m.length) ∧ dt m.length (colm m k want m.length) ≤ 1000000000000000000) := Lib.hid fun k hk => by
    obtain ⟨b1, b2, b3, b4⟩ := cwt_bd hq1 hq2 k
    have := (dt_bd m.length _ _ (colm_len _ _ _ _) b1 b2).1
    have := b4 hk
    omega
  have hdb : -1000000000000000000 ≤ dt m.length m ∧ dt m.length m ≤ 1000000000000000000 := by
    obtain ⟨b1, b2, b3, b4, b5⟩ := rep_bd hq1
    have := (dt_bd m.length m _ rfl b2 b3).1
    omega
  have HSL : Hid (∀ j, slv m want (j + 1) = _) := Lib.hid (slv_succ m want)
  have HS0 : Hid (slv m want 0 = []) := Lib.hid rfl
  have HSN : Hid (∀ j, (slv m want j).length = j) := Lib.hid (slv_len m want)
  have HGW : Hid (∀ j, j < m.length → ∃ x, want[j]? = some x ∧ want.getD j 0 = x) := Lib.hid fun j hj => ⟨_, List.getElem?_eq_getElem (by omega), by rw [List.getD_eq_getElem?_getD, List.getElem?_eq_getElem (by omega)]; rfl⟩
  have HGM : Hid (∀ j, j < m.length → ∃ r, m[j]? = some r ∧ m.getD j [] = r ∧ r.length = m.length) := Lib.hid fun j hj => by
    refine ⟨_, List.getElem?_eq_getElem hj, by rw [List.getD_eq_getElem?_getD, List.getElem?_eq_getElem hj]; rfl, (h3 _ (List.getElem_mem hj)).1⟩
  have hwl := Lib.hid g1
  generalize hd : dt m.length m = d at *
  have hdz : (d == 0) = false := by simpa using hq3
  clear hd hq1 hq2 h3 g2 hr g1
  generalize hN : m.length = N at *
  have HN := Lib.hid hN
  clear hN
  have hb0 : Hid (Below w.heap.size w (w.alloc (.cells #[.slice a N cap] 24))) := Lib.hid ((Below.refl _ _).alloc (Nat.le_refl _) _)
  go_enter Try.func23, Try.ntmps23
  go_wp2_with (first
    | (go_at_call 48; refine (hcall.out _ hb0.out).mono ?_; rintro e w1 ⟨rfl, hb1⟩; have hb01 := hb0.out.trans (hb1.mono hb0.out.size))
    | (go_at_call 62; refine (HPH.out _ (hb01.alloc hb01.size _)).mono ?_; rintro e w2 ⟨rfl, hb2⟩; have hb02 := (hb01.alloc hb01.size _).trans (hb2.mono (by have := hb01.size; simp; omega)); have c1 : w2.cell? ⟨w1.heap.size, 0, none⟩ = some (.slice a N cap) := cell_below (World.cell?_alloc_at _ _ _ _ rfl) hb2; have hz1 := hb01.size)
    | (go_at_call 49; refine (HDT.out _ hb02).mono ?_; rintro e w3 ⟨rfl, hb3⟩; have hb03 := hb02.trans (hb3.mono hb02.size); have c2 : w3.cell? ⟨w1.heap.size, 0, none⟩ = some (.slice a N cap) := cell_below c1 hb3)
    | (go_at_call 63; refine (bsize_any _ _ _ _).mono ?_; rintro e w4 ⟨rfl, hb4⟩; have hb04 := hb03.trans (hb4.mono hb03.size); have c3 : w4.cell? ⟨w1.heap.size, 0, none⟩ = some (.slice a N cap) := cell_below c2 hb4))
  have hz4 := hb04.size
  have hz14 : w1.heap.size < w4.heap.size := World.block_lt_of_cell? _ _ c3
  go_loopw [9, 34] (fun o i wr => ∃ k : Nat, k ≤ N ∧ i = .int .i64 k ∧ wr.ownsRow w4.heap.size 69 2 o k (pairs (slv m want k)) ∧ Below w4.heap.size w4 wr) (fun _ i _ => N - (intOf i).toNat)
  case atStart => exact ⟨0, Nat.zero_le _, rfl, World.ownsRow_nil _ _ _ _, Below.refl _ _⟩
  case round =>
    obtain ⟨k, hk, rfl, hown, hb4r⟩ := hrel
    have hbel := hb04.trans (hb4r.mono hz4)
    have cB : wr.cell? ⟨w1.heap.size, 0, none⟩ = some (.slice a N cap) := cell_below c3 hb4r
    by_cases hlt : k < N
    · obtain ⟨wo, hwo⟩ : ∃ wo, wo = wr := ⟨_, rfl⟩
      subst hwo
      have hkN : (k : Int) < N := by omega
      have hkN' : k < N := hlt
      go_wp2_with fail
      go_loopw [11, 41] (fun u i wr => ∃ j : Nat, j ≤ N ∧ i = .int .i64 j ∧ Hid (OwnM wr wo.heap.size u (colm m k want j)) ∧ Below wo.heap.size wo wr) (fun _ i _ => N - (intOf i).toNat)
      case atStart => exact ⟨0, Nat.zero_le _, rfl, Lib.hid (OwnM.nil _ _), Below.refl _ _⟩
      case round =>
        obtain ⟨j, hj, rfl, HO, hbi⟩ := hrel
        have hbw := hbel.trans (hbi.mono hbel.size)
        by_cases hjt : j < N
        · obtain ⟨r, hrr, hgr, hrl⟩ := HGM.out j hjt
          obtain ⟨x, hx, hgx⟩ := HGW.out j hjt
          obtain ⟨b, off, rfl, hcell⟩ := (ha.below hbw (Nat.le_refl _)).cell (j := j) (by rw [hE]; exact hjt)
          obtain ⟨rv, hrv⟩ : ∃ rv, vs[j]? = some rv := ⟨_, List.getElem?_eq_getElem (by rw [hE]; exact hjt)⟩
          have c5 := hcell j _ hrv
          have hR := HR.out.2 j rv r hrv hrr
          have HRW := Lib.hid (hR.below hbw (Nat.le_refl _))
          obtain ⟨a1, cap1, rfl, hc1, hcm1, _, _⟩ := hR
          obtain ⟨b2, off2, rfl, hcell2⟩ := (haw.below hbw (Nat.le_refl _)).cell (j := j) (by rw [ints_length, hwl.out]; exact hjt)
          have c6 := hcell2 j _ (ints_get hx)
          obtain ⟨y, hy⟩ : ∃ y, r[k]? = some y := ⟨_, List.getElem?_eq_getElem (by omega)⟩
          have HY := Lib.hid hy
          have HCS : Hid (colm m k want (j + 1) = colm m k want j ++ [r.set k x]) := Lib.hid (by rw [colm_succ, hgr, hgx])
          have HRL := Lib.hid hrl
          have HIS : Hid ((ints r).set k (.int .i64 x) = ints (r.set k x)) := Lib.hid (by simp [ints])
          have HC := Lib.hid (clone_any _ r _ HRW.out (by omega) (by omega))
          rw [hrl] at HC
          rw [ints_length, hrl] at hc1 c5
          rw [ints_length, hrl] at HC
          obtain ⟨os, ho1, ho2⟩ := HO.out
          have HO1 := Lib.hid ho1
          have HO2 := Lib.hid ho2
          clear ho1 ho2 hcell hcell2 hrr hrv hx hy hgr hgx hrl ha haw HRW
          go_wp2_with (first
            | (go_at_call 54; (with_reducible refine HC.out.mono ?_); rintro e w5 ⟨u1, rfl, hu1, hb5⟩; obtain ⟨g1, c1', rfl, hg1, _⟩ := own_some hu1 (by omega); have c7 : w5.cell? ⟨g1, k, none⟩ = some (.int .i64 y) := by { rw [hu1.cellAt k (by omega)]; exact ints_get HY.out }; have c8 : w5.frozen? ⟨g1, k, none⟩ = false := hu1.frozenAt k; have c9 := cell_below c6 hb5; have HST := Lib.hid (hu1.stored k (.int .i64 x)); have HB6 := Lib.hid ((hbi.trans (hb5.mono hbi.size)).setCell (p := ⟨g1, k, none⟩) (Nat.le_trans hbi.size hg1) (.int .i64 x)); have HO6 := Lib.hid ((own_below HO1.out hb5).kept HST.out.2 (own_ne (own_below HO1.out hb5) hu1 (by decide))))
            | (at_builtin; refine app1 el_row rfl rfl (w0 := wo) rfl (by rw [show w5.heap.size = (w5.setCell ⟨g1, k, none⟩ (.int .i64 x)).heap.size from by simp]; rfl) (by exact HB6.out) (by exact HO6.out) rfl (by rw [colm_len]; omega) ?_; intro v3 w7 ho7 hb7 hg7))
          have HX : Hid ((w5.setCell ⟨g1, k, none⟩ (.int .i64 x)).ownsRow wo.heap.size 3 1 (.slice (some ⟨g1, 0, none⟩) N c1') (r.set k x).length (ints (r.set k x))) := Lib.hid (by
            rw [List.length_set, HRL.out, ← HIS.out]
            exact own_le HST.out.1 hbi.size)
          go_roundw
          case rel => exact ⟨j + 1, by omega, by go_num, by rw [HCS.out]; exact Lib.hid (OwnM.snoc (HO6.out.alloc _) (fun i x r hx hr => ((own_below (HO2.out i x r hx hr) hb5).kept HST.out.2 (own_old (HO2.out i x r hx hr) hg1)).alloc _) (HX.out.alloc _) hg7 ho7), hb7⟩
          case measure => simp [intOf]; omega
        · obtain rfl : j = N := by omega
          have HSK := Lib.hid (HSL.out k)
          have HCD2 := Lib.hid (HCD.out k wr _ hkN' HO.out.rd)
          have hcb := HCB.out k hkN'
          have hown2 := own_below hown hbi
          have cB2 : wr.cell? ⟨w1.heap.size, 0, none⟩ = some (.slice a j cap) := cell_below cB hbi
          generalize hdk : dt j (colm m k want j) = dk at *
          clear hdk
          go_wp2_with (first
            | (go_at_call 49; refine HCD2.out.mono ?_; rintro e w8 ⟨rfl, hb8⟩; have hbw8 := (hb4r.trans (hbi.mono hb4r.size)).trans (hb8.mono (Nat.le_trans hb4r.size hbi.size));  have HR8 := Lib.hid (ratio_any dk d w8 hcb hdb hq3))
            | (go_at_call 64; refine HR8.out.mono ?_; rintro e w9 ⟨rfl, hb9⟩; have hbw9 := hbw8.trans (hb9.mono hbw8.size); have ho9 := own_below (own_below hown2 hb8) hb9)
            | (at_builtin; refine appK el_rat rfl rfl (w0 := w4) rfl rfl (by exact hbw9) (by exact ho9) rfl (by simp [Value.oneCell']) (by omega) ?_; intro v3 w10 ho10 hb10 hg10))
          go_roundw
          case rel => exact ⟨k + 1, by omega, by go_num, by rw [HSK.out, pairs_append]; exact ho10, hb10⟩
          case measure => simp [intOf]; omega
    · obtain rfl : k = N := by omega
      go_wp2_with fail
      go_ret2
      exact ⟨_, rfl, own_le hown hz4, hbel⟩

set_option maxRecDepth 100000 in
set_option maxHeartbeats 2000000 in
/-- Solve: its errors. -/
theorem Solve_no (v wv : Value) (m : List (List Int)) (want : List Int) (w : World) (hv : RdM w v m) (hwv : Rd w wv (ints want)) (hl : m.length ≤ 10) (hw : ∀ r ∈ m, r.length ≤ 10) (hq : want.length ≤ 1000) (he : slvE m want ≠ 0) :
    Calls Try.prog 23 #[.agg #[v], wv] w fun e w' => e = .returned (.tuple #[.slice none 0 0, .int .i64 (slvE m want)]) ∧ Below w.heap.size w w' := by
  have HV := Lib.hid hv
  have HWV := Lib.hid hwv
  have HE : Hid (slvE m want = if vB m then (if lstB want m.length (-1000000) 1000000 then (if dt m.length m = 0 then 61 else 0) else 2) else 60) := Lib.hid rfl
  have hcall := Lib.hid (fun W hb => opened_any _ m W (HV.out.below (w' := W) hb) hl hw)
  have hb0 : Hid (Below w.heap.size w (w.alloc (.cells #[v] 24))) := Lib.hid ((Below.refl _ _).alloc (Nat.le_refl _) _)
  obtain ⟨vs, ⟨a, cap, rfl, hc, hcm, ha, _⟩, hr⟩ := hv
  obtain ⟨aw, capw, rfl, hcw, hcmw, haw, _⟩ := hwv
  rw [hr.1] at hc HV hcall hb0 ⊢
  rw [ints_length] at hcw HWV ⊢
  generalize hE : slvE m want = E at *
  have hE' := Lib.hid hE
  clear hE ha haw
  by_cases hq1 : vB m = true
  · obtain ⟨b1, b2, b3, b4, b5⟩ := rep_bd hq1
    have HDT : Hid (∀ W, Below w.heap.size w W → Calls Try.prog 49 #[.slice a m.length cap] W fun e w' => e = .returned (.int .i64 (dt m.length m)) ∧ Below W.heap.size W w') := Lib.hid fun W hb => det_any m.length m _ _ W b1 (HV.out.below hb) rfl b2 b3 b4 b5
    have HPH := Lib.hid (fun W hb => phases_any a m.length cap _ want W (HWV.out.below (w' := W) (B := w.heap.size) hb (Nat.le_refl _)) (by omega))
    rw [hq1] at hcall HE
    simp only [if_true] at hcall HE
    by_cases hq2 : lstB want m.length (-1000000) 1000000 = true
    · rw [hq2] at HPH HE
      simp only [if_true] at HE
      by_cases hq3 : dt m.length m = 0
      · rw [if_pos hq3] at HE
        rw [hq3] at HDT
        obtain rfl := HE.out
        clear hq1 hq2 hq3 b1 b2 b3 b4 b5 hr HE
        generalize hN : m.length = N at *
        clear hN
        go_enter Try.func23, Try.ntmps23
        go_wp2_with (first
          | (go_at_call 48; refine (hcall.out _ hb0.out).mono ?_; rintro e w1 ⟨rfl, hb1⟩; have hb01 := hb0.out.trans (hb1.mono hb0.out.size))
          | (go_at_call 62; refine (HPH.out _ (hb01.alloc hb01.size _)).mono ?_; rintro e w2 ⟨rfl, hb2⟩; have hb02 := (hb01.alloc hb01.size _).trans (hb2.mono (by have := hb01.size; simp; omega)); have c1 : w2.cell? ⟨w1.heap.size, 0, none⟩ = some (.slice a N cap) := cell_below (World.cell?_alloc_at _ _ _ _ rfl) hb2; have hz1 := hb01.size)
          | (go_at_call 49; refine (HDT.out _ hb02).mono ?_; rintro e w3 ⟨rfl, hb3⟩; have hb03 := hb02.trans (hb3.mono hb02.size)))
        go_ret2
        exact ⟨rfl, hb03⟩
      · rw [if_neg hq3] at HE
        exact absurd (HE.out) (by simpa using he)
    · have hq2' : lstB want m.length (-1000000) 1000000 = false := by simpa using hq2
      rw [hq2'] at HPH HE
      rw [if_neg (by decide)] at HE
      obtain rfl := HE.out
      clear hq1 hq2 hq2' b1 b2 b3 b4 b5 hr HE HDT
      generalize hN : m.length = N at *
      clear hN
      go_enter Try.func23, Try.ntmps23
      go_wp2_with (first
        | (go_at_call 48; refine (hcall.out _ hb0.out).mono ?_; rintro e w1 ⟨rfl, hb1⟩; have hb01 := hb0.out.trans (hb1.mono hb0.out.size))
        | (go_at_call 62; refine (HPH.out _ (hb01.alloc hb01.size _)).mono ?_; rintro e w2 ⟨rfl, hb2⟩; have hb02 := (hb01.alloc hb01.size _).trans (hb2.mono (by have := hb01.size; simp; omega))))
      go_ret2
      exact ⟨rfl, hb02⟩
  · have hq1' : vB m = false := by simpa using hq1
    rw [hq1'] at hcall HE
    rw [if_neg (by decide)] at HE
    obtain rfl := HE.out
    clear hq1 hq1' hr HE
    generalize hN : m.length = N at *
    clear hN
    go_enter Try.func23, Try.ntmps23
    go_wp2_with (first
      | (go_at_call 48; refine (hcall.out _ hb0.out).mono ?_; rintro e w1 ⟨rfl, hb1⟩; have hb01 := hb0.out.trans (hb1.mono hb0.out.size)))
    go_ret2
    exact ⟨rfl, hb01.alloc hb01.size _⟩

/-- Solve. -/
theorem Solve_any (v wv : Value) (m : List (List Int)) (want : List Int) (w : World) (hv : RdM w v m) (hwv : Rd w wv (ints want)) (hl : m.length ≤ 10) (hw : ∀ r ∈ m, r.length ≤ 10) (hq : want.length ≤ 1000) :
    Calls Try.prog 23 #[.agg #[v], wv] w fun e w' => ∃ u, e = .returned (.tuple #[u, .int .i64 (slvE m want)]) ∧ w'.ownsRow w.heap.size 69 2 u (slvL m want).length (pairs (slvL m want)) ∧ Below w.heap.size w w' := by
  by_cases he : slvE m want = 0
  · have : vB m = true ∧ lstB want m.length (-1000000) 1000000 = true ∧ dt m.length m ≠ 0 := by
      unfold slvE at he
      split at he
      · split at he
        · split at he
          · simp at he
          · exact ⟨by assumption, by assumption, by assumption⟩
        · simp at he
      · simp at he
    obtain ⟨q1, q2, q3⟩ := this
    have e : slvL m want = slv m want m.length := by unfold slvL; rw [if_pos he]
    rw [e, he, slv_len]
    exact Solve_ok v wv m want w hv hwv q1 q2 q3
  · have e : slvL m want = [] := by unfold slvL; rw [if_neg he]
    rw [e]
    refine (Solve_no v wv m want w hv hwv hl hw hq he).mono ?_
    rintro e w' ⟨rfl, hb⟩
    exact ⟨_, rfl, World.ownsRow_nil _ _ _ _, hb⟩

end Go.Proofs.Ytnaoanmkepcinaa

/- Heat: Spread, the document's. -/
import Derived.Test.YtnaoanmkepcinaaHSpread
namespace Go.Proofs.Ytnaoanmkepcinaa
open Go.RowKit

theorem t_alt (c p L : Int) (hp : 0 ≤ p) (hL : 0 ≤ L) : min (c * p * (1000 - L)) (c * p * (1000 + L)) = t1 c p L ∧ max (c * p * (1000 - L)) (c * p * (1000 + L)) = t2 c p L := by
  unfold t1 t2
  rcases Int.le_total 0 c with h | h
  · have h1 : ((c.natAbs : Nat) : Int) = c := Int.natAbs_of_nonneg h
    have h2 : 0 ≤ c * p * L := Int.mul_nonneg (Int.mul_nonneg h hp) hL
    rw [h1, show c * p * (1000 - L) = 1000 * c * p - c * p * L by grind, show c * p * (1000 + L) = 1000 * c * p + c * p * L by grind, show L * c * p = c * p * L by grind]
    omega
  · have h1 : ((c.natAbs : Nat) : Int) = -c := by omega
    have h2 : 0 ≤ -c * p * L := Int.mul_nonneg (Int.mul_nonneg (by omega) hp) hL
    have h3 : -c * p * L = -(c * p * L) := by grind
    rw [h1, show c * p * (1000 - L) = 1000 * c * p - c * p * L by grind, show c * p * (1000 + L) = 1000 * c * p + c * p * L by grind, show L * -c * p = -(c * p * L) by grind]
    rw [h3] at h2
    omega
theorem u_bd {c p L : Int} (hc : -1000 ≤ c ∧ c ≤ 1000) (hp : 0 ≤ p ∧ p ≤ 1000) (hL : 0 ≤ L ∧ L ≤ 1000) :
    (-1000000 ≤ c * p ∧ c * p ≤ 1000000) ∧ (-2000000000 ≤ c * p * (1000 - L) ∧ c * p * (1000 - L) ≤ 2000000000) ∧ (-2000000000 ≤ c * p * (1000 + L) ∧ c * p * (1000 + L) ≤ 2000000000) := by
  have h1 := mul_bd (x := c) (y := p) (a := 1000) (b := 1000) (by omega) (by omega) (by decide) (by decide)
  have h2 := mul_bd (x := c * p) (y := 1000 - L) (a := 1000000) (b := 2000) (by omega) (by omega) (by decide) (by decide)
  have h3 := mul_bd (x := c * p) (y := 1000 + L) (a := 1000000) (b := 2000) (by omega) (by omega) (by decide) (by decide)
  exact ⟨by omega, by omega, by omega⟩

set_option maxRecDepth 100000 in
set_option maxHeartbeats 2000000 in
theorem refSpread_any (v wv : Value) (m : List (List Int)) (pw : List Int) (L : Int) (w : World) (hv : RdM w v m) (hwv : Rd w wv (ints pw)) (hw : ∀ r ∈ m, r.length ≤ 10) (hq : pw.length ≤ 1000) :
    Calls Try.prog 21 #[.agg #[v], wv, .int .i64 L] w fun e w' => e = .returned (.tuple #[.agg #[.int .i64 (spO m pw L).1, .int .i64 (spO m pw L).2], .int .i64 (spE m pw L)]) ∧ Below w.heap.size w w' := by
  have HV := Lib.hid hv
  have HWV := Lib.hid hwv
  have HE : Hid (spE m pw L = if vB m then (if lstB pw m.length 0 1000 && inB 0 L 1000 then 0 else 2) else 60) := Lib.hid rfl
  have HO : Hid (spO m pw L = if spE m pw L = 0 then (sp1 m pw L m.length, sp2 m pw L m.length) else (0, 0)) := Lib.hid rfl
  have hcall := Lib.hid (fun W hb => refValid_any _ m W (HV.out.below (w' := W) hb) hw)
  have hb0 : Hid (Below w.heap.size w ((w.alloc (.cells #[v] 24)).alloc (.cells #[.int .i64 0, .int .i64 0] 36))) := Lib.hid (((Below.refl _ _).alloc (Nat.le_refl _) _).alloc (by simp) _)
  have HTW : Hid (Two ((w.alloc (.cells #[v] 24)).alloc (.cells #[.int .i64 0, .int .i64 0] 36)) (w.heap.size + 1) 0 0) := Lib.hid (by have := Two.made (w.alloc (.cells #[v] 24)) 0 0 36; rwa [show (w.alloc (.cells #[v] 24)).heap.size = w.heap.size + 1 from by simp] at this)
  have HBW := Lib.hid (fun W => within_any 0 L 1000 W)
  obtain ⟨vs, ⟨a, cap, rfl, hc, hcm, ha, _⟩, hr⟩ := hv
  obtain ⟨aw, capw, rfl, hcw, hcmw, haw, _⟩ := hwv
  have hE := hr.1
  rw [hr.1] at hc HV hcall hb0 HTW ⊢
  rw [ints_length] at hcw HWV ⊢
  have hcB : Hid (((w.alloc (.cells #[.slice a m.length cap] 24)).alloc (.cells #[.int .i64 0, .int .i64 0] 36)).cell? ⟨w.heap.size, 0, none⟩ = some (.slice a m.length cap)) := Lib.hid (cell_alloc (World.cell?_alloc_at _ _ _ _ rfl) _)
  have HPH := Lib.hid (fun W hb => isPowers_any m.length _ pw W (HWV.out.below (w' := W) (B := w.heap.size) hb (Nat.le_refl _)) (by omega))
  generalize hEE : spE m pw L = E at *
  generalize hOO : spO m pw L = O at *
  clear hEE hOO
  cases hq1 : vB m with
  | false =>
    rw [hq1] at hcall HE
    simp only [Bool.false_eq_true, if_false] at HE
    obtain rfl := HE.out
    rw [if_neg (by decide)] at HO
    obtain rfl := HO.out
    clear hq1 HPH ha haw hr hE
    generalize hN : m.length = N at *
    clear hN
    go_enter Try.func21, Try.ntmps21
    go_wp2_with (first
      | (go_at_call 15; refine (hcall.out _ hb0.out).mono ?_; rintro e w1 ⟨rfl, hb1⟩; have hb01 := hb0.out.trans (hb1.mono hb0.out.size); obtain ⟨r1, r2, r3, r4⟩ := HTW.out.below hb1))
    obtain ⟨c8, c9, _, _⟩ := Two.stored ⟨r1, r2, r3, r4⟩ 0 0
    refine bodyPost_ret (v := .tuple #[.agg #[.int .i64 0, .int .i64 0], .int .i64 60]) (by simp [results, Try.results21, go_sem, c8, c9]) rfl ?_
    exact ⟨rfl, (hb01.setCell (p := ⟨w.heap.size + 1, 0, none⟩) (by simp) _).setCell (p := ⟨w.heap.size + 1, 1, none⟩) (by simp) _⟩
  | true =>
    rw [hq1] at hcall HE
    simp only [if_true] at HE
    cases hq2 : lstB pw m.length 0 1000 with
    | false =>
      rw [hq2] at HPH HE
      simp only [Bool.false_and, Bool.false_eq_true, if_false] at HE
      obtain rfl := HE.out
      rw [if_neg (by decide)] at HO
      obtain rfl := HO.out
      clear hq1 hq2 ha haw hr hE
      generalize hN : m.length = N at *
      clear hN
      go_enter Try.func21, Try.ntmps21
      go_wp2_with (first
        | (go_at_call 15; refine (hcall.out _ hb0.out).mono ?_; rintro e w1 ⟨rfl, hb1⟩; have hb01 := hb0.out.trans (hb1.mono hb0.out.size); have c1 := cell_below hcB.out hb1; obtain ⟨r1, r2, r3, r4⟩ := HTW.out.below hb1)
        | (go_at_call 57; refine (HPH.out _ hb01).mono ?_; rintro e w2 ⟨rfl, rfl⟩))
      obtain ⟨c8, c9, _, _⟩ := Two.stored ⟨r1, r2, r3, r4⟩ 0 0
      refine bodyPost_ret (v := .tuple #[.agg #[.int .i64 0, .int .i64 0], .int .i64 2]) (by simp [results, Try.results21, go_sem, c8, c9]) rfl ?_
      exact ⟨rfl, (hb01.setCell (p := ⟨w.heap.size + 1, 0, none⟩) (by simp) _).setCell (p := ⟨w.heap.size + 1, 1, none⟩) (by simp) _⟩
    | true =>
      rw [hq2] at HPH HE
      simp only [Bool.true_and] at HE
      cases hq3 : inB 0 L 1000 with
      | false =>
        rw [hq3] at HBW HE
        simp only [Bool.false_eq_true, if_false] at HE
        obtain rfl := HE.out
        rw [if_neg (by decide)] at HO
        obtain rfl := HO.out
        clear hq1 hq2 hq3 ha haw hr hE
        generalize hN : m.length = N at *
        clear hN
        go_enter Try.func21, Try.ntmps21
        go_wp2_with (first
          | (go_at_call 15; refine (hcall.out _ hb0.out).mono ?_; rintro e w1 ⟨rfl, hb1⟩; have hb01 := hb0.out.trans (hb1.mono hb0.out.size); have c1 := cell_below hcB.out hb1; obtain ⟨r1, r2, r3, r4⟩ := HTW.out.below hb1)
          | (go_at_call 57; refine (HPH.out _ hb01).mono ?_; rintro e w2 ⟨rfl, rfl⟩)
          | (go_at_call 56; refine (HBW.out _).mono ?_; rintro e w' ⟨rfl, rfl⟩))
        obtain ⟨c8, c9, _, _⟩ := Two.stored ⟨r1, r2, r3, r4⟩ 0 0
        refine bodyPost_ret (v := .tuple #[.agg #[.int .i64 0, .int .i64 0], .int .i64 2]) (by simp [results, Try.results21, go_sem, c8, c9]) rfl ?_
        exact ⟨rfl, (hb01.setCell (p := ⟨w.heap.size + 1, 0, none⟩) (by simp) _).setCell (p := ⟨w.heap.size + 1, 1, none⟩) (by simp) _⟩
      | true =>
        rw [hq3] at HBW HE
        simp only [if_true] at HE
        obtain rfl := HE.out
        rw [if_pos rfl] at HO
        obtain rfl := HO.out
        obtain ⟨h1, h2, h3⟩ := vB_bd hq1
        obtain ⟨g1, g2⟩ := lstB_bd hq2
        have hL := (inB_iff _ _ _).1 hq3
        have HR := Lib.hid hr
        have HCB := Lib.hid (fun k j hj => col_bd hq1 k j hj)
        have HCS : Hid (∀ k j, col m k (j + 1) = col m k j + at2 m j k) := Lib.hid fun k j => rfl
        have HC0 : Hid (∀ k, col m k 0 = 0) := Lib.hid fun k => rfl
        have HSB := Lib.hid (sp_bd hq1 g2 hL)
        have HS1 : Hid (∀ k, sp1 m pw L (k + 1) = sp1 m pw L k + t1 (col m k m.length) (pw.getD k 0) L) := Lib.hid fun k => rfl
        have HS2 : Hid (∀ k, sp2 m pw L (k + 1) = sp2 m pw L k + t2 (col m k m.length) (pw.getD k 0) L) := Lib.hid fun k => rfl
        have HGM : Hid (∀ j, j < m.length → ∃ r, m[j]? = some r ∧ r.length = m.length) := Lib.hid fun j hj => ⟨_, List.getElem?_eq_getElem hj, (h3 _ (List.getElem_mem hj)).1⟩
        have HGW : Hid (∀ j, j < m.length → ∃ x, pw[j]? = some x ∧ pw.getD j 0 = x ∧ 0 ≤ x ∧ x ≤ 1000) := Lib.hid fun j hj =>
          have hj2 : j < pw.length := by omega
          ⟨_, List.getElem?_eq_getElem hj2, by rw [List.getD_eq_getElem?_getD, List.getElem?_eq_getElem hj2]; rfl, g2 _ (List.getElem_mem hj2)⟩
        have hwl := Lib.hid g1
        have HABD := Lib.hid (fun i k => at2_bd hq1 i k)
        rw [g1] at hcw HPH ⊢
        clear hq1 hq2 hq3 h3 g2 hr g1
        generalize hN : m.length = N at *
        have HN := Lib.hid hN
        clear hN
        go_enter Try.func21, Try.ntmps21
        go_wp2_with (first
          | (go_at_call 15; refine (hcall.out _ hb0.out).mono ?_; rintro e w1 ⟨rfl, hb1⟩; have hb01 := hb0.out.trans (hb1.mono hb0.out.size); have c1 := cell_below hcB.out hb1; have HT3 := Lib.hid (HTW.out.below hb1); have hz1 := hb01.size)
          | (go_at_call 57; refine (HPH.out _ hb01).mono ?_; rintro e w2 ⟨rfl, rfl⟩)
          | (go_at_call 56; refine (HBW.out _).mono ?_; rintro e w' ⟨rfl, rfl⟩))
        go_loopw [10] (fun i wr => ∃ k : Nat, k ≤ N ∧ i = .int .i64 k ∧ Hid (Two wr w1.heap.size (sp1 m pw L k) (sp2 m pw L k)) ∧ Below w1.heap.size w1 wr) (fun i _ => N - (intOf i).toNat)
        case atStart => exact ⟨0, Nat.zero_le _, rfl, Lib.hid (Two.made w1 0 0 _), (Below.refl _ _).alloc (Nat.le_refl _) _⟩
        case round =>
          obtain ⟨k, hk, rfl, HTK, hb2r⟩ := hrel
          obtain ⟨d1, d2, f1, f2⟩ := HTK.out
          have hbel := hb01.trans (hb2r.mono hz1)
          have cB := cell_below c1 hb2r
          by_cases hlt : k < N
          · obtain ⟨p, hp, hgp, hp1, hp2⟩ := HGW.out k hlt
            obtain ⟨b2, off2, rfl, hcell2⟩ := (haw.below hbel (Nat.le_refl _)).cell (j := k) (by rw [ints_length, hwl.out]; exact hlt)
            have c6 := hcell2 k _ (ints_get hp)
            have HK1 := Lib.hid (HS1.out k)
            have HK2 := Lib.hid (HS2.out k)
            rw [hgp] at HK1 HK2
            have hsb := HSB.out k (by omega)
            have hcb := HCB.out k N (Nat.le_refl _)
            clear hcell2 hp hgp
            go_wp2_with fail
            go_loop [11, 12] (fun c i => ∃ j : Nat, j ≤ N ∧ i = .int .i64 j ∧ c = .int .i64 (col m k j)) (fun _ i => N - (intOf i).toNat)
            case atStart => exact ⟨0, Nat.zero_le _, rfl, by rw [HC0.out]⟩
            case round =>
              obtain ⟨j, hj, rfl, rfl⟩ := hrel
              by_cases hjt : j < N
              · obtain ⟨r, hrr, hrl⟩ := HGM.out j hjt
                obtain ⟨b, off, rfl, hcell⟩ := (ha.below hbel (Nat.le_refl _)).cell (j := j) (by rw [hE]; exact hjt)
                obtain ⟨rv, hrv⟩ : ∃ rv, vs[j]? = some rv := ⟨_, List.getElem?_eq_getElem (by rw [hE]; exact hjt)⟩
                have c5 := hcell j _ hrv
                obtain ⟨a1, cap1, rfl, hc1, hcm1, ha1, _⟩ := HR.out.2 j rv r hrv hrr
                rw [ints_length, hrl] at hc1 c5
                obtain ⟨b3, off3, rfl, hcell3⟩ := (ha1.below hbel (Nat.le_refl _)).cell (j := k) (by rw [ints_length, hrl]; exact hlt)
                obtain ⟨y, hy⟩ : ∃ y, r[k]? = some y := ⟨_, List.getElem?_eq_getElem (by omega)⟩
                have c7 := hcell3 k _ (ints_get hy)
                have HCK := Lib.hid (HCS.out k j)
                rw [at2_get hrr hy] at HCK
                have hcb1 := HCB.out k j hj
                have hyb : y.natAbs ≤ 200 := by have := HABD.out j k; rwa [at2_get hrr hy] at this
                generalize col m k j = z at *
                clear hcell hcell3 hrr hrv hy hrl ha haw ha1 hcb
                go_wp2_with fail
                go_round
                case rel => exact ⟨j + 1, by omega, by go_num, by rw [HCK.out]⟩
                case measure => simp [intOf]; omega
              · obtain rfl : j = N := by omega
                generalize col m k j = c at *
                obtain ⟨⟨hE1, hE2⟩, ⟨hF1, hF2⟩, ⟨hG1, hG2⟩⟩ := u_bd hcb ⟨hp1, hp2⟩ hL
                obtain ⟨hm1, hm2⟩ := t_alt c p L hp1 hL.1
                generalize hA : c * p = A at *
                generalize hB : A * (1000 - L) = B at *
                generalize hC : A * (1000 + L) = C at *
                generalize t1 c p L = T1 at *
                generalize t2 c p L = T2 at *
                generalize sp1 m pw L k = S1 at *
                generalize sp2 m pw L k = S2 at *
                obtain ⟨hS1, hS2⟩ := hsb
                clear ha haw
                have hw1 : IntKind.i64.wrap A = A := IntWalk.i64_in _ ⟨by omega, by omega⟩
                have hw2 : IntKind.i64.wrap (1000 - L) = 1000 - L := IntWalk.i64_in _ ⟨by omega, by omega⟩
                have hw3 : IntKind.i64.wrap (1000 + L) = 1000 + L := IntWalk.i64_in _ ⟨by omega, by omega⟩
                have hw4 : IntKind.i64.wrap B = B := IntWalk.i64_in _ ⟨by omega, by omega⟩
                have hw5 : IntKind.i64.wrap C = C := IntWalk.i64_in _ ⟨by omega, by omega⟩
                go_wp2_with fail
                go_quiet (fail)
                go_wp2_with fail
                go_roundw
                case rel => exact ⟨k + 1, by omega, by go_num, by rw [HK1.out, HK2.out]; exact Lib.hid (Two.stored (show Two (wr.drewN nq) _ _ _ from HTK.out) _ _), ((bel_drewN hb2r _).setCell (p := ⟨w1.heap.size, 0, none⟩) (Nat.le_refl _) _).setCell (p := ⟨w1.heap.size, 1, none⟩) (Nat.le_refl _) _⟩
                case measure => simp [intOf]; omega
          · obtain rfl : k = N := by omega
            obtain ⟨r1, r2, r3, r4⟩ := HT3.out.below hb2r
            have c8 := (Two.stored ⟨r1, r2, r3, r4⟩ (sp1 m pw L k) (sp2 m pw L k)).1
            have c9 := (Two.stored ⟨r1, r2, r3, r4⟩ (sp1 m pw L k) (sp2 m pw L k)).2.1
            clear ha haw
            go_wp2_with fail
            refine bodyPost_ret (v := .tuple #[.agg #[.int .i64 (sp1 m pw L k), .int .i64 (sp2 m pw L k)], .int .i64 0]) (by simp [results, Try.results21, go_sem, c8, c9]) rfl ?_
            exact ⟨rfl, (hbel.setCell (p := ⟨w.heap.size + 1, 0, none⟩) (by simp) _).setCell (p := ⟨w.heap.size + 1, 1, none⟩) (by simp) _⟩

end Go.Proofs.Ytnaoanmkepcinaa

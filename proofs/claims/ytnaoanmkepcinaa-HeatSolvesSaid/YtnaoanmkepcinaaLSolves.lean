/- Heat: the law HeatSolves, walked. -/
import Derived.Test.YtnaoanmkepcinaaHInv4
namespace Go.Proofs.Ytnaoanmkepcinaa
open Go.RowKit

set_option maxRecDepth 100000 in
set_option maxHeartbeats 2000000 in
theorem law_solves (v : Value) (m : List (List Int)) (wv : Value) (want : List Int) (w : World) (hv : RdM w v m) (_ : ∀ r ∈ m, ∀ x ∈ r, (Lit.int .i64 x).wf = true) (hwv : Rd w wv (ints want)) (_ : ∀ x ∈ want, (Lit.int .i64 x).wf = true) :
    Calls Try.prog 6 #[.agg #[v], wv] w fun e w' => e = .returned (.bool true) ∧ Below w.heap.size w w' := by
  have HV := Lib.hid hv
  have HWV := Lib.hid hwv
  have HSN := Lib.hid (fun W => sane_any W)
  have HWD := Lib.hid (fun W hb => wide_any _ m W (HV.out.below (w' := W) hb))
  have hb0 : Hid (Below w.heap.size w (w.alloc (.cells #[v] 24))) := Lib.hid ((Below.refl _ _).alloc (Nat.le_refl _) _)
  have hcB : Hid ((w.alloc (.cells #[v] 24)).cell? ⟨w.heap.size, 0, none⟩ = some v) := Lib.hid (World.cell?_alloc_at _ _ _ _ rfl)
  obtain ⟨vs, ⟨a, cap, rfl, hc, hcm, ha, _⟩, hr⟩ := hv
  obtain ⟨aw, capw, rfl, hcw, hcmw, haw, _⟩ := hwv
  unfold maxLen at hcm hcmw
  rw [hr.1] at HV HWD hc hb0 hcB ⊢
  rw [ints_length] at HWV hcw ⊢
  clear ha haw hr
  cases hq1 : wideB m with
  | true =>
    rw [hq1] at HWD
    clear hq1
    go_enter Try.func6, Try.ntmps6
    go_wp2_with (first
      | (go_at_call 14; refine (HWD.out _ hb0.out).mono ?_; rintro e w1 ⟨rfl, hb1⟩; have hb01 := hb0.out.trans (hb1.mono hb0.out.size))
      | (go_at_call 16; refine (HSN.out _).mono ?_; rintro e w2 ⟨rfl, hb2⟩))
    go_ret
    exact ⟨rfl, hb01.trans (hb2.mono hb01.size)⟩
  | false =>
    rw [hq1] at HWD
    obtain ⟨h1, h2⟩ := wideB_bd hq1
    by_cases hl : want.length > 20
    · clear hq1
      go_enter Try.func6, Try.ntmps6
      go_wp2_with (first
        | (go_at_call 14; refine (HWD.out _ hb0.out).mono ?_; rintro e w1 ⟨rfl, hb1⟩; have hb01 := hb0.out.trans (hb1.mono hb0.out.size))
        | (go_at_call 16; refine (HSN.out _).mono ?_; rintro e w2 ⟨rfl, hb2⟩))
      go_ret
      exact ⟨rfl, hb01.trans (hb2.mono hb01.size)⟩
    · have H1 := Lib.hid (fun W hb => Det_any _ m W (HV.out.below (w' := W) hb) h1 h2)
      have H2 := Lib.hid (fun W hb => refDetD_any _ m W (HV.out.below (w' := W) hb) h2)
      have H3 := Lib.hid (fun W hb => Solve_any _ _ m want W (HV.out.below (w' := W) hb) (HWV.out.below (w' := W) hb (Nat.le_refl _)) h1 h2 (by omega))
      have H4 := Lib.hid (fun W hb => refSolve_any _ _ m want W (HV.out.below (w' := W) hb) (HWV.out.below (w' := W) hb (Nat.le_refl _)) h2 (by omega))
      have H5 := Lib.hid (fun W hb => Inverse_any _ m W (HV.out.below (w' := W) hb) h1 h2)
      have H6 := Lib.hid (fun W hb => refInverse_any _ m W (HV.out.below (w' := W) hb) h2)
      generalize detN m = D at *
      generalize heatE m = E at *
      generalize slvE m want = SE at *
      generalize slvL m want = SL at *
      generalize invE m = IE at *
      generalize invL m = IL at *
      have hDn : (D != D) = false := by simp
      have hEn : (E != E) = false := by simp
      have hSn : (SE != SE) = false := by simp
      have hIn : (IE != IE) = false := by simp
      have hLn : ((IL.length : Int) != IL.length) = false := by simp
      clear hq1 h2
      generalize m.length = N at *
      go_enter Try.func6, Try.ntmps6
      go_wp2_with (first
        | (go_at_call 14; refine (HWD.out _ hb0.out).mono ?_; rintro e w1 ⟨rfl, hb1⟩; have hb01 := hb0.out.trans (hb1.mono hb0.out.size); have c1 := cell_below hcB.out hb1)
        | (go_at_call 17; refine (H1.out _ hb01).mono ?_; rintro e w2 ⟨rfl, hb2⟩; have hb02 := hb01.trans (hb2.mono hb01.size); have c2 := cell_below c1 hb2)
        | (go_at_call 22; refine (H2.out _ hb02).mono ?_; rintro e w3 ⟨rfl, hb3⟩; have hb03 := hb02.trans (hb3.mono hb02.size); have c3 := cell_below c2 hb3)
        | (go_at_call 23; refine (H3.out _ hb03).mono ?_; rintro e w4 ⟨u4, rfl, hu4, hb4⟩; have hb04 := hb03.trans (hb4.mono hb03.size); have c4 := cell_below c3 hb4)
        | (go_at_call 24; refine (H4.out _ hb04).mono ?_; rintro e w5 ⟨u5, rfl, hu5, hb5⟩; have hb05 := hb04.trans (hb5.mono hb04.size); have c5 := cell_below c4 hb5)
        | (go_at_call 25; refine (H5.out _ hb05).mono ?_; rintro e w6 ⟨u6, rfl, hu6, hb6⟩; have hb06 := hb05.trans (hb6.mono hb05.size); have c6 := cell_below c5 hb6)
        | (go_at_call 26; refine (H6.out _ hb06).mono ?_; rintro e w7 ⟨u7, rfl, hu7, hb7⟩; have hb07 := hb06.trans (hb7.mono hb06.size); have HS := Lib.hid (sameR_any SL SL u4 u5 w7 ((RdP.own hu4 rfl).below (hb5.trans ((hb6.mono hb5.size).trans (hb7.mono (Nat.le_trans hb5.size hb6.size))))) ((RdP.own hu5 rfl).below (hb6.trans (hb7.mono hb6.size)))); rw [decide_eq_true (rfl : SL = SL)] at HS; obtain ⟨vs6, ⟨a6, cap6, rfl, hc6, hcm6, ha6, _⟩, hl6, hr6⟩ := hu6.below hb7; obtain ⟨vs7, ⟨a7, cap7, rfl, hc7, hcm7, ha7, _⟩, hl7, hr7⟩ := hu7; rw [hl6] at hc6; rw [hl7] at hc7)
        | (go_at_call 27; refine HS.out.mono ?_; rintro e w8 ⟨rfl, hb8⟩))
      have hb08 := hb07.trans (hb8.mono hb07.size)
      have HR6 := Lib.hid hr6
      have HR7 := Lib.hid hr7
      have HL6 := Lib.hid hl6
      have HL7 := Lib.hid hl7
      have hcp : IL.length ≤ 9223372036854775807 := by unfold maxLen at hcm6; omega
      clear hr6 hr7 hl6 hl7 hu4 hu5
      go_loopw [17] (fun i wr => ∃ k : Nat, k ≤ IL.length ∧ i = .int .i64 k ∧ Below w8.heap.size w8 wr) (fun i _ => IL.length - (intOf i).toNat)
      case atStart => exact ⟨0, Nat.zero_le _, rfl, Below.refl _ _⟩
      case round =>
        obtain ⟨k, hk, rfl, hbel⟩ := hrel
        have hb7r := hb8.trans (hbel.mono hb8.size)
        by_cases hlt : k < IL.length
        · obtain ⟨r, hr⟩ : ∃ r, IL[k]? = some r := ⟨_, List.getElem?_eq_getElem hlt⟩
          obtain ⟨x6, hx6⟩ : ∃ x, vs6[k]? = some x := ⟨_, List.getElem?_eq_getElem (by rw [HL6.out]; exact hlt)⟩
          obtain ⟨x7, hx7⟩ : ∃ x, vs7[k]? = some x := ⟨_, List.getElem?_eq_getElem (by rw [HL7.out]; exact hlt)⟩
          obtain ⟨b6, o6, rfl, hcell6⟩ := (ha6.below hb7r (Nat.le_refl _)).cell (j := k) (by rw [HL6.out]; exact hlt)
          obtain ⟨b7, o7, rfl, hcell7⟩ := (ha7.below hb7r (Nat.le_refl _)).cell (j := k) (by rw [HL7.out]; exact hlt)
          have d6 := hcell6 k _ hx6
          have d7 := hcell7 k _ hx7
          have HP6 := Lib.hid ((HR6.out k x6 r hx6 hr).below hb7r)
          have HP7 := Lib.hid ((HR7.out k x7 r hx7 hr).below hb7r)
          have HSK := Lib.hid (fun W (hb : Hid (Below wr.heap.size wr W)) => sameR_any r r x6 x7 W (HP6.out.below hb.out) (HP7.out.below hb.out))
          rw [decide_eq_true (rfl : r = r)] at HSK
          obtain ⟨y6, z6, rfl, _⟩ := HP6.out
          obtain ⟨y7, z7, rfl, _⟩ := HP7.out
          have HD6 := Lib.hid d6
          have HD7 := Lib.hid d7
          have HBE := Lib.hid hbel
          have hkl : (k : Int) < (IL.length : Int) := by omega
          clear hcell6 hcell7 hx6 hx7 hr ha6 ha7 hbel hb7r
          go_wp2_with fail
          go_region_held3 (fun w' => w'.cell? ⟨b6, o6 + k, none⟩ = some (.slice y6 r.length z6) ∧ w'.cell? ⟨b7, o7 + k, none⟩ = some (.slice y7 r.length z7) ∧ Hid (Below wr.heap.size wr w'))
            (first | exact keepS2 hbk (by assumption) | exact ⟨HD6.out, HD7.out, Lib.hid (Below.refl _ _).drew⟩)
            (first
              | (go_at_call 27; refine (HSK.out _ (And.right (And.right (by assumption)))).mono ?_; rintro e wk ⟨rfl, hbk⟩))
          have hS : wk.cell? ⟨b6, o6 + k, none⟩ = some (.slice y6 r.length z6) ∧ wk.cell? ⟨b7, o7 + k, none⟩ = some (.slice y7 r.length z7) ∧ Hid (Below wr.heap.size wr wk) := by assumption
          have HBK := Lib.hid (HBE.out.trans (hS.2.2.out.mono HBE.out.size))
          clear hS
          go_wp2_with fail
          go_roundw
          case rel => exact ⟨k + 1, by omega, by go_num, HBK.out⟩
          case measure => simp [intOf]; omega
        · obtain rfl : k = IL.length := by omega
          have hb9 := hb08.trans (hbel.mono hb08.size)
          clear ha6 ha7
          go_wp2_with (first
            | (go_at_call 16; refine (HSN.out _).mono ?_; rintro e wz ⟨rfl, hbz⟩))
          go_ret
          exact ⟨rfl, hb9.trans (hbz.mono hb9.size)⟩

end Go.Proofs.Ytnaoanmkepcinaa

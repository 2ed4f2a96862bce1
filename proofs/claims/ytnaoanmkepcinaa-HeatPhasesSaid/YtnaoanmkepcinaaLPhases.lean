/- Heat: the law HeatPhases, walked. -/
import Derived.Test.YtnaoanmkepcinaaHPhC
import Derived.Test.YtnaoanmkepcinaaHSame
namespace Go.Proofs.Ytnaoanmkepcinaa
open Go.RowKit

set_option maxRecDepth 100000 in
set_option maxHeartbeats 4000000 in
theorem law_phases (u : Value) (m : List (List Int)) (x : Value) (S : List Int) (y : Value) (T : List Int) (w : World) (hv : RdM w u m) (_ : ∀ r ∈ m, ∀ x ∈ r, (Lit.int .i64 x).wf = true)
    (hS : Rd w x (ints S)) (_ : ∀ x ∈ S, (Lit.int .i64 x).wf = true) (hT : Rd w y (ints T)) (_ : ∀ x ∈ T, (Lit.int .i64 x).wf = true) :
    Calls Try.prog 8 #[.agg #[u, x, y]] w fun e w' => e = .returned (.bool true) ∧ Below w.heap.size w w' := by
  have HV := Lib.hid hv
  have HS := Lib.hid hS
  have HT := Lib.hid hT
  have HSN := Lib.hid (fun W => sane_any W)
  have HWD := Lib.hid (fun W hb => wide_any _ m W (HV.out.below (w' := W) hb))
  obtain ⟨vs, ⟨a, cap, rfl, hc, hcm, ha, _⟩, hr⟩ := hv
  obtain ⟨ab, capb, rfl, hcb, hcmb, hab, _⟩ := hS
  obtain ⟨aw, capw, rfl, hcw, hcmw, haw, _⟩ := hT
  rw [hr.1] at HV HWD hc ⊢
  rw [ints_length] at hcb HS hcw HT ⊢
  rw [ints_length]
  clear ha hab haw hr
  obtain ⟨W0, hW0⟩ : ∃ W0, w.alloc (.cells #[.slice a m.length cap, .slice ab S.length capb, .slice aw T.length capw] 53) = W0 := ⟨_, rfl⟩
  have hb0 : Hid (Below w.heap.size w (w.alloc (.cells #[.slice a m.length cap, .slice ab S.length capb, .slice aw T.length capw] 53))) := Lib.hid ((Below.refl _ _).alloc (Nat.le_refl _) _)
  have hc0 : Hid ((w.alloc (.cells #[.slice a m.length cap, .slice ab S.length capb, .slice aw T.length capw] 53)).cell? ⟨w.heap.size, 0, none⟩ = some (.slice a m.length cap)) := Lib.hid (World.cell?_alloc_at _ _ _ _ rfl)
  have hc1 : Hid ((w.alloc (.cells #[.slice a m.length cap, .slice ab S.length capb, .slice aw T.length capw] 53)).cell? ⟨w.heap.size, 1, none⟩ = some (.slice ab S.length capb)) := Lib.hid (World.cell?_alloc_at _ _ _ _ rfl)
  have hc2 : Hid ((w.alloc (.cells #[.slice a m.length cap, .slice ab S.length capb, .slice aw T.length capw] 53)).cell? ⟨w.heap.size, 2, none⟩ = some (.slice aw T.length capw)) := Lib.hid (World.cell?_alloc_at _ _ _ _ rfl)
  clear hW0
  by_cases hne : wideB m = true ∨ 20 < S.length ∨ 20 < T.length
  · rcases Bool.eq_false_or_eq_true (wideB m) with hq1 | hq1
    · rw [hq1] at HWD
      clear hq1 hne
      generalize m.length = N at *
      go_enter Try.func8, Try.ntmps8
      go_wp2_with (first
        | (go_at_call 14; refine (HWD.out _ hb0.out).mono ?_; rintro e w1 ⟨rfl, hb1⟩; have hb01 := hb0.out.trans (hb1.mono hb0.out.size))
        | (go_at_call 16; refine (HSN.out _).mono ?_; rintro e w2 ⟨rfl, hb2⟩))
      go_ret
      exact ⟨rfl, hb01.trans (hb2.mono hb01.size)⟩
    · rw [hq1] at HWD hne
      have hne2 : 20 < S.length ∨ 20 < T.length := by simpa using hne
      clear hq1 hne
      generalize m.length = N at *
      by_cases hs20 : 20 < S.length
      · clear hne2
        go_enter Try.func8, Try.ntmps8
        go_wp2_with (first
          | (go_at_call 14; refine (HWD.out _ hb0.out).mono ?_; rintro e w1 ⟨rfl, hb1⟩; have hb01 := hb0.out.trans (hb1.mono hb0.out.size); have c1 := cell_below hc1.out hb1)
          | (go_at_call 16; refine (HSN.out _).mono ?_; rintro e w2 ⟨rfl, hb2⟩))
        go_ret
        exact ⟨rfl, hb01.trans (hb2.mono hb01.size)⟩
      · have ht20 : 20 < T.length := by omega
        clear hne2
        go_enter Try.func8, Try.ntmps8
        go_wp2_with (first
          | (go_at_call 14; refine (HWD.out _ hb0.out).mono ?_; rintro e w1 ⟨rfl, hb1⟩; have hb01 := hb0.out.trans (hb1.mono hb0.out.size); have c1 := cell_below hc1.out hb1; have c2 := cell_below hc2.out hb1)
          | (go_at_call 16; refine (HSN.out _).mono ?_; rintro e w2 ⟨rfl, hb2⟩))
        go_ret
        exact ⟨rfl, hb01.trans (hb2.mono hb01.size)⟩
  · have hq1 : wideB m = false := by
      rcases Bool.eq_false_or_eq_true (wideB m) with h | h
      · exact absurd (.inl h) hne
      · exact h
    have hs20 : S.length ≤ 20 := by omega
    have ht20 : T.length ≤ 20 := by omega
    rw [hq1] at HWD
    obtain ⟨h1, h2⟩ := wideB_bd hq1
    have H1 := Lib.hid (fun W hb => Phases_any _ _ _ m S T W (HV.out.below (w' := W) hb) (HS.out.below (w' := W) (B := w.heap.size) hb (Nat.le_refl _)) (HT.out.below (w' := W) (B := w.heap.size) hb (Nat.le_refl _)) h1 h2 (by omega) (by omega))
    have H2 := Lib.hid (fun W hb => refPhases_any _ _ _ m S T W (HV.out.below (w' := W) hb) (HS.out.below (w' := W) (B := w.heap.size) hb (Nat.le_refl _)) (HT.out.below (w' := W) (B := w.heap.size) hb (Nat.le_refl _)) h2 (by omega) (by omega))
    have H3 := Lib.hid (fun W hb => Off_any _ _ _ m S T W (HV.out.below (w' := W) hb) (HS.out.below (w' := W) (B := w.heap.size) hb (Nat.le_refl _)) (HT.out.below (w' := W) (B := w.heap.size) hb (Nat.le_refl _)) h1 h2 (by omega) (by omega))
    have H4 := Lib.hid (fun W hb => refOff_any _ _ _ m S T W (HV.out.below (w' := W) hb) (HS.out.below (w' := W) (B := w.heap.size) hb (Nat.le_refl _)) (HT.out.below (w' := W) (B := w.heap.size) hb (Nat.le_refl _)) h2 (by omega) (by omega))
    clear hne
    generalize psE m S T = E at *
    generalize phA m S T = PL at *
    generalize ofA m S T = OL at *
    clear hq1 h2 HS HT
    generalize m.length = N at *
    have hEE : (E == E) = true := by simp
    go_enter Try.func8, Try.ntmps8
    go_wp2_with (first
      | (go_at_call 14; refine (HWD.out _ hb0.out).mono ?_; rintro e w1 ⟨rfl, hb1⟩; have hb01 := hb0.out.trans (hb1.mono hb0.out.size); have c0 := cell_below hc0.out hb1; have c1 := cell_below hc1.out hb1; have c2 := cell_below hc2.out hb1)
      | (go_at_call 31; refine (H1.out _ hb01).mono ?_; rintro e w2 ⟨u2, rfl, hu2, hb2⟩; have hb02 := hb01.trans (hb2.mono hb01.size); have d0 := cell_below c0 hb2; have d1 := cell_below c1 hb2; have d2 := cell_below c2 hb2)
      | (go_at_call 32; refine (H2.out _ hb02).mono ?_; rintro e w3 ⟨u3, rfl, hu3, hb3⟩; have hb03 := hb02.trans (hb3.mono hb02.size); have e0 := cell_below d0 hb3; have e1 := cell_below d1 hb3; have e2 := cell_below d2 hb3)
      | (go_at_call 33; refine (H3.out _ hb03).mono ?_; rintro e w4 ⟨u4, rfl, hu4, hb4⟩; have hb04 := hb03.trans (hb4.mono hb03.size); have f0 := cell_below e0 hb4; have f1 := cell_below e1 hb4; have f2 := cell_below e2 hb4)
      | (go_at_call 34; refine (H4.out _ hb04).mono ?_; rintro e w5 ⟨u5, rfl, hu5, hb5⟩; have hb05 := hb04.trans (hb5.mono hb04.size); have HQ1 := Lib.hid (fun W hb => same_any PL PL u2 u3 W (((Rd.own (own_below (own_below (own_below hu2 hb3) hb4) hb5))).below (w' := W) (B := w5.heap.size) hb (Nat.le_refl _)) ((Rd.own (own_below (own_below hu3 hb4) hb5)).below hb (Nat.le_refl _))); have HQ2 := Lib.hid (fun W hb => same_any OL OL u4 u5 W ((Rd.own (own_below hu4 hb5)).below (w' := W) (B := w5.heap.size) hb (Nat.le_refl _)) ((Rd.own hu5).below hb (Nat.le_refl _))); rw [decide_eq_true (rfl : PL = PL)] at HQ1; rw [decide_eq_true (rfl : OL = OL)] at HQ2)
      | (go_at_call 30; (with_reducible refine (HQ1.out _ (Below.refl _ _)).mono ?_); rintro e w6 ⟨rfl, hb6⟩)
      | (go_at_call 30; (with_reducible refine (HQ2.out _ hb6).mono ?_); rintro e w7 ⟨rfl, hb7⟩; have hb07 := hb05.trans ((hb6.trans (hb7.mono hb6.size)).mono hb05.size))
      | (go_at_call 16; refine (HSN.out _).mono ?_; rintro e w8 ⟨rfl, hb8⟩))
    go_ret
    exact ⟨rfl, hb07.trans (hb8.mono hb07.size)⟩

end Go.Proofs.Ytnaoanmkepcinaa

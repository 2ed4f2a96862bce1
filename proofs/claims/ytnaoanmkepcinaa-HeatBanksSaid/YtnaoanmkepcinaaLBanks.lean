/- Heat: the law HeatBanks, walked. -/
import Derived.Test.YtnaoanmkepcinaaHBanks3
import Derived.Deep.RegionHeld3
namespace Go.Proofs.Ytnaoanmkepcinaa
open Go.RowKit

theorem keepS {w0 W w' : World} {a : Addr} {v : Value} (hb : Below W.heap.size W w') (hS : W.cell? a = some v ∧ Hid (Below w0.heap.size w0 W)) : w'.cell? a = some v ∧ Hid (Below w0.heap.size w0 w') :=
  ⟨cell_below hS.1 hb, Lib.hid (hS.2.out.trans (hb.mono hS.2.out.size))⟩

set_option maxRecDepth 100000 in
set_option maxHeartbeats 2000000 in
theorem law_banks (v : Value) (m : List (List Int)) (w : World) (hv : RdM w v m) (_ : ∀ r ∈ m, ∀ x ∈ r, (Lit.int .i64 x).wf = true) :
    Calls Try.prog 9 #[.agg #[v]] w fun e w' => e = .returned (.bool true) ∧ Below w.heap.size w w' := by
  have HV := Lib.hid hv
  have HSN := Lib.hid (fun W => sane_any W)
  have HWD := Lib.hid (fun W hb => wide_any _ m W (HV.out.below (w' := W) hb))
  have hb0 : Hid (Below w.heap.size w (w.alloc (.cells #[v] 24))) := Lib.hid ((Below.refl _ _).alloc (Nat.le_refl _) _)
  have hcB : Hid ((w.alloc (.cells #[v] 24)).cell? ⟨w.heap.size, 0, none⟩ = some v) := Lib.hid (World.cell?_alloc_at _ _ _ _ rfl)
  obtain ⟨vs, ⟨a, cap, rfl, hc, hcm, ha, _⟩, hr⟩ := hv
  rw [hr.1] at HV HWD hc hb0 hcB ⊢
  clear ha hr
  cases hq1 : wideB m with
  | true =>
    rw [hq1] at HWD
    clear hq1
    generalize m.length = N at *
    go_enter Try.func9, Try.ntmps9
    go_wp2_with (first
      | (go_at_call 14; refine (HWD.out _ hb0.out).mono ?_; rintro e w1 ⟨rfl, hb1⟩; have hb01 := hb0.out.trans (hb1.mono hb0.out.size))
      | (go_at_call 16; refine (HSN.out _).mono ?_; rintro e w2 ⟨rfl, hb2⟩))
    go_ret
    exact ⟨rfl, hb01.trans (hb2.mono hb01.size)⟩
  | false =>
    rw [hq1] at HWD
    obtain ⟨h1, h2⟩ := wideB_bd hq1
    have H1 := Lib.hid (fun W hb => Dominant_any _ m W (HV.out.below (w' := W) hb) h1 h2)
    have H2 := Lib.hid (fun W hb => refDominant_any _ m W (HV.out.below (w' := W) hb) h2)
    have H3 := Lib.hid (fun W hb => Talk_any _ m W (HV.out.below (w' := W) hb) h1 h2)
    have H4 := Lib.hid (fun W hb => refTalk_any _ m W (HV.out.below (w' := W) hb) h2)
    have H5 := Lib.hid (fun W hb => Bound_any _ m W (HV.out.below (w' := W) hb) h1 h2)
    have H6 := Lib.hid (fun W hb => refBound_any _ m W (HV.out.below (w' := W) hb) h2)
    have H7 := Lib.hid (fun W hb => valid_any _ m W (HV.out.below (w' := W) hb) h1 h2)
    have H8 := Lib.hid (fun W hb => refValid_any _ m W (HV.out.below (w' := W) hb) h2)
    generalize dmV m = dm at *
    generalize heatE m = E at *
    generalize tkV m = tk at *
    generalize bndL m = L at *
    generalize vB m = vb at *
    clear hq1 h2
    generalize m.length = N at *
    go_enter Try.func9, Try.ntmps9
    go_wp2_with (first
      | (go_at_call 14; refine (HWD.out _ hb0.out).mono ?_; rintro e w1 ⟨rfl, hb1⟩; have hb01 := hb0.out.trans (hb1.mono hb0.out.size); have c1 := cell_below hcB.out hb1)
      | (go_at_call 35; refine (H1.out _ hb01).mono ?_; rintro e w2 ⟨rfl, hb2⟩; have hb02 := hb01.trans (hb2.mono hb01.size); have c2 := cell_below c1 hb2)
      | (go_at_call 36; refine (H2.out _ hb02).mono ?_; rintro e w3 ⟨rfl, hb3⟩; have hb03 := hb02.trans (hb3.mono hb02.size); have c3 := cell_below c2 hb3)
      | (go_at_call 37; refine (H3.out _ hb03).mono ?_; rintro e w4 ⟨rfl, hb4⟩; have hb04 := hb03.trans (hb4.mono hb03.size); have c4 := cell_below c3 hb4)
      | (go_at_call 38; refine (H4.out _ hb04).mono ?_; rintro e w5 ⟨rfl, hb5⟩; have hb05 := hb04.trans (hb5.mono hb04.size); have c5 := cell_below c4 hb5)
      | (go_at_call 39; refine (H5.out _ hb05).mono ?_; rintro e w6 ⟨u6, rfl, hu6, hb6⟩; have hb06 := hb05.trans (hb6.mono hb05.size); have c6 := cell_below c5 hb6)
      | (go_at_call 40; refine (H6.out _ hb06).mono ?_; rintro e w7 ⟨u7, rfl, hu7, hb7⟩; have hb07 := hb06.trans (hb7.mono hb06.size); have c7 := cell_below c6 hb7))
    have HSM := Lib.hid (fun W hb => same_any L L u6 u7 W ((Rd.own (own_below hu6 hb7)).below (w' := W) (B := w7.heap.size) hb (Nat.le_refl _)) ((Rd.own hu7).below hb (Nat.le_refl _)))
    rw [decide_eq_true (rfl : L = L)] at HSM
    have hz7 := hb07.size
    have HB7 := Lib.hid hb07
    have HC7 := Lib.hid c7
    have H7b := Lib.hid (fun W (hb : Hid (Below w7.heap.size w7 W)) => H7.out W (hb07.trans (hb.out.mono hz7)))
    have H8b := Lib.hid (fun W (hb : Hid (Below w7.heap.size w7 W)) => H8.out W (hb07.trans (hb.out.mono hz7)))
    have HSMb := Lib.hid (fun W (hb : Hid (Below w7.heap.size w7 W)) => HSM.out W hb.out)
    have hbq : (vb == vb) = true := by simp
    have hbd : (dm == dm) = true := by simp
    clear hu6 hu7 hb0 hcB c1 c2 c3 c4 c5 c6 hb1 hb2 hb3 hb4 hb5 hb6 hb01 hb02 hb03 hb04 hb05 hb06 hb07 hb7
    go_region_held3 (fun w' => w'.cell? ⟨w.heap.size, 0, none⟩ = some (.slice a N cap) ∧ Hid (Below w7.heap.size w7 w'))
      (first | exact keepS hbk (by assumption) | exact ⟨HC7.out, Lib.hid (Below.refl _ _).drew⟩)
      (first
        | (go_at_call 41; refine (H7b.out _ (And.right (by assumption))).mono ?_; rintro e wk ⟨rfl, hbk⟩)
        | (go_at_call 15; refine (H8b.out _ (And.right (by assumption))).mono ?_; rintro e wk ⟨rfl, hbk⟩)
        | (go_at_call 30; refine (HSMb.out _ (And.right (by assumption))).mono ?_; rintro e wk ⟨rfl, hbk⟩)
        | (go_at_call 16; refine (HSN.out _).mono ?_; rintro e wk ⟨rfl, hbk⟩))
    have hS : wk.cell? ⟨w.heap.size, 0, none⟩ = some (.slice a N cap) ∧ Hid (Below w7.heap.size w7 wk) := by assumption
    go_wp2_with fail
    go_ret
    exact ⟨rfl, HB7.out.trans (hS.2.out.mono hz7)⟩

end Go.Proofs.Ytnaoanmkepcinaa

/- Heat: the law HeatCheapest, walked. -/
import Derived.Test.YtnaoanmkepcinaaHCe
import Derived.Test.YtnaoanmkepcinaaHSame
namespace Go.Proofs.Ytnaoanmkepcinaa
open Go.RowKit

set_option maxRecDepth 100000 in
set_option maxHeartbeats 4000000 in
theorem law_cheapest (v : Value) (m : List (List Int)) (wv : Value) (want : List Int) (s t : Int) (w : World) (hv : RdM w v m) (_ : ∀ r ∈ m, ∀ x ∈ r, (Lit.int .i64 x).wf = true) (hwv : Rd w wv (ints want)) (_ : ∀ x ∈ want, (Lit.int .i64 x).wf = true)
    (_ : (Lit.int .i64 s).wf = true) (_ : (Lit.int .i64 t).wf = true) :
    Calls Try.prog 11 #[.agg #[v], wv, .agg #[.int .i64 s, .int .i64 t]] w fun e w' => e = .returned (.bool true) ∧ Below w.heap.size w w' := by
  have HV := Lib.hid hv
  have HS := Lib.hid hwv
  have HSN := Lib.hid (fun W => sane_any W)
  have HWD := Lib.hid (fun W hb => wide_any _ m W (HV.out.below (w' := W) hb))
  obtain ⟨vs, ⟨a, cap, rfl, hc, hcm, ha, _⟩, hr⟩ := hv
  obtain ⟨ab, capb, rfl, hcb, hcmb, hab, _⟩ := hwv
  rw [hr.1] at HV HWD hc ⊢
  rw [ints_length] at hcb HS ⊢
  clear ha hab hr
  have hb0 : Hid (Below w.heap.size w ((w.alloc (.cells #[.slice a m.length cap] 24)).alloc (.cells #[.int .i64 s, .int .i64 t] 36))) := Lib.hid (((Below.refl _ _).alloc (Nat.le_refl _) _).alloc (by simp) _)
  have hc0 : Hid (((w.alloc (.cells #[.slice a m.length cap] 24)).alloc (.cells #[.int .i64 s, .int .i64 t] 36)).cell? ⟨w.heap.size, 0, none⟩ = some (.slice a m.length cap)) := Lib.hid (cell_alloc (World.cell?_alloc_at _ _ _ _ rfl) _)
  have hc1 : Hid (((w.alloc (.cells #[.slice a m.length cap] 24)).alloc (.cells #[.int .i64 s, .int .i64 t] 36)).cell? ⟨w.heap.size + 1, 0, none⟩ = some (.int .i64 s)) := Lib.hid (World.cell?_alloc_at _ _ _ _ (by simp))
  have hc2 : Hid (((w.alloc (.cells #[.slice a m.length cap] 24)).alloc (.cells #[.int .i64 s, .int .i64 t] 36)).cell? ⟨w.heap.size + 1, 1, none⟩ = some (.int .i64 t)) := Lib.hid (World.cell?_alloc_at _ _ _ _ (by simp))
  rcases Bool.eq_false_or_eq_true (wideB m) with hq1 | hq1
  · rw [hq1] at HWD
    clear hq1
    generalize m.length = N at *
    go_enter Try.func11, Try.ntmps11
    go_wp2_with (first
      | (go_at_call 14; refine (HWD.out _ hb0.out).mono ?_; rintro e w1 ⟨rfl, hb1⟩; have hb01 := hb0.out.trans (hb1.mono hb0.out.size))
      | (go_at_call 16; refine (HSN.out _).mono ?_; rintro e w2 ⟨rfl, hb2⟩))
    go_ret
    exact ⟨rfl, hb01.trans (hb2.mono hb01.size)⟩
  · rw [hq1] at HWD
    by_cases hs20 : 20 < want.length
    · clear hq1
      generalize m.length = N at *
      go_enter Try.func11, Try.ntmps11
      go_wp2_with (first
        | (go_at_call 14; refine (HWD.out _ hb0.out).mono ?_; rintro e w1 ⟨rfl, hb1⟩; have hb01 := hb0.out.trans (hb1.mono hb0.out.size))
        | (go_at_call 16; refine (HSN.out _).mono ?_; rintro e w2 ⟨rfl, hb2⟩))
      go_ret
      exact ⟨rfl, hb01.trans (hb2.mono hb01.size)⟩
    · obtain ⟨h1, h2⟩ := wideB_bd hq1
      have hs20' : want.length ≤ 20 := by omega
      have H1 := Lib.hid (fun W hb => Cheapest_any _ _ m want s t W (HV.out.below (w' := W) hb) (HS.out.below (w' := W) (B := w.heap.size) hb (Nat.le_refl _)) h1 h2 (by omega))
      have H2 := Lib.hid (fun W hb => refCheapest_any _ _ m want s t W (HV.out.below (w' := W) hb) (HS.out.below (w' := W) (B := w.heap.size) hb (Nat.le_refl _)) h2 (by omega))
      generalize chE m want s t = E at *
      generalize chR m want s t = L at *
      clear hq1 h2 HS hs20
      generalize m.length = N at *
      have hEE : (E == E) = true := by simp
      go_enter Try.func11, Try.ntmps11
      go_wp2_with (first
        | (go_at_call 14; refine (HWD.out _ hb0.out).mono ?_; rintro e w1 ⟨rfl, hb1⟩; have hb01 := hb0.out.trans (hb1.mono hb0.out.size); have c0 := cell_below hc0.out hb1; have c1 := cell_below hc1.out hb1; have c2 := cell_below hc2.out hb1)
        | (go_at_call 44; refine (H1.out _ hb01).mono ?_; rintro e w2 ⟨u2, rfl, hu2, hb2⟩; have hb02 := hb01.trans (hb2.mono hb01.size); have d0 := cell_below c0 hb2; have d1 := cell_below c1 hb2; have d2 := cell_below c2 hb2)
        | (go_at_call 45; refine (H2.out _ hb02).mono ?_; rintro e w3 ⟨u3, rfl, hu3, hb3⟩; have hb03 := hb02.trans (hb3.mono hb02.size); have HQ1 := Lib.hid (same_any L L u2 u3 w3 (hu2.below hb3 (Nat.le_refl _)) hu3); rw [decide_eq_true (rfl : L = L)] at HQ1)
        | (go_at_call 30; refine HQ1.out.mono ?_; rintro e w4 ⟨rfl, hb4⟩; have hb04 := hb03.trans (hb4.mono hb03.size))
        | (go_at_call 16; refine (HSN.out _).mono ?_; rintro e w8 ⟨rfl, hb8⟩))
      go_ret
      exact ⟨rfl, hb04.trans (hb8.mono hb04.size)⟩

end Go.Proofs.Ytnaoanmkepcinaa

/- Heat: the law HeatSpreads, walked. -/
import Derived.Test.YtnaoanmkepcinaaHSpread2
import Derived.Test.YtnaoanmkepcinaaHPairEq
namespace Go.Proofs.Ytnaoanmkepcinaa
open Go.RowKit

set_option maxRecDepth 100000 in
set_option maxHeartbeats 1000000 in
theorem law_spreads (v : Value) (m : List (List Int)) (wv : Value) (pw : List Int) (L : Int) (w : World) (hv : RdM w v m) (_ : ∀ r ∈ m, ∀ x ∈ r, (Lit.int .i64 x).wf = true) (hwv : Rd w wv (ints pw)) (_ : ∀ x ∈ pw, (Lit.int .i64 x).wf = true) (_ : (Lit.int .i64 L).wf = true) :
    Calls Try.prog 5 #[.agg #[v], wv, .int .i64 L] w fun e w' => e = .returned (.bool true) ∧ Below w.heap.size w w' := by
  have HV := Lib.hid hv
  have HWV := Lib.hid hwv
  have HSN := Lib.hid (fun W => sane_any W)
  have HWD := Lib.hid (fun W hb => wide_any _ m W (HV.out.below (w' := W) hb))
  have hb0 : Hid (Below w.heap.size w (w.alloc (.cells #[v] 24))) := Lib.hid ((Below.refl _ _).alloc (Nat.le_refl _) _)
  have hcB : Hid ((w.alloc (.cells #[v] 24)).cell? ⟨w.heap.size, 0, none⟩ = some v) := Lib.hid (World.cell?_alloc_at _ _ _ _ rfl)
  obtain ⟨vs, ⟨a, cap, rfl, hc, hcm, ha, _⟩, hr⟩ := hv
  obtain ⟨aw, capw, rfl, hcw, hcmw, haw, _⟩ := hwv
  unfold maxLen at hcm hcmw
  rw [hr.1] at HV HWD hc hb0 hcB ⊢
  rw [ints_length] at HWV hcw ⊢
  clear ha haw hr
  cases hq1 : wideB m with
  | true =>
    rw [hq1] at HWD
    clear hq1
    go_enter Try.func5, Try.ntmps5
    go_wp2_with (first
      | (go_at_call 14; refine (HWD.out _ hb0.out).mono ?_; rintro e w1 ⟨rfl, hb1⟩; have hb01 := hb0.out.trans (hb1.mono hb0.out.size))
      | (go_at_call 16; refine (HSN.out _).mono ?_; rintro e w2 ⟨rfl, hb2⟩))
    go_ret
    exact ⟨rfl, hb01.trans (hb2.mono hb01.size)⟩
  | false =>
    rw [hq1] at HWD
    obtain ⟨h1, h2⟩ := wideB_bd hq1
    by_cases hl : pw.length > 20
    · clear hq1
      go_enter Try.func5, Try.ntmps5
      go_wp2_with (first
        | (go_at_call 14; refine (HWD.out _ hb0.out).mono ?_; rintro e w1 ⟨rfl, hb1⟩; have hb01 := hb0.out.trans (hb1.mono hb0.out.size))
        | (go_at_call 16; refine (HSN.out _).mono ?_; rintro e w2 ⟨rfl, hb2⟩))
      go_ret
      exact ⟨rfl, hb01.trans (hb2.mono hb01.size)⟩
    · have H1 := Lib.hid (fun W hb => Spread_any _ _ m pw L W (HV.out.below (w' := W) hb) (HWV.out.below (w' := W) hb (Nat.le_refl _)) h1 h2 (by omega))
      have H2 := Lib.hid (fun W hb => refSpread_any _ _ m pw L W (HV.out.below (w' := W) hb) (HWV.out.below (w' := W) hb (Nat.le_refl _)) h2 (by omega))
      generalize (spO m pw L).1 = x at *
      generalize (spO m pw L).2 = y at *
      generalize spE m pw L = E at *
      have heq : ∀ W, (Op.equalIn 10000 36 (.agg #[.int .i64 x, .int .i64 y]) (.agg #[.int .i64 x, .int .i64 y])).run Try.prog W = .ok true W := fun W => by rw [eq2]; simp
      clear hq1 h2
      generalize m.length = N at *
      go_enter Try.func5, Try.ntmps5
      go_wp2_with (first
        | (go_at_call 14; refine (HWD.out _ hb0.out).mono ?_; rintro e w1 ⟨rfl, hb1⟩; have hb01 := hb0.out.trans (hb1.mono hb0.out.size); have c1 := cell_below hcB.out hb1)
        | (go_at_call 20; refine (H1.out _ hb01).mono ?_; rintro e w2 ⟨rfl, hb2⟩; have hb02 := hb01.trans (hb2.mono hb01.size); have c2 := cell_below c1 hb2; have hz2 : w.heap.size < w2.heap.size := World.block_lt_of_cell? _ _ c2; have hT := Two.made w2 x y 36)
        | (go_at_call 21; refine (H2.out _ (hb02.alloc hb02.size _)).mono ?_; rintro e w3 ⟨rfl, hb3⟩; have hb03 := (hb02.alloc hb02.size _).trans (hb3.mono (by have := hb02.size; simp; omega)); obtain ⟨d1, d2, _, _⟩ := (hT.below hb3).below (w' := w3.alloc (.cells #[.int .i64 x, .int .i64 y] 36)) ((Below.refl _ _).alloc (Nat.le_refl _) _))
        | (go_at_call 16; refine (HSN.out _).mono ?_; rintro e w4 ⟨rfl, hb4⟩))
      go_ret
      exact ⟨rfl, (hb03.alloc hb03.size _).trans (hb4.mono (by have := hb03.size; simp; omega))⟩

end Go.Proofs.Ytnaoanmkepcinaa

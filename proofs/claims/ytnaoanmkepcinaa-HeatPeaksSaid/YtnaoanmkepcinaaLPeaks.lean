/- Heat: the law HeatPeaks, walked. -/
import Derived.Test.YtnaoanmkepcinaaHPeak3
namespace Go.Proofs.Ytnaoanmkepcinaa
open Go.RowKit

set_option maxRecDepth 100000 in
set_option maxHeartbeats 1000000 in
theorem law_peaks (v : Value) (l : List Int) (sv : Value) (st : List (Int × Int)) (w : World) (hv : Rd w v (ints l)) (_ : ∀ x ∈ l, (Lit.int .i64 x).wf = true) (hsv : RdP w sv st) (_ : ∀ x ∈ st, (Lit.int .i64 x.1).wf = true ∧ (Lit.int .i64 x.2).wf = true) :
    Calls Try.prog 4 #[v, sv] w fun e w' => e = .returned (.bool true) ∧ Below w.heap.size w w' := by
  have HV := Lib.hid hv
  have HSV := Lib.hid hsv
  have HSN := Lib.hid (fun W => sane_any W)
  obtain ⟨a, cap, rfl, hc, hcm, ha, _⟩ := hv
  obtain ⟨a2, cap2, rfl, hc2, hcm2, ha2, _⟩ := hsv
  unfold maxLen at hcm hcm2
  rw [ints_length] at *
  clear ha ha2
  by_cases h1 : l.length > 20
  · go_enter Try.func4, Try.ntmps4
    go_wp2_with (first
      | (go_at_call 16; refine (HSN.out _).mono ?_; rintro e w2 ⟨rfl, hb2⟩))
    go_ret
    exact ⟨rfl, hb2⟩
  · by_cases h2 : st.length > 110
    · go_enter Try.func4, Try.ntmps4
      go_wp2_with (first
        | (go_at_call 16; refine (HSN.out _).mono ?_; rintro e w2 ⟨rfl, hb2⟩))
      go_ret
      exact ⟨rfl, hb2⟩
    · have H1 := Lib.hid (Peak_any _ _ l st w HV.out HSV.out (by omega) (by omega))
      have H2 := Lib.hid (fun W hb => refPeak_any _ _ l st W (HV.out.below (w' := W) (B := w.heap.size) hb (Nat.le_refl _)) (HSV.out.below (w' := W) hb) (by omega) (by omega))
      generalize pkV l st = PV at *
      generalize pkE l st = E at *
      go_enter Try.func4, Try.ntmps4
      go_wp2_with (first
        | (go_at_call 18; refine H1.out.mono ?_; rintro e w1 ⟨rfl, hb1⟩)
        | (go_at_call 19; refine (H2.out _ hb1).mono ?_; rintro e w2 ⟨rfl, hb2⟩; have hb02 := hb1.trans (hb2.mono hb1.size))
        | (go_at_call 16; refine (HSN.out _).mono ?_; rintro e w4 ⟨rfl, hb4⟩))
      go_ret
      exact ⟨rfl, hb02.trans (hb4.mono hb02.size)⟩

end Go.Proofs.Ytnaoanmkepcinaa

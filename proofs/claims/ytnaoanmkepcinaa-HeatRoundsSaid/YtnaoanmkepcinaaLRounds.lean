/- Heat: the law HeatRounds, walked. -/
import Derived.Test.YtnaoanmkepcinaaHRound2
namespace Go.Proofs.Ytnaoanmkepcinaa
open Go.RowKit

set_option maxRecDepth 100000 in
set_option maxHeartbeats 1000000 in
theorem law_rounds (v : Value) (l : List (Int × Int)) (w : World) (hv : RdP w v l) (_hw : ∀ x ∈ l, (Lit.int .i64 x.1).wf = true ∧ (Lit.int .i64 x.2).wf = true) :
    Calls Try.prog 7 #[v] w fun e w' => e = .returned (.bool true) ∧ Below w.heap.size w w' := by
  have HV := Lib.hid hv
  have HSN := Lib.hid (fun W => sane_any W)
  obtain ⟨a, cap, rfl, hc, hcm, ha, _⟩ := hv
  unfold maxLen at hcm
  clear ha
  by_cases hl : l.length > 20
  · go_enter Try.func7, Try.ntmps7
    go_wp2_with (first | (go_at_call 16; refine (HSN.out _).mono ?_; rintro e w1 ⟨rfl, hb1⟩))
    go_ret
    exact ⟨rfl, hb1⟩
  · have H1 := Lib.hid (Round_any _ l w HV.out (by omega))
    have H2 := Lib.hid (fun W hb => refRound_any _ l W (HV.out.below (w' := W) hb) (by omega))
    have HD : Hid (decide (rndL l = rndL l) = true) := Lib.hid (by simp)
    go_enter Try.func7, Try.ntmps7
    go_wp2_with (first
      | (go_at_call 28; refine H1.out.mono ?_; rintro e w1 ⟨u1, rfl, hu1, hb1⟩)
      | (go_at_call 29; refine (H2.out w1 hb1).mono ?_; rintro e w2 ⟨u2, rfl, hu2, hb2⟩; have HS := Lib.hid (same_any (rndL l) (rndL l) u1 u2 w2 (Rd.own (own_below hu1 hb2)) (Rd.own hu2)); rw [decide_eq_true (rfl : rndL l = rndL l)] at HS)
      | (go_at_call 30; refine HS.out.mono ?_; rintro e w3 ⟨rfl, hb3⟩)
      | (go_at_call 16; refine (HSN.out _).mono ?_; rintro e w4 ⟨rfl, hb4⟩))
    go_ret
    exact ⟨rfl, ((hb1.trans (hb2.mono hb1.size)).trans (hb3.mono (by have := hb1.size; have := hb2.size; omega))).trans (hb4.mono (by have := hb1.size; have := hb2.size; have := hb3.size; omega))⟩

end Go.Proofs.Ytnaoanmkepcinaa

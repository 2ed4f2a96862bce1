/- The law BenesThrough: its Go text returns true. -/
import Derived.Test.YtelnlmhelkcliaaTurned
namespace Go.Proofs.Ytelnlmhelkcliaa
open Go.RowKit

set_option maxHeartbeats 400000 in
theorem law_through (n : Int) (v : Value) (S : List Bool) (w : World) (_ : (Lit.int .i64 n).wf = true) (hv : Rd w v (bools S)) :
    Calls Try.prog 3 #[.int .i64 n, v] w fun e w' => e = .returned (.bool true) ∧ Below w.heap.size w w' := by
  have HV := Lib.hid hv
  obtain ⟨a, cap, rfl, hc, hcm, _, _⟩ := hv
  rw [bools_length] at hc HV ⊢
  by_cases hl : 80 < S.length
  · have hl2 : decide ((80 : Int) < (S.length : Int)) = true := by simp; omega
    clear hl
    go_enter Try.func3, Try.ntmps3
    go_wp2_with (go_at_call 15; refine (sane_any _).mono ?_; rintro e w1 ⟨rfl, hb1⟩)
    go_ret
    exact ⟨rfl, hb1⟩
  · have hl2 : decide ((80 : Int) < (S.length : Int)) = false := by simp; omega
    clear hl
    go_enter Try.func3, Try.ntmps3
    go_wp2_with fail
    refine (Through_any n _ S _ HV.out).mono ?_
    rintro e w1 ⟨u1, rfl, hu1, hb1⟩
    have HV1 := Lib.hid (HV.out.below hb1 (Nat.le_refl _))
    have R1 := Rd.own hu1
    go_wp2_with fail
    refine (refThrough_any n _ S _ HV1.out).mono ?_
    rintro e w2 ⟨u2, rfl, hu2, hb2⟩
    have HV2 := Lib.hid (HV1.out.below hb2 (Nat.le_refl _))
    have R2 := Rd.own hu2
    have R1' := R1.below hb2 (Nat.le_refl _)
    have hb12 := hb1.trans (hb2.mono hb1.size)
    clear hu1 hu2 R1 hb1 hb2
    go_wp2_with (first
      | (go_at_call 18; refine (Turned_any n _ S _ HV2.out).mono ?_; rintro e w' ⟨rfl, rfl⟩)
      | (go_at_call 19; refine (refTurned_any n _ S _ HV2.out).mono ?_; rintro e w' ⟨rfl, rfl⟩)
      | (go_at_call 20; refine (same_any _ _ _ _ _ R1' R2).mono ?_; rw [decide_eq_true rfl]; rintro e w3 ⟨rfl, hb3⟩)
      | (go_at_call 15; refine (sane_any _).mono ?_; rintro e w4 ⟨rfl, hb4⟩))
    go_ret
    exact ⟨rfl, (hb12.trans (hb3.mono hb12.size)).trans (hb4.mono (Nat.le_trans hb12.size hb3.size))⟩

end Go.Proofs.Ytelnlmhelkcliaa

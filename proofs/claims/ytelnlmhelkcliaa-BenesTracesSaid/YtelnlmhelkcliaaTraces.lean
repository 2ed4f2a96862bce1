/- Trace in both texts; the laws BenesTraces and BenesChanges: their Go texts return true. -/
import Derived.Test.YtelnlmhelkcliaaTurned
import Derived.Test.YtelnlmhelkcliaaChanged
namespace Go.Proofs.Ytelnlmhelkcliaa
open Go.RowKit

/-- what Trace gives -/
def trcE (n : Int) (len : Nat) (x : Int) : Int := if fitE n len = 0 then (if 0 ≤ x ∧ x < n then 0 else 2) else fitE n len
def trcL (n : Int) (S : List Bool) (x : Int) : List Int := if trcE n S.length x = 0 then trm (lg n) S x.toNat 0 else []

set_option maxHeartbeats 400000 in
theorem Trace_any (n : Int) (v : Value) (S : List Bool) (x : Int) (w : World) (hv : Rd w v (bools S)) :
    Calls Try.prog 21 #[.int .i64 n, v, .int .i64 x] w fun e w' => ∃ u, e = .returned (.tuple #[u, .int .i64 (trcE n S.length x)]) ∧ w'.ownsRow w.heap.size 3 1 u (trcL n S x).length (ints (trcL n S x)) ∧ Below w.heap.size w w' := by
  by_cases h0 : fitE n S.length = 0
  · by_cases hx : 0 ≤ x ∧ x < n
    · have hE : trcE n S.length x = 0 := by unfold trcE; rw [if_pos h0, if_pos hx]
      have hL : trcL n S x = trm (lg n) S x.toNat 0 := if_pos hE
      rcases fitE_cases n S.length with ⟨_, h⟩ | ⟨_, _, h⟩ | ⟨hz, hl, _⟩
      · omega
      · omega
      · obtain ⟨hn, hk⟩ := lg_spec n hz
        have h3 := cnt_bd (lg n) hk
        rw [hL, trm_len, hE]
        obtain ⟨i, rfl⟩ := Int.eq_ofNat_of_zero_le hx.1
        have hin := hx.2
        rw [Int.toNat_natCast]
        have hik : i < pw (lg n) := by omega
        have hS : S.length ≤ 1000 := by omega
        have hS2 : 0 + cnt (lg n) ≤ S.length := by omega
        have HN := Lib.hid hn
        have HE := Lib.hid h0
        have HL := Lib.hid hl
        clear hn h0 hl hL hz hE hx
        go_enter Try.func21, Try.ntmps21
        go_wp2_with (first
          | (go_at_call 42; refine (fits_any _ _ S _ hv).mono ?_; rw [HE.out]; rintro e w' ⟨rfl, rfl⟩)
          | (go_at_call 47; refine (trace_any _ _ _ _ _ S i 0 _ hk HN.out rfl rfl hik hS2 hS (by rw [seg_all S _ HL.out]; exact hv)).mono ?_; rintro e w1 ⟨u, rfl, hu, hb1⟩))
        go_ret2
        exact ⟨_, rfl, hu, hb1⟩
    · have hE : trcE n S.length x = 2 := by unfold trcE; rw [if_pos h0, if_neg hx]
      have hL : trcL n S x = [] := if_neg (by omega)
      rw [hL, hE]
      have HE := Lib.hid h0
      have hx2 : x < 0 ∨ 0 ≤ x ∧ n ≤ x := by omega
      clear h0 hL hE hx
      rcases hx2 with hx2 | ⟨hx1, hx2⟩
      all_goals
        go_enter Try.func21, Try.ntmps21
        go_wp2_with (go_at_call 42; refine (fits_any _ _ S _ hv).mono ?_; rw [HE.out]; rintro e w' ⟨rfl, rfl⟩)
        go_ret2
        exact ⟨_, rfl, World.ownsRow_nil _ _ _ _, Below.refl _ _⟩
  · have hE : trcE n S.length x = fitE n S.length := by unfold trcE; rw [if_neg h0]
    have hL : trcL n S x = [] := if_neg (by omega)
    rw [hL, hE]
    obtain ⟨y, hy⟩ : ∃ y, y = fitE n S.length := ⟨_, rfl⟩
    rw [← hy] at h0 ⊢
    have hb : (y != 0) = true := by simpa using h0
    have hb2 : (y == 0) = false := by simpa using h0
    have HX := Lib.hid hy
    clear hy h0 hL hE
    go_enter Try.func21, Try.ntmps21
    go_wp2_with (go_at_call 42; refine (fits_any _ _ S _ hv).mono ?_; rw [← HX.out]; rintro e w' ⟨rfl, rfl⟩)
    go_ret2
    exact ⟨_, rfl, World.ownsRow_nil _ _ _ _, Below.refl _ _⟩

set_option maxHeartbeats 400000 in
theorem refTrace_any (n : Int) (v : Value) (S : List Bool) (x : Int) (w : World) (hv : Rd w v (bools S)) :
    Calls Try.prog 22 #[.int .i64 n, v, .int .i64 x] w fun e w' => ∃ u, e = .returned (.tuple #[u, .int .i64 (trcE n S.length x)]) ∧ w'.ownsRow w.heap.size 3 1 u (trcL n S x).length (ints (trcL n S x)) ∧ Below w.heap.size w w' := by
  by_cases h0 : fitE n S.length = 0
  · by_cases hx : 0 ≤ x ∧ x < n
    · have hE : trcE n S.length x = 0 := by unfold trcE; rw [if_pos h0, if_pos hx]
      have hL : trcL n S x = trm (lg n) S x.toNat 0 := if_pos hE
      rcases fitE_cases n S.length with ⟨_, h⟩ | ⟨_, _, h⟩ | ⟨hz, hl, _⟩
      · omega
      · omega
      · obtain ⟨hn, hk⟩ := lg_spec n hz
        have h3 := cnt_bd (lg n) hk
        rw [hL, trm_len, hE]
        obtain ⟨i, rfl⟩ := Int.eq_ofNat_of_zero_le hx.1
        have hin := hx.2
        rw [Int.toNat_natCast]
        have hik : i < pw (lg n) := by omega
        have hS : S.length ≤ 1000 := by omega
        have hS2 : 0 + cnt (lg n) ≤ S.length := by omega
        have HN := Lib.hid hn
        have HE := Lib.hid h0
        have HL := Lib.hid hl
        clear hn h0 hl hL hz hE hx
        go_enter Try.func22, Try.ntmps22
        go_wp2_with (first
          | (go_at_call 44; refine (asked_any _ _ S _ hv).mono ?_; rw [HE.out]; rintro e w' ⟨rfl, rfl⟩)
          | (go_at_call 45; refine (out_any _ _ _ _ _ _ S i 0 0 [] w _ hk HN.out rfl rfl hik hS2 hS hv (Below.refl _ _) (World.ownsRow_nil _ _ _ _) (by omega)).mono ?_; rw [Nat.zero_add, List.nil_append]; rintro e w1 ⟨u, rfl, hu, hb1⟩))
        go_ret2
        exact ⟨_, rfl, hu, hb1⟩
    · have hE : trcE n S.length x = 2 := by unfold trcE; rw [if_pos h0, if_neg hx]
      have hL : trcL n S x = [] := if_neg (by omega)
      rw [hL, hE]
      have HE := Lib.hid h0
      have hx2 : x < 0 ∨ 0 ≤ x ∧ n ≤ x := by omega
      clear h0 hL hE hx
      rcases hx2 with hx2 | ⟨hx1, hx2⟩
      all_goals
        go_enter Try.func22, Try.ntmps22
        go_wp2_with (go_at_call 44; refine (asked_any _ _ S _ hv).mono ?_; rw [HE.out]; rintro e w' ⟨rfl, rfl⟩)
        go_ret2
        exact ⟨_, rfl, World.ownsRow_nil _ _ _ _, Below.refl _ _⟩
  · have hE : trcE n S.length x = fitE n S.length := by unfold trcE; rw [if_neg h0]
    have hL : trcL n S x = [] := if_neg (by omega)
    rw [hL, hE]
    obtain ⟨y, hy⟩ : ∃ y, y = fitE n S.length := ⟨_, rfl⟩
    rw [← hy] at h0 ⊢
    have hb : (y != 0) = true := by simpa using h0
    have hb2 : (y == 0) = false := by simpa using h0
    have HX := Lib.hid hy
    clear hy h0 hL hE
    go_enter Try.func22, Try.ntmps22
    go_wp2_with (go_at_call 44; refine (asked_any _ _ S _ hv).mono ?_; rw [← HX.out]; rintro e w' ⟨rfl, rfl⟩)
    go_ret2
    exact ⟨_, rfl, World.ownsRow_nil _ _ _ _, Below.refl _ _⟩

set_option maxHeartbeats 400000 in
theorem law_traces (n : Int) (v : Value) (S : List Bool) (x : Int) (w : World) (_ : (Lit.int .i64 n).wf = true) (hv : Rd w v (bools S)) (_ : (Lit.int .i64 x).wf = true) :
    Calls Try.prog 4 #[.int .i64 n, v, .int .i64 x] w fun e w' => e = .returned (.bool true) ∧ Below w.heap.size w w' := by
  have HV := Lib.hid hv
  obtain ⟨a, cap, rfl, hc, hcm, _, _⟩ := hv
  rw [bools_length] at hc HV ⊢
  by_cases hl : 80 < S.length
  · have hl2 : decide ((80 : Int) < (S.length : Int)) = true := by simp; omega
    clear hl
    go_enter Try.func4, Try.ntmps4
    go_wp2_with (go_at_call 15; refine (sane_any _).mono ?_; rintro e w1 ⟨rfl, hb1⟩)
    go_ret
    exact ⟨rfl, hb1⟩
  · have hl2 : decide ((80 : Int) < (S.length : Int)) = false := by simp; omega
    clear hl
    go_enter Try.func4, Try.ntmps4
    go_wp2_with fail
    refine (Trace_any n _ S x _ HV.out).mono ?_
    rintro e w1 ⟨u1, rfl, hu1, hb1⟩
    have HV1 := Lib.hid (HV.out.below hb1 (Nat.le_refl _))
    have R1 := Rd.own hu1
    go_wp2_with fail
    refine (refTrace_any n _ S x _ HV1.out).mono ?_
    rintro e w2 ⟨u2, rfl, hu2, hb2⟩
    have R2 := Rd.own hu2
    have R1' := R1.below hb2 (Nat.le_refl _)
    have hb12 := hb1.trans (hb2.mono hb1.size)
    clear hu1 hu2 R1 hb1 hb2
    go_wp2_with (first
      | (go_at_call 20; refine (same_any _ _ _ _ _ R1' R2).mono ?_; rw [decide_eq_true rfl]; rintro e w3 ⟨rfl, hb3⟩)
      | (go_at_call 15; refine (sane_any _).mono ?_; rintro e w4 ⟨rfl, hb4⟩))
    go_ret
    exact ⟨rfl, (hb12.trans (hb3.mono hb12.size)).trans (hb4.mono (Nat.le_trans hb12.size hb3.size))⟩

set_option maxHeartbeats 400000 in
theorem law_changes (v : Value) (S : List Bool) (v2 : Value) (S2 : List Bool) (w : World) (hv : Rd w v (bools S)) (hv2 : Rd w v2 (bools S2)) :
    Calls Try.prog 5 #[v, v2] w fun e w' => e = .returned (.bool true) ∧ Below w.heap.size w w' := by
  have HV := Lib.hid hv
  have HV2 := Lib.hid hv2
  obtain ⟨a, cap, rfl, hc, hcm, _, _⟩ := hv
  obtain ⟨a2, cap2, rfl, hc2, hcm2, _, _⟩ := hv2
  rw [bools_length] at hc HV hc2 HV2 ⊢
  rw [bools_length]
  by_cases hl : 1010 < S.length ∨ 1010 < S2.length
  · by_cases hl1 : 1010 < S.length
    · have hl2 : decide ((1010 : Int) < (S.length : Int)) = true := by simp; omega
      clear hl hl1
      go_enter Try.func5, Try.ntmps5
      go_wp2_with (go_at_call 15; refine (sane_any _).mono ?_; rintro e w1 ⟨rfl, hb1⟩)
      go_ret
      exact ⟨rfl, hb1⟩
    · have hl2 : decide ((1010 : Int) < (S.length : Int)) = false := by simp; omega
      have hl3 : decide ((1010 : Int) < (S2.length : Int)) = true := by simp; omega
      clear hl hl1
      go_enter Try.func5, Try.ntmps5
      go_wp2_with (go_at_call 15; refine (sane_any _).mono ?_; rintro e w1 ⟨rfl, hb1⟩)
      go_ret
      exact ⟨rfl, hb1⟩
  · have hl2 : decide ((1010 : Int) < (S.length : Int)) = false := by simp; omega
    have hl3 : decide ((1010 : Int) < (S2.length : Int)) = false := by simp; omega
    clear hl
    go_enter Try.func5, Try.ntmps5
    go_wp2_with fail
    refine (changed_any S S2 _ _ _ HV.out HV2.out).mono ?_
    rintro e w1 ⟨u1, rfl, hu1, hb1⟩
    have HV1 := Lib.hid (HV.out.below hb1 (Nat.le_refl _))
    have HV21 := Lib.hid (HV2.out.below hb1 (Nat.le_refl _))
    have R1 := Rd.own hu1
    go_wp2_with fail
    refine (refChanged_any S S2 _ _ _ HV1.out HV21.out).mono ?_
    rintro e w2 ⟨u2, rfl, hu2, hb2⟩
    have R2 := Rd.own hu2
    have R1' := R1.below hb2 (Nat.le_refl _)
    have hb12 := hb1.trans (hb2.mono hb1.size)
    clear hu1 hu2 R1 hb1 hb2
    go_wp2_with (first
      | (go_at_call 20; refine (same_any _ _ _ _ _ R1' R2).mono ?_; rw [decide_eq_true rfl]; rintro e w3 ⟨rfl, hb3⟩)
      | (go_at_call 15; refine (sane_any _).mono ?_; rintro e w4 ⟨rfl, hb4⟩))
    go_ret
    exact ⟨rfl, (hb12.trans (hb3.mono hb12.size)).trans (hb4.mono (Nat.le_trans hb12.size hb3.size))⟩

end Go.Proofs.Ytelnlmhelkcliaa

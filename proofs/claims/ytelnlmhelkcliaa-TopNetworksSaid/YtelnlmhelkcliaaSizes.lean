/- benes.count, ports, bit; ref08.switches, IsSize. -/
import Derived.Test.YtelnlmhelkcliaaRows
import Derived.Test.YtelnlmhelkcliaaBase
namespace Go.Proofs.Ytelnlmhelkcliaa
open Go.RowKit

theorem el_int : ElemOk Try.prog 24 3 (.int .i64 0) 8 :=
  ⟨by kernel_rfl, info_parts (by kernel_rfl), rfl, by decide⟩

/-- ports of a network of depth k -/
def pw : Nat → Nat | 0 => 2 | k + 1 => 2 * pw k
/-- its switches -/
def cnt : Nat → Nat | 0 => 1 | k + 1 => pw (k + 1) + 2 * cnt k

theorem pw_pos (k : Nat) : 2 ≤ pw k := by induction k with | zero => simp [pw] | succ k ih => simp only [pw]; omega
theorem pw_le (k : Nat) (h : k ≤ 3) : pw k ≤ 16 := by
  match k, h with
  | 0, _ | 1, _ | 2, _ | 3, _ => simp [pw]
theorem cnt_bd (k : Nat) (h : k ≤ 3) : 1 ≤ cnt k ∧ cnt k ≤ 56 := by
  match k, h with
  | 0, _ | 1, _ | 2, _ | 3, _ => simp [pw, cnt]

/-- whether a number is one of ports -/
def szB (n : Int) : Bool := n == 2 || n == 4 || n == 8 || n == 16

theorem szB_iff (n : Int) : szB n = true ↔ ∃ k, k ≤ 3 ∧ n = pw k := by
  constructor
  · intro h
    simp only [szB, Bool.or_eq_true, beq_iff_eq] at h
    rcases h with ((h | h) | h) | h
    · exact ⟨0, by omega, by rw [h]; rfl⟩
    · exact ⟨1, by omega, by rw [h]; rfl⟩
    · exact ⟨2, by omega, by rw [h]; rfl⟩
    · exact ⟨3, by omega, by rw [h]; rfl⟩
  · rintro ⟨k, hk, rfl⟩
    match k, hk with
    | 0, _ | 1, _ | 2, _ | 3, _ => rfl

/-- the setting of a switch as a number -/
def bI (b : Bool) : Int := if b then 1 else 0

theorem bit_any (b : Bool) (w : World) : Calls Try.prog 46 #[.bool b] w fun e w' => e = .returned (.int .i64 (bI b)) ∧ w = w' := by
  cases b
  all_goals
    go_enter Try.func46, Try.ntmps46
    go_wp2_with fail
    go_ret
    exact ⟨rfl, rfl⟩

set_option maxHeartbeats 1000000 in
theorem ports_any (n : Int) (w : World) : Calls Try.prog 60 #[.int .i64 n] w fun e w' => e = .returned (.bool (szB n)) ∧ w = w' := by
  by_cases h1 : n < 2
  · have hz : szB n = false := by simp only [szB, Bool.or_eq_false_iff, beq_eq_false_iff_ne]; omega
    rw [hz]
    clear hz
    go_enter Try.func60, Try.ntmps60
    go_wp2_with fail
    go_ret
    exact ⟨rfl, rfl⟩
  · by_cases h2 : 16 < n
    · have hz : szB n = false := by simp only [szB, Bool.or_eq_false_iff, beq_eq_false_iff_ne]; omega
      rw [hz]
      clear hz
      go_enter Try.func60, Try.ntmps60
      go_wp2_with fail
      go_ret
      exact ⟨rfl, rfl⟩
    · have h : n = 2 ∨ n = 3 ∨ n = 4 ∨ n = 5 ∨ n = 6 ∨ n = 7 ∨ n = 8 ∨ n = 9 ∨ n = 10 ∨ n = 11 ∨ n = 12 ∨ n = 13 ∨ n = 14 ∨ n = 15 ∨ n = 16 := by omega
      clear h1 h2
      rcases h with rfl | rfl | rfl | rfl | rfl | rfl | rfl | rfl | rfl | rfl | rfl | rfl | rfl | rfl | rfl
      all_goals
        go_enter Try.func60, Try.ntmps60
        go_wp2_with fail
        go_ret
        exact ⟨rfl, rfl⟩

theorem isSize_any (n : Int) (w : World) : Calls Try.prog 53 #[.int .i64 n] w fun e w' => e = .returned (.bool (szB n)) ∧ w = w' := by
  by_cases h : n = 2 ∨ n = 4 ∨ n = 8 ∨ n = 16
  · rcases h with rfl | rfl | rfl | rfl
    all_goals
      go_enter Try.func53, Try.ntmps53
      go_wp2_with fail
      go_ret
      exact ⟨rfl, rfl⟩
  · have hz : szB n = false := by simp only [szB, Bool.or_eq_false_iff, beq_eq_false_iff_ne]; omega
    have e1 : (n == 2) = false := by rw [beq_eq_false_iff_ne]; omega
    have e2 : (n == 4) = false := by rw [beq_eq_false_iff_ne]; omega
    have e3 : (n == 8) = false := by rw [beq_eq_false_iff_ne]; omega
    have e4 : (n == 16) = false := by rw [beq_eq_false_iff_ne]; omega
    rw [hz]
    clear hz h
    go_enter Try.func53, Try.ntmps53
    go_wp2_with fail
    go_ret
    exact ⟨rfl, rfl⟩

theorem count_any (k : Nat) : ∀ (n : Int) (w : World), k ≤ 3 → n = pw k →
    Calls Try.prog 49 #[.int .i64 n] w fun e w' => e = .returned (.int .i64 (cnt k)) ∧ w = w' := by
  induction k with
  | zero =>
    intro n w _ hn
    simp only [pw] at hn
    subst hn
    go_enter Try.func49, Try.ntmps49
    go_wp2_with fail
    go_ret
    exact ⟨rfl, rfl⟩
  | succ k ih =>
    intro n w hk hn
    have h1 := pw_pos k
    have h2 := pw_le (k + 1) hk
    have h3 := cnt_bd k (by omega)
    have hd : n / 2 = pw k := by rw [hn, pw]; omega
    have hne : (n == 2) = false := by rw [beq_eq_false_iff_ne, hn, pw]; omega
    have hlo : 0 ≤ n := by rw [hn, pw]; omega
    have hhi : n ≤ 16 := by rw [hn]; omega
    have hN : (cnt (k + 1) : Int) = n + 2 * cnt k := by rw [cnt, hn]; omega
    have HN := Lib.hid hN
    have HD := Lib.hid hd
    clear hd hN hn h2
    go_enter Try.func49, Try.ntmps49
    go_wp2_with (go_at_call 49; refine (ih _ _ (by omega) HD.out).mono ?_; rintro e w' ⟨rfl, rfl⟩)
    go_ret
    exact ⟨by rw [HN.out]; rfl, rfl⟩

theorem switches_any (k : Nat) : ∀ (n : Int) (w : World), k ≤ 3 → n = pw k →
    Calls Try.prog 57 #[.int .i64 n] w fun e w' => e = .returned (.int .i64 (cnt k)) ∧ w = w' := by
  induction k with
  | zero =>
    intro n w _ hn
    simp only [pw] at hn
    subst hn
    go_enter Try.func57, Try.ntmps57
    go_wp2_with fail
    go_ret
    exact ⟨rfl, rfl⟩
  | succ k ih =>
    intro n w hk hn
    have h1 := pw_pos k
    have h2 := pw_le (k + 1) hk
    have h3 := cnt_bd k (by omega)
    have hd : n / 2 = pw k := by rw [hn, pw]; omega
    have hne : (n == 2) = false := by rw [beq_eq_false_iff_ne, hn, pw]; omega
    have hlo : 0 ≤ n := by rw [hn, pw]; omega
    have hhi : n ≤ 16 := by rw [hn]; omega
    have hN : (cnt (k + 1) : Int) = n + 2 * cnt k := by rw [cnt, hn]; omega
    have HN := Lib.hid hN
    have HD := Lib.hid hd
    clear hd hN hn h2
    go_enter Try.func57, Try.ntmps57
    go_wp2_with (go_at_call 57; refine (ih _ _ (by omega) HD.out).mono ?_; rintro e w' ⟨rfl, rfl⟩)
    go_ret
    exact ⟨by rw [HN.out]; rfl, rfl⟩

end Go.Proofs.Ytelnlmhelkcliaa

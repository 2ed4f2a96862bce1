/- Depth and Count in both texts; the law BenesSizes. -/
import Derived.Test.YtelnlmhelkcliaaDoorTurned
namespace Go.Proofs.YtelnlmhelkcliaaDoor
open Go.RowKit

/-- What the walks need of the library's table. -/
def Tab (w : World) : Prop := w.cell? ⟨1, 1, none⟩ = some (.int .u8 1) ∧ w.cell? ⟨1, 3, none⟩ = some (.int .u8 2) ∧ w.cell? ⟨1, 7, none⟩ = some (.int .u8 3) ∧ w.cell? ⟨1, 15, none⟩ = some (.int .u8 4)

theorem tz_any (k : Nat) (n : Int) (w : World) (hk : k ≤ 3) (hn : n = pw k) (ht : Tab w) :
    Calls Tryd.prog 15 #[.int .u64 n] w fun e w' => e = .returned (.int .i64 (k + 1 : Nat)) ∧ w = w' := by
  obtain ⟨t1, t3, t7, t15⟩ := ht
  match k, hk with
  | 0, _ =>
    simp only [pw] at hn
    subst hn
    have hix : IntKind.u64.wrap (bits .and .u64 2 (IntKind.u64.wrap (-2)) * 285870213051353865) / 288230376151711744 = 1 := by decide +kernel
    go_enter Tryd.func15, Tryd.ntmps15
    go_wp2
    go_ret
    exact ⟨rfl, rfl⟩
  | 1, _ =>
    simp only [pw] at hn
    subst hn
    have hix : IntKind.u64.wrap (bits .and .u64 4 (IntKind.u64.wrap (-4)) * 285870213051353865) / 288230376151711744 = 3 := by decide +kernel
    go_enter Tryd.func15, Tryd.ntmps15
    go_wp2
    go_ret
    exact ⟨rfl, rfl⟩
  | 2, _ =>
    simp only [pw] at hn
    subst hn
    have hix : IntKind.u64.wrap (bits .and .u64 8 (IntKind.u64.wrap (-8)) * 285870213051353865) / 288230376151711744 = 7 := by decide +kernel
    go_enter Tryd.func15, Tryd.ntmps15
    go_wp2
    go_ret
    exact ⟨rfl, rfl⟩
  | 3, _ =>
    simp only [pw] at hn
    subst hn
    have hix : IntKind.u64.wrap (bits .and .u64 16 (IntKind.u64.wrap (-16)) * 285870213051353865) / 288230376151711744 = 15 := by decide +kernel
    go_enter Tryd.func15, Tryd.ntmps15
    go_wp2
    go_ret
    exact ⟨rfl, rfl⟩

/-- what Depth and Count give -/
def depN (n : Int) : Int := if szB n then 2 * (lg n : Nat) + 1 else 0
def cntN (n : Int) : Int := if szB n then (cnt (lg n) : Nat) else 0
def argE (n : Int) : Int := if szB n then 0 else 2

theorem Depth_any (n : Int) (w : World) (ht : Tab w) :
    Calls Tryd.prog 7 #[.int .i64 n] w fun e w' => e = .returned (.tuple #[.int .i64 (depN n), .int .i64 (argE n)]) ∧ w = w' := by
  cases hz : szB n with
  | false =>
    have h1 : depN n = 0 := by simp [depN, hz]
    have h2 : argE n = 2 := by simp [argE, hz]
    rw [h1, h2]
    have HZ := Lib.hid hz
    clear hz h1 h2
    go_enter Tryd.func7, Tryd.ntmps7
    go_wp2_with (go_at_call 11; refine (ports_any _ _).mono ?_; rw [HZ.out]; rintro e w' ⟨rfl, rfl⟩)
    go_ret2
    exact ⟨rfl, rfl⟩
  | true =>
    obtain ⟨hn, hk⟩ := lg_spec n hz
    have h1 : depN n = 2 * (lg n : Nat) + 1 := by simp [depN, hz]
    have h2 : argE n = 0 := by simp [argE, hz]
    rw [h1, h2]
    have hlo : 0 ≤ n := by omega
    have hhi := pw_le _ hk
    have hhi2 : n ≤ 16 := by omega
    have HZ := Lib.hid hz
    have HN := Lib.hid hn
    have HT := Lib.hid ht
    clear hz h1 h2 hn ht hhi
    generalize lg n = k at *
    go_enter Tryd.func7, Tryd.ntmps7
    go_wp2_with (first
      | (go_at_call 11; refine (ports_any _ _).mono ?_; rw [HZ.out]; rintro e w' ⟨rfl, rfl⟩)
      | (go_at_call 15; refine (tz_any k _ _ hk HN.out HT.out).mono ?_; rintro e w' ⟨rfl, rfl⟩))
    go_ret2
    exact ⟨ret2i (by omega), rfl⟩

theorem refDepth_any (n : Int) (w : World) :
    Calls Tryd.prog 8 #[.int .i64 n] w fun e w' => e = .returned (.tuple #[.int .i64 (depN n), .int .i64 (argE n)]) ∧ w = w' := by
  cases hz : szB n with
  | false =>
    have h1 : depN n = 0 := by simp [depN, hz]
    have h2 : argE n = 2 := by simp [argE, hz]
    rw [h1, h2]
    have HZ := Lib.hid hz
    clear hz h1 h2
    go_enter Tryd.func8, Tryd.ntmps8
    go_wp2_with (go_at_call 13; refine (isSize_any _ _).mono ?_; rw [HZ.out]; rintro e w' ⟨rfl, rfl⟩)
    go_ret2
    exact ⟨rfl, rfl⟩
  | true =>
    obtain ⟨hn, hk⟩ := lg_spec n hz
    have h1 : depN n = 2 * (lg n : Nat) + 1 := by simp [depN, hz]
    have h2 : argE n = 0 := by simp [argE, hz]
    rw [h1, h2]
    have HZ := Lib.hid hz
    have HN := Lib.hid hn
    clear hz h1 h2 hn
    generalize lg n = k at *
    go_enter Tryd.func8, Tryd.ntmps8
    go_wp2_with (go_at_call 13; refine (isSize_any _ _).mono ?_; rw [HZ.out]; rintro e w' ⟨rfl, rfl⟩)
    go_loop [0, 4] (fun m d => ∃ j : Nat, j ≤ k ∧ m = .int .i64 (pw j : Nat) ∧ d = .int .i64 (2 * (k : Int) + 1 - 2 * (j : Int))) (fun m _ => (intOf m).toNat)
    case atStart => exact ⟨k, Nat.le_refl _, by rw [← HN.out], by simp; omega⟩
    case round =>
      obtain ⟨j, hj, rfl, rfl⟩ := hrel
      cases j with
      | zero =>
        have e0 : ((pw 0 : Nat) : Int) = 2 := rfl
        go_wp2_with fail
        go_ret2
        exact ⟨ret2i (by simp), rfl⟩
      | succ j =>
        have e1 := pw_pos j
        have e2 : pw (j + 1) = 2 * pw j := rfl
        have e3 := pw_le (j + 1) (by omega)
        have E2 : Hid (((pw (j + 1) : Nat) : Int) / 2 = pw j) := Lib.hid (by omega)
        have hgt : (2 : Int) < (pw (j + 1) : Nat) := by omega
        clear e2
        go_wp2_with fail
        go_round
        case rel => exact ⟨j, by omega, by rw [E2.out], by congr 1; omega⟩
        case measure => simp [intOf]; have := E2.out; omega

theorem Count_all (n : Int) (w : World) :
    Calls Tryd.prog 5 #[.int .i64 n] w fun e w' => e = .returned (.tuple #[.int .i64 (cntN n), .int .i64 (argE n)]) ∧ w = w' := by
  cases hz : szB n with
  | false =>
    have h1 : cntN n = 0 := by simp [cntN, hz]
    have h2 : argE n = 2 := by simp [argE, hz]
    rw [h1, h2]
    have HZ := Lib.hid hz
    clear hz h1 h2
    go_enter Tryd.func5, Tryd.ntmps5
    go_wp2_with (go_at_call 11; refine (ports_any _ _).mono ?_; rw [HZ.out]; rintro e w' ⟨rfl, rfl⟩)
    go_ret2
    exact ⟨rfl, rfl⟩
  | true =>
    obtain ⟨hn, hk⟩ := lg_spec n hz
    have h1 : cntN n = (cnt (lg n) : Nat) := by simp [cntN, hz]
    have h2 : argE n = 0 := by simp [argE, hz]
    rw [h1, h2]
    have HZ := Lib.hid hz
    have HN := Lib.hid hn
    clear hz h1 h2 hn
    go_enter Tryd.func5, Tryd.ntmps5
    go_wp2_with (first | (go_at_call 11; refine (ports_any _ _).mono ?_; rw [HZ.out]; rintro e w' ⟨rfl, rfl⟩) | (go_at_call 12; refine (count_any _ _ _ hk HN.out).mono ?_; rintro e w' ⟨rfl, rfl⟩))
    go_ret2
    exact ⟨rfl, rfl⟩

theorem refCount_all (n : Int) (w : World) :
    Calls Tryd.prog 6 #[.int .i64 n] w fun e w' => e = .returned (.tuple #[.int .i64 (cntN n), .int .i64 (argE n)]) ∧ w = w' := by
  cases hz : szB n with
  | false =>
    have h1 : cntN n = 0 := by simp [cntN, hz]
    have h2 : argE n = 2 := by simp [argE, hz]
    rw [h1, h2]
    have HZ := Lib.hid hz
    clear hz h1 h2
    go_enter Tryd.func6, Tryd.ntmps6
    go_wp2_with (go_at_call 13; refine (isSize_any _ _).mono ?_; rw [HZ.out]; rintro e w' ⟨rfl, rfl⟩)
    go_ret2
    exact ⟨rfl, rfl⟩
  | true =>
    obtain ⟨hn, hk⟩ := lg_spec n hz
    have h1 : cntN n = (cnt (lg n) : Nat) := by simp [cntN, hz]
    have h2 : argE n = 0 := by simp [argE, hz]
    rw [h1, h2]
    have HZ := Lib.hid hz
    have HN := Lib.hid hn
    clear hz h1 h2 hn
    go_enter Tryd.func6, Tryd.ntmps6
    go_wp2_with (first | (go_at_call 13; refine (isSize_any _ _).mono ?_; rw [HZ.out]; rintro e w' ⟨rfl, rfl⟩) | (go_at_call 14; refine (switches_any _ _ _ hk HN.out).mono ?_; rintro e w' ⟨rfl, rfl⟩))
    go_ret2
    exact ⟨rfl, rfl⟩

theorem law_sizes (n : Int) (w : World) (_ : (Lit.int .i64 n).wf = true) (ht : Tab w) :
    Calls Tryd.prog 3 #[.int .i64 n] w fun e w' => e = .returned (.bool true) ∧ Below w.heap.size w w' := by
  have HT := Lib.hid ht
  clear ht
  go_enter Tryd.func3, Tryd.ntmps3
  go_wp2_with (first
    | (go_at_call 5; refine (Count_all n _).mono ?_; rintro e w' ⟨rfl, rfl⟩)
    | (go_at_call 6; refine (refCount_all n _).mono ?_; rintro e w' ⟨rfl, rfl⟩)
    | (go_at_call 7; refine (Depth_any n _ HT.out).mono ?_; rintro e w' ⟨rfl, rfl⟩)
    | (go_at_call 8; refine (refDepth_any n _).mono ?_; rintro e w' ⟨rfl, rfl⟩)
    | (go_at_call 9; refine (sane_any _).mono ?_; rintro e w1 ⟨rfl, hb1⟩))
  go_ret
  exact ⟨rfl, hb1⟩

end Go.Proofs.YtelnlmhelkcliaaDoor

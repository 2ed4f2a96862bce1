/- Trace in both texts; the laws BenesTraces and BenesChanges: their Go texts return true. -/
import Derived.Test.YtelnlmhelkcliaaDoorTurned
namespace Go.Proofs.YtelnlmhelkcliaaDoor
open Go.RowKit

/-- what Trace gives -/
def trcE (n : Int) (len : Nat) (x : Int) : Int := if fitE n len = 0 then (if 0 ≤ x ∧ x < n then 0 else 2) else fitE n len
def trcL (n : Int) (S : List Bool) (x : Int) : List Int := if trcE n S.length x = 0 then trm (lg n) S x.toNat 0 else []

set_option maxHeartbeats 400000 in
theorem Trace_any (n : Int) (v : Value) (S : List Bool) (x : Int) (w : World) (hv : Rd w v (bools S)) :
    Calls Tryd.prog 10 #[.int .i64 n, v, .int .i64 x] w fun e w' => ∃ u, e = .returned (.tuple #[u, .int .i64 (trcE n S.length x)]) ∧ w'.ownsRow w.heap.size 3 1 u (trcL n S x).length (ints (trcL n S x)) ∧ Below w.heap.size w w' := by
  by_cases h0 : fitE n S.length = 0
  · by_cases hx : 0 ≤ x ∧ x < n
    · have hE : trcE n S.length x = 0 := by unfold trcE; rw [if_pos h0, if_pos hx]
      have hL : trcL n S x = trm (lg n) S x.toNat 0 := if_pos hE
      rcases fitE_cases n S.length with ⟨_, h⟩ | ⟨_, _, h⟩ | ⟨hz, hl, _⟩
      · omega
      · omega
      · obtain ⟨hn, hk⟩ := lg_spec n hz
        have h3 := cnt_bd (lg n) hk
        rw [hL, trm_len, hE]
        obtain ⟨i, rfl⟩ := Int.eq_ofNat_of_zero_le hx.1
        have hin := hx.2
        rw [Int.toNat_natCast]
        have hik : i < pw (lg n) := by omega
        have hS : S.length ≤ 1000 := by omega
        have hS2 : 0 + cnt (lg n) ≤ S.length := by omega
        have HN := Lib.hid hn
        have HE := Lib.hid h0
        have HL := Lib.hid hl
        clear hn h0 hl hL hz hE hx
        go_enter Tryd.func10, Tryd.ntmps10
        go_wp2_with (first
          | (go_at_call 17; refine (fits_any _ _ S _ hv).mono ?_; rw [HE.out]; rintro e w' ⟨rfl, rfl⟩)
          | (go_at_call 18; refine (trace_any _ _ _ _ _ S i 0 _ hk HN.out rfl rfl hik hS2 hS (by rw [seg_all S _ HL.out]; exact hv)).mono ?_; rintro e w1 ⟨u, rfl, hu, hb1⟩))
        go_ret2
        exact ⟨_, rfl, hu, hb1⟩
    · have hE : trcE n S.length x = 2 := by unfold trcE; rw [if_pos h0, if_neg hx]
      have hL : trcL n S x = [] := if_neg (by omega)
      rw [hL, hE]
      have HE := Lib.hid h0
      have hx2 : x < 0 ∨ 0 ≤ x ∧ n ≤ x := by omega
      clear h0 hL hE hx
      rcases hx2 with hx2 | ⟨hx1, hx2⟩
      all_goals
        go_enter Tryd.func10, Tryd.ntmps10
        go_wp2_with (go_at_call 17; refine (fits_any _ _ S _ hv).mono ?_; rw [HE.out]; rintro e w' ⟨rfl, rfl⟩)
        go_ret2
        exact ⟨_, rfl, World.ownsRow_nil _ _ _ _, Below.refl _ _⟩
  · have hE : trcE n S.length x = fitE n S.length := by unfold trcE; rw [if_neg h0]
    have hL : trcL n S x = [] := if_neg (by omega)
    rw [hL, hE]
    obtain ⟨y, hy⟩ : ∃ y, y = fitE n S.length := ⟨_, rfl⟩
    rw [← hy] at h0 ⊢
    have hb : (y != 0) = true := by simpa using h0
    have hb2 : (y == 0) = false := by simpa using h0
    have HX := Lib.hid hy
    clear hy h0 hL hE
    go_enter Tryd.func10, Tryd.ntmps10
    go_wp2_with (go_at_call 17; refine (fits_any _ _ S _ hv).mono ?_; rw [← HX.out]; rintro e w' ⟨rfl, rfl⟩)
    go_ret2
    exact ⟨_, rfl, World.ownsRow_nil _ _ _ _, Below.refl _ _⟩

end Go.Proofs.YtelnlmhelkcliaaDoor

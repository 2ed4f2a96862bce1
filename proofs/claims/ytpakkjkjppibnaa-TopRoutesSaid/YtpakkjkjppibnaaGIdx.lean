/- Layout: slices.Index, slices.Contains at []api.XY. -/
import Derived.Test.YtpakkjkjppibnaaKRoute
namespace Go.Proofs.Ytpakkjkjppibnaa
open Go.RowKit

/-- the place of a cell in a list, or -1 -/
def idxC (l : List (Int × Int)) (c : Int × Int) : Int := if c ∈ l then (l.idxOf c : Nat) else -1
theorem idxC_hit {l : List (Int × Int)} {c : Int × Int} {k : Nat} (h : l[k]? = some c) (hb : ∀ j z, j < k → l[j]? = some z → z ≠ c) : idxC l c = k := by
  have hm := List.mem_of_getElem? h
  obtain ⟨hk, e⟩ := List.getElem?_eq_some_iff.1 h
  have hlt := List.idxOf_lt_length_of_mem hm
  have he : l[l.idxOf c]? = some c := by rw [List.getElem?_eq_getElem hlt, List.getElem_idxOf]
  have h1 : ¬ l.idxOf c < k := fun h1 => hb _ _ h1 he rfl
  have h2 : ¬ k < l.idxOf c := fun h2 => by
    have := List.not_of_lt_findIdx (p := fun x => x == c) (xs := l) (i := k) h2
    rw [e] at this
    simp at this
  unfold idxC
  rw [if_pos hm]
  omega
theorem idxC_miss {l : List (Int × Int)} {c : Int × Int} (hb : ∀ j z, j < l.length → l[j]? = some z → z ≠ c) : idxC l c = -1 := by
  unfold idxC
  rw [if_neg]
  intro hm
  obtain ⟨j, hj, e⟩ := List.mem_iff_getElem.1 hm
  exact hb j c hj (by rw [List.getElem?_eq_getElem hj, e]) rfl
theorem idxC_ge (l : List (Int × Int)) (c : Int × Int) : decide (0 ≤ idxC l c) = decide (c ∈ l) := by
  unfold idxC
  by_cases h : c ∈ l
  · rw [if_pos h, decide_eq_true h, decide_eq_true (by omega)]
  · rw [if_neg h, decide_eq_false h]; decide

set_option maxHeartbeats 1000000 in
theorem index_xy (l : List (Int × Int)) (v : Value) (x y : Int) (w : World) (hv : RdP w v l) (hn : l.length ≤ 4000000) :
    Calls Try.prog 55 #[v, .agg #[.int .i64 x, .int .i64 y]] w fun e w' => e = .returned (.int .i64 (idxC l (x, y))) ∧ Below w.heap.size w w' := by
  have hbw : Below w.heap.size w (w.alloc (.cells #[.int .i64 x, .int .i64 y] 26)) := (Below.refl w.heap.size w).alloc (Nat.le_refl _) _
  have hEQ := fun a b c d W => eqXY a b c d W
  obtain ⟨a, cap, rfl, hc, hcm, ha, _⟩ := hv
  have c0 : (w.alloc (.cells #[.int .i64 x, .int .i64 y] 26)).cell? ⟨w.heap.size, 0, none⟩ = some (.int .i64 x) := World.cell?_alloc_at _ _ _ _ rfl
  have c1 : (w.alloc (.cells #[.int .i64 x, .int .i64 y] 26)).cell? ⟨w.heap.size, 1, none⟩ = some (.int .i64 y) := World.cell?_alloc_at _ _ _ _ rfl
  obtain ⟨n, hnn⟩ : ∃ n, l.length = n := ⟨_, rfl⟩
  have HN := Lib.hid hnn
  rw [hnn] at hc hn ⊢
  obtain ⟨wb, hwb⟩ : ∃ wb, w.alloc (.cells #[.int .i64 x, .int .i64 y] 26) = wb := ⟨_, rfl⟩
  have HWB := Lib.hid hwb
  rw [hwb] at hbw c0 c1
  have HBW := Lib.hid hbw
  have HC0 := Lib.hid c0
  have HC1 := Lib.hid c1
  clear hwb hbw hnn c0 c1
  go_enter Try.func55, Try.ntmps55
  go_wp2_with fail
  rw [HWB.out]
  go_loopw [8] (fun p wr => ∃ k : Nat, k ≤ n ∧ p = .int .i64 k ∧ Hid (Below wb.heap.size wb wr) ∧ Hid (∀ j z, j < k → l[j]? = some z → z ≠ (x, y))) (fun p _ => n - (intOf p).toNat)
  case atStart => exact ⟨0, Nat.zero_le _, rfl, Lib.hid (Below.refl _ _), Lib.hid fun j z h => absurd h (Nat.not_lt_zero _)⟩
  case round =>
    obtain ⟨k, hk, rfl, HR, HA⟩ := hrel
    have HBB := Lib.hid (HBW.out.trans (HR.out.mono HBW.out.size))
    have d0 := cell_below HC0.out HR.out
    have d1 := cell_below HC1.out HR.out
    have hlt := World.block_lt_of_cell? _ _ d0
    by_cases hkn : k < n
    · have hkn' : (k : Int) < (n : Int) := by omega
      obtain ⟨⟨p, q⟩, hz⟩ : ∃ z, l[k]? = some z := ⟨_, List.getElem?_eq_getElem (by rw [HN.out]; exact hkn)⟩
      obtain ⟨b, off, rfl, e1, e2⟩ := RdP.cell (ha.below HBB.out (Nat.le_refl _)) hz
      have HZ := Lib.hid hz
      clear hz
      dsimp only at e1 e2
      by_cases hpq : p = x ∧ q = y
      · obtain ⟨rfl, rfl⟩ := hpq
        have HD : Hid (idxC l (p, q) = k) := Lib.hid (idxC_hit HZ.out HA.out)
        go_wp2_with fail
        go_quiet (fail)
        go_wp2_with fail
        go_ret
        exact ⟨by rw [HD.out]; rfl, bel_drewN HBB.out _⟩
      · have hpq' : (x == p && y == q) = false := by
          rw [Bool.eq_false_iff]; intro hh; simp at hh; exact hpq ⟨hh.1.symm, hh.2.symm⟩
        have HA' : Hid (∀ j z, j < k + 1 → l[j]? = some z → z ≠ (x, y)) := Lib.hid fun j z hj hz e => by
          rcases (by omega : j < k ∨ j = k) with h1 | rfl
          · exact HA.out j z h1 hz e
          · rw [HZ.out] at hz
            cases hz
            cases e
            exact hpq ⟨rfl, rfl⟩
        clear hpq
        go_wp2_with fail
        go_quiet (fail)
        go_wp2_with fail
        go_roundw
        case rel => exact ⟨k + 1, by omega, by go_num, Lib.hid (bel_drewN HR.out _), HA'⟩
        case measure => simp [intOf]; omega
    · obtain rfl : k = n := by omega
      have HD : Hid (idxC l (x, y) = -1) := Lib.hid (idxC_miss (by rw [HN.out]; exact HA.out))
      go_wp2_with fail
      go_ret
      exact ⟨by rw [HD.out]; rfl, HBB.out⟩
theorem contains_xy (l : List (Int × Int)) (v : Value) (x y : Int) (w : World) (hv : RdP w v l) (hn : l.length ≤ 4000000) :
    Calls Try.prog 101 #[v, .agg #[.int .i64 x, .int .i64 y]] w fun e w' => e = .returned (.bool (decide ((x, y) ∈ l))) ∧ Below w.heap.size w w' := by
  have hbw : Below w.heap.size w (w.alloc (.cells #[.int .i64 x, .int .i64 y] 26)) := (Below.refl w.heap.size w).alloc (Nat.le_refl _) _
  have HBW := Lib.hid hbw
  have HI := Lib.hid (index_xy l v x y _ (hv.below hbw) hn)
  have HGE := Lib.hid (idxC_ge l (x, y))
  obtain ⟨a, cap, rfl, hc, hcm, ha, _⟩ := hv
  obtain ⟨i, hi⟩ : ∃ i, idxC l (x, y) = i := ⟨_, rfl⟩
  obtain ⟨t, ht⟩ : ∃ t, decide ((x, y) ∈ l) = t := ⟨_, rfl⟩
  rw [hi, ht] at HGE
  rw [hi] at HI
  rw [ht]
  clear hbw ha hi ht
  go_enter Try.func101, Try.ntmps101
  go_wp2_with (go_at_call 55; refine HI.out.mono ?_; rintro e w2 ⟨rfl, hb2⟩)
  go_ret
  exact ⟨by rw [HGE.out]; rfl, HBW.out.trans (hb2.mono HBW.out.size)⟩
end Go.Proofs.Ytpakkjkjppibnaa

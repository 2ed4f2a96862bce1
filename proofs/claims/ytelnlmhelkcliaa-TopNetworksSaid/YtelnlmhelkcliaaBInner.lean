/- Benes: the permutations of the upper and the lower network, walked. -/
import Derived.Test.YtelnlmhelkcliaaBAllow
import Derived.Deep.DeepCutAuto
namespace Go.Proofs.Ytelnlmhelkcliaa
open Go.RowKit

/-- one half when k inputs are through -/
def halfK (p : List Int) (s : Nat → Bool) (c : Bool) (m k : Nat) : List Int := (List.range m).map fun j => if 2 * j + (s j ^^ c).toNat < k then ((piL p (2 * j + (s j ^^ c).toNat) / 2 : Nat) : Int) else 0
theorem halfK_len (p : List Int) (s : Nat → Bool) (c : Bool) (m k : Nat) : (halfK p s c m k).length = m := by simp [halfK]
theorem halfK_zero (p : List Int) (s : Nat → Bool) (c : Bool) (m : Nat) : halfK p s c m 0 = List.replicate m 0 := by
  unfold halfK
  apply List.ext_getElem
  · simp
  · intro j h1 h2; simp
theorem halfK_end (p : List Int) (s : Nat → Bool) (c : Bool) (m : Nat) : halfK p s c m (2 * m) = (List.range m).map fun j => ((piL p (2 * j + (s j ^^ c).toNat) / 2 : Nat) : Int) := by
  unfold halfK
  refine List.map_congr_left fun j hj => ?_
  have := List.mem_range.1 hj
  have := toNat_le1 (s j ^^ c)
  rw [if_pos (by omega)]
theorem side_at {s : Nat → Bool} {c : Bool} {k j : Nat} : (2 * j + (s j ^^ c).toNat = k) ↔ (j = k / 2 ∧ sideB s k = c) := by
  have h1 := toNat_le1 (s j ^^ c)
  constructor
  · intro h
    have hj : j = k / 2 := by omega
    refine ⟨hj, ?_⟩
    rw [← h, side_pick]
    cases s j <;> cases c <;> rfl
  · rintro ⟨rfl, h⟩
    unfold sideB at h
    rcases even_or (x := k) with ⟨h2, h3⟩ | ⟨h2, h3⟩
    · rw [h2] at h
      have : (s (k / 2) ^^ c) = false := by rw [← h]; cases s (k / 2) <;> rfl
      rw [this]; simp [Bool.toNat]; omega
    · rw [h2] at h
      have : (s (k / 2) ^^ c) = true := by rw [← h]; cases s (k / 2) <;> rfl
      rw [this]; simp [Bool.toNat]; omega
theorem halfK_hit {p : List Int} {s : Nat → Bool} {c : Bool} {m k : Nat} (h : sideB s k = c) : halfK p s c m (k + 1) = (halfK p s c m k).set (k / 2) ((piL p k / 2 : Nat) : Int) := by
  unfold halfK
  apply List.ext_getElem
  · simp
  · intro j h1 h2
    simp only [List.getElem_map, List.getElem_range, List.getElem_set]
    by_cases e : k / 2 = j
    · have hk := (side_at (s := s) (c := c) (k := k) (j := j)).2 ⟨e.symm, h⟩
      rw [if_pos e, if_pos (by omega), hk]
    · have hk : 2 * j + (s j ^^ c).toNat ≠ k := fun hh => e ((side_at.1 hh).1).symm
      rw [if_neg e]
      by_cases hlt : 2 * j + (s j ^^ c).toNat < k
      · rw [if_pos (by omega), if_pos hlt]
      · rw [if_neg (by omega), if_neg hlt]
theorem halfK_miss {p : List Int} {s : Nat → Bool} {c : Bool} {m k : Nat} (h : sideB s k ≠ c) : halfK p s c m (k + 1) = halfK p s c m k := by
  unfold halfK
  refine List.map_congr_left fun j _ => ?_
  have hk : 2 * j + (s j ^^ c).toNat ≠ k := fun hh => h (side_at.1 hh).2
  by_cases hlt : 2 * j + (s j ^^ c).toNat < k
  · rw [if_pos (by omega), if_pos hlt]
  · rw [if_neg (by omega), if_neg hlt]
theorem halfK_up (p : List Int) (s : Nat → Bool) (m : Nat) : halfK p s false m (2 * m) = upL p s m := by
  rw [halfK_end]; unfold upL; simp
theorem halfK_low (p : List Int) (s : Nat → Bool) (m : Nat) : halfK p s true m (2 * m) = lowL p s m := by
  rw [halfK_end]; unfold lowL; simp

theorem ints_set (l : List Int) (i : Nat) (x : Int) : (ints l).set i (.int .i64 x) = ints (l.set i x) := by simp [ints]
theorem makeI_run (N : Nat) (hN : N ≤ 900) : ∃ Z : Array Value, (∀ W : World, (Instr.makeSlice 24 (.int .i64 (N : Int)) (.int .i64 (N : Int))).run Try.prog W = .ok (.slice (some ⟨W.heap.size, 0, none⟩) N N) (W.alloc (.cells Z 3))) ∧
    ∀ W : World, (W.alloc (.cells Z 3)).ownsRow W.heap.size 3 1 (.slice (some ⟨W.heap.size, 0, none⟩) N N) N (ints (List.replicate N 0)) := by
  obtain ⟨i, hi, hz, hsz, hby⟩ := el_int.info
  refine ⟨madeCells (Value.int .i64 0).cells (N * 1), fun W => ?_, fun W => ?_⟩
  · have := run_makeSlice (P := Try.prog) (w := W) 24 3 i (.int .i64 0) el_int.und hi hz .i64 .i64 N N (by omega) (Int.le_refl _) (by rw [hsz]; simp; omega) (by rw [hby]; omega) (by omega)
    rw [this, hsz]
    rfl
  · have e1 : (madeCells (Value.int .i64 0).cells (N * 1)).toList = ints (List.replicate N 0) := by
      rw [el_int.zc, Nat.mul_one]
      unfold madeCells ints
      apply List.ext_getElem
      · simp
      · intro j h1 h2; simp [Nat.mod_one]
    have e2 : (madeCells (Value.int .i64 0).cells (N * 1)).size = N := by
      rw [el_int.zc]; simp [madeCells]
    have := own_lit W W.heap.size 3 (madeCells (Value.int .i64 0).cells (N * 1)) N (Nat.le_refl _) e2 (by unfold maxLen; omega)
    rwa [e1] at this
/-- behind the region: two rows, and the variable that holds both -/
def InR (w0 w : World) (m bu bl bt : Nat) : Prop :=
  (w0.heap.size ≤ bu ∧ w0.heap.size ≤ bl ∧ w0.heap.size ≤ bt ∧ bu ≠ bl ∧ bu ≠ bt ∧ bl ≠ bt) ∧ w.ownsRow w0.heap.size 3 1 (.slice (some ⟨bu, 0, none⟩) m m) m (ints (List.replicate m 0)) ∧ w.ownsRow w0.heap.size 3 1 (.slice (some ⟨bl, 0, none⟩) m m) m (ints (List.replicate m 0)) ∧
    w.cell? ⟨bt, 0, none⟩ = some (.slice (some ⟨bu, 0, none⟩) m m) ∧ w.cell? ⟨bt, 1, none⟩ = some (.slice (some ⟨bl, 0, none⟩) m m) ∧ Below w0.heap.size w0 w

theorem inR_0 {m : Nat} {Z : Array Value} (HZ : ∀ W : World, (W.alloc (.cells Z 3)).ownsRow W.heap.size 3 1 (.slice (some ⟨W.heap.size, 0, none⟩) m m) m (ints (List.replicate m 0))) (w : World) (T : TypeId) : InR w (((w.alloc (.cells Z 3)).alloc (.cells Z 3)).alloc (.cells #[.slice (some ⟨w.heap.size, 0, none⟩) m m, .slice (some ⟨(w.heap.size + 1), 0, none⟩) m m] T)).drew m w.heap.size (w.heap.size + 1) (w.heap.size + 1 + 1) := by
  have e1 : (w.alloc (.cells Z 3)).heap.size = w.heap.size + 1 := by simp
  have e2 : ((w.alloc (.cells Z 3)).alloc (.cells Z 3)).heap.size = w.heap.size + 1 + 1 := by simp
  have hu := HZ w
  have hu := own_below hu ((Below.refl _ _).alloc (Nat.le_refl _) (.cells Z 3))
  have hu := own_below hu ((Below.refl _ _).alloc (Nat.le_refl _) (.cells #[.slice (some ⟨w.heap.size, 0, none⟩) m m, .slice (some ⟨(w.heap.size + 1), 0, none⟩) m m] T))
  have hu := own_le (own_below hu (Below.refl _ _).drew) (show w.heap.size ≤ _ by omega)
  have hl := HZ (w.alloc (.cells Z 3))
  rw [e1] at hl
  have hl := own_below hl ((Below.refl _ _).alloc (Nat.le_refl _) (.cells #[.slice (some ⟨w.heap.size, 0, none⟩) m m, .slice (some ⟨(w.heap.size + 1), 0, none⟩) m m] T))
  have hl := own_le (own_below hl (Below.refl _ _).drew) (show w.heap.size ≤ _ by omega)
  have t0 : (((w.alloc (.cells Z 3)).alloc (.cells Z 3)).alloc (.cells #[.slice (some ⟨w.heap.size, 0, none⟩) m m, .slice (some ⟨(w.heap.size + 1), 0, none⟩) m m] T)).cell? ⟨(w.heap.size + 1 + 1), 0, none⟩ = some (.slice (some ⟨w.heap.size, 0, none⟩) m m) := World.cell?_alloc_at _ _ _ _ (by simp)
  have t0 := cell_below t0 (Below.refl _ _).drew
  have t1 : (((w.alloc (.cells Z 3)).alloc (.cells Z 3)).alloc (.cells #[.slice (some ⟨w.heap.size, 0, none⟩) m m, .slice (some ⟨(w.heap.size + 1), 0, none⟩) m m] T)).cell? ⟨(w.heap.size + 1 + 1), 1, none⟩ = some (.slice (some ⟨(w.heap.size + 1), 0, none⟩) m m) := World.cell?_alloc_at _ _ _ _ (by simp)
  have t1 := cell_below t1 (Below.refl _ _).drew
  exact ⟨by omega, hu, hl, t0, t1, ((((Below.refl _ _).alloc (Nat.le_refl _) _).alloc (by simp) _).alloc (by simp; omega) _).drew⟩
theorem inR_1 {m : Nat} {Z : Array Value} (HZ : ∀ W : World, (W.alloc (.cells Z 3)).ownsRow W.heap.size 3 1 (.slice (some ⟨W.heap.size, 0, none⟩) m m) m (ints (List.replicate m 0))) (w : World) (T : TypeId) : InR w (((w.alloc (.cells Z 3)).alloc (.cells #[.slice (some ⟨w.heap.size, 0, none⟩) m m, .slice (some ⟨(w.heap.size + 1 + 1), 0, none⟩) m m] T)).alloc (.cells Z 3)).drew m w.heap.size (w.heap.size + 1 + 1) (w.heap.size + 1) := by
  have e1 : (w.alloc (.cells Z 3)).heap.size = w.heap.size + 1 := by simp
  have e2 : ((w.alloc (.cells Z 3)).alloc (.cells #[.slice (some ⟨w.heap.size, 0, none⟩) m m, .slice (some ⟨(w.heap.size + 1 + 1), 0, none⟩) m m] T)).heap.size = w.heap.size + 1 + 1 := by simp
  have hu := HZ w
  have hu := own_below hu ((Below.refl _ _).alloc (Nat.le_refl _) (.cells #[.slice (some ⟨w.heap.size, 0, none⟩) m m, .slice (some ⟨(w.heap.size + 1 + 1), 0, none⟩) m m] T))
  have hu := own_below hu ((Below.refl _ _).alloc (Nat.le_refl _) (.cells Z 3))
  have hu := own_le (own_below hu (Below.refl _ _).drew) (show w.heap.size ≤ _ by omega)
  have hl := HZ ((w.alloc (.cells Z 3)).alloc (.cells #[.slice (some ⟨w.heap.size, 0, none⟩) m m, .slice (some ⟨(w.heap.size + 1 + 1), 0, none⟩) m m] T))
  rw [e2] at hl
  have hl := own_le (own_below hl (Below.refl _ _).drew) (show w.heap.size ≤ _ by omega)
  have t0 : ((w.alloc (.cells Z 3)).alloc (.cells #[.slice (some ⟨w.heap.size, 0, none⟩) m m, .slice (some ⟨(w.heap.size + 1 + 1), 0, none⟩) m m] T)).cell? ⟨(w.heap.size + 1), 0, none⟩ = some (.slice (some ⟨w.heap.size, 0, none⟩) m m) := World.cell?_alloc_at _ _ _ _ (by simp)
  have t0 := cell_alloc t0 (.cells Z 3)
  have t0 := cell_below t0 (Below.refl _ _).drew
  have t1 : ((w.alloc (.cells Z 3)).alloc (.cells #[.slice (some ⟨w.heap.size, 0, none⟩) m m, .slice (some ⟨(w.heap.size + 1 + 1), 0, none⟩) m m] T)).cell? ⟨(w.heap.size + 1), 1, none⟩ = some (.slice (some ⟨(w.heap.size + 1 + 1), 0, none⟩) m m) := World.cell?_alloc_at _ _ _ _ (by simp)
  have t1 := cell_alloc t1 (.cells Z 3)
  have t1 := cell_below t1 (Below.refl _ _).drew
  exact ⟨by omega, hu, hl, t0, t1, ((((Below.refl _ _).alloc (Nat.le_refl _) _).alloc (by simp) _).alloc (by simp; omega) _).drew⟩
theorem inR_2 {m : Nat} {Z : Array Value} (HZ : ∀ W : World, (W.alloc (.cells Z 3)).ownsRow W.heap.size 3 1 (.slice (some ⟨W.heap.size, 0, none⟩) m m) m (ints (List.replicate m 0))) (w : World) (T : TypeId) : InR w (((w.alloc (.cells Z 3)).alloc (.cells Z 3)).alloc (.cells #[.slice (some ⟨(w.heap.size + 1), 0, none⟩) m m, .slice (some ⟨w.heap.size, 0, none⟩) m m] T)).drew m (w.heap.size + 1) w.heap.size (w.heap.size + 1 + 1) := by
  have e1 : (w.alloc (.cells Z 3)).heap.size = w.heap.size + 1 := by simp
  have e2 : ((w.alloc (.cells Z 3)).alloc (.cells Z 3)).heap.size = w.heap.size + 1 + 1 := by simp
  have hu := HZ (w.alloc (.cells Z 3))
  rw [e1] at hu
  have hu := own_below hu ((Below.refl _ _).alloc (Nat.le_refl _) (.cells #[.slice (some ⟨(w.heap.size + 1), 0, none⟩) m m, .slice (some ⟨w.heap.size, 0, none⟩) m m] T))
  have hu := own_le (own_below hu (Below.refl _ _).drew) (show w.heap.size ≤ _ by omega)
  have hl := HZ w
  have hl := own_below hl ((Below.refl _ _).alloc (Nat.le_refl _) (.cells Z 3))
  have hl := own_below hl ((Below.refl _ _).alloc (Nat.le_refl _) (.cells #[.slice (some ⟨(w.heap.size + 1), 0, none⟩) m m, .slice (some ⟨w.heap.size, 0, none⟩) m m] T))
  have hl := own_le (own_below hl (Below.refl _ _).drew) (show w.heap.size ≤ _ by omega)
  have t0 : (((w.alloc (.cells Z 3)).alloc (.cells Z 3)).alloc (.cells #[.slice (some ⟨(w.heap.size + 1), 0, none⟩) m m, .slice (some ⟨w.heap.size, 0, none⟩) m m] T)).cell? ⟨(w.heap.size + 1 + 1), 0, none⟩ = some (.slice (some ⟨(w.heap.size + 1), 0, none⟩) m m) := World.cell?_alloc_at _ _ _ _ (by simp)
  have t0 := cell_below t0 (Below.refl _ _).drew
  have t1 : (((w.alloc (.cells Z 3)).alloc (.cells Z 3)).alloc (.cells #[.slice (some ⟨(w.heap.size + 1), 0, none⟩) m m, .slice (some ⟨w.heap.size, 0, none⟩) m m] T)).cell? ⟨(w.heap.size + 1 + 1), 1, none⟩ = some (.slice (some ⟨w.heap.size, 0, none⟩) m m) := World.cell?_alloc_at _ _ _ _ (by simp)
  have t1 := cell_below t1 (Below.refl _ _).drew
  exact ⟨by omega, hu, hl, t0, t1, ((((Below.refl _ _).alloc (Nat.le_refl _) _).alloc (by simp) _).alloc (by simp; omega) _).drew⟩
theorem inR_3 {m : Nat} {Z : Array Value} (HZ : ∀ W : World, (W.alloc (.cells Z 3)).ownsRow W.heap.size 3 1 (.slice (some ⟨W.heap.size, 0, none⟩) m m) m (ints (List.replicate m 0))) (w : World) (T : TypeId) : InR w (((w.alloc (.cells Z 3)).alloc (.cells #[.slice (some ⟨(w.heap.size + 1 + 1), 0, none⟩) m m, .slice (some ⟨w.heap.size, 0, none⟩) m m] T)).alloc (.cells Z 3)).drew m (w.heap.size + 1 + 1) w.heap.size (w.heap.size + 1) := by
  have e1 : (w.alloc (.cells Z 3)).heap.size = w.heap.size + 1 := by simp
  have e2 : ((w.alloc (.cells Z 3)).alloc (.cells #[.slice (some ⟨(w.heap.size + 1 + 1), 0, none⟩) m m, .slice (some ⟨w.heap.size, 0, none⟩) m m] T)).heap.size = w.heap.size + 1 + 1 := by simp
  have hu := HZ ((w.alloc (.cells Z 3)).alloc (.cells #[.slice (some ⟨(w.heap.size + 1 + 1), 0, none⟩) m m, .slice (some ⟨w.heap.size, 0, none⟩) m m] T))
  rw [e2] at hu
  have hu := own_le (own_below hu (Below.refl _ _).drew) (show w.heap.size ≤ _ by omega)
  have hl := HZ w
  have hl := own_below hl ((Below.refl _ _).alloc (Nat.le_refl _) (.cells #[.slice (some ⟨(w.heap.size + 1 + 1), 0, none⟩) m m, .slice (some ⟨w.heap.size, 0, none⟩) m m] T))
  have hl := own_below hl ((Below.refl _ _).alloc (Nat.le_refl _) (.cells Z 3))
  have hl := own_le (own_below hl (Below.refl _ _).drew) (show w.heap.size ≤ _ by omega)
  have t0 : ((w.alloc (.cells Z 3)).alloc (.cells #[.slice (some ⟨(w.heap.size + 1 + 1), 0, none⟩) m m, .slice (some ⟨w.heap.size, 0, none⟩) m m] T)).cell? ⟨(w.heap.size + 1), 0, none⟩ = some (.slice (some ⟨(w.heap.size + 1 + 1), 0, none⟩) m m) := World.cell?_alloc_at _ _ _ _ (by simp)
  have t0 := cell_alloc t0 (.cells Z 3)
  have t0 := cell_below t0 (Below.refl _ _).drew
  have t1 : ((w.alloc (.cells Z 3)).alloc (.cells #[.slice (some ⟨(w.heap.size + 1 + 1), 0, none⟩) m m, .slice (some ⟨w.heap.size, 0, none⟩) m m] T)).cell? ⟨(w.heap.size + 1), 1, none⟩ = some (.slice (some ⟨w.heap.size, 0, none⟩) m m) := World.cell?_alloc_at _ _ _ _ (by simp)
  have t1 := cell_alloc t1 (.cells Z 3)
  have t1 := cell_below t1 (Below.refl _ _).drew
  exact ⟨by omega, hu, hl, t0, t1, ((((Below.refl _ _).alloc (Nat.le_refl _) _).alloc (by simp) _).alloc (by simp; omega) _).drew⟩
theorem inR_4 {m : Nat} {Z : Array Value} (HZ : ∀ W : World, (W.alloc (.cells Z 3)).ownsRow W.heap.size 3 1 (.slice (some ⟨W.heap.size, 0, none⟩) m m) m (ints (List.replicate m 0))) (w : World) (T : TypeId) : InR w (((w.alloc (.cells #[.slice (some ⟨(w.heap.size + 1), 0, none⟩) m m, .slice (some ⟨(w.heap.size + 1 + 1), 0, none⟩) m m] T)).alloc (.cells Z 3)).alloc (.cells Z 3)).drew m (w.heap.size + 1) (w.heap.size + 1 + 1) w.heap.size := by
  have e1 : (w.alloc (.cells #[.slice (some ⟨(w.heap.size + 1), 0, none⟩) m m, .slice (some ⟨(w.heap.size + 1 + 1), 0, none⟩) m m] T)).heap.size = w.heap.size + 1 := by simp
  have e2 : ((w.alloc (.cells #[.slice (some ⟨(w.heap.size + 1), 0, none⟩) m m, .slice (some ⟨(w.heap.size + 1 + 1), 0, none⟩) m m] T)).alloc (.cells Z 3)).heap.size = w.heap.size + 1 + 1 := by simp
  have hu := HZ (w.alloc (.cells #[.slice (some ⟨(w.heap.size + 1), 0, none⟩) m m, .slice (some ⟨(w.heap.size + 1 + 1), 0, none⟩) m m] T))
  rw [e1] at hu
  have hu := own_below hu ((Below.refl _ _).alloc (Nat.le_refl _) (.cells Z 3))
  have hu := own_le (own_below hu (Below.refl _ _).drew) (show w.heap.size ≤ _ by omega)
  have hl := HZ ((w.alloc (.cells #[.slice (some ⟨(w.heap.size + 1), 0, none⟩) m m, .slice (some ⟨(w.heap.size + 1 + 1), 0, none⟩) m m] T)).alloc (.cells Z 3))
  rw [e2] at hl
  have hl := own_le (own_below hl (Below.refl _ _).drew) (show w.heap.size ≤ _ by omega)
  have t0 : (w.alloc (.cells #[.slice (some ⟨(w.heap.size + 1), 0, none⟩) m m, .slice (some ⟨(w.heap.size + 1 + 1), 0, none⟩) m m] T)).cell? ⟨w.heap.size, 0, none⟩ = some (.slice (some ⟨(w.heap.size + 1), 0, none⟩) m m) := World.cell?_alloc_at _ _ _ _ (by simp)
  have t0 := cell_alloc t0 (.cells Z 3)
  have t0 := cell_alloc t0 (.cells Z 3)
  have t0 := cell_below t0 (Below.refl _ _).drew
  have t1 : (w.alloc (.cells #[.slice (some ⟨(w.heap.size + 1), 0, none⟩) m m, .slice (some ⟨(w.heap.size + 1 + 1), 0, none⟩) m m] T)).cell? ⟨w.heap.size, 1, none⟩ = some (.slice (some ⟨(w.heap.size + 1 + 1), 0, none⟩) m m) := World.cell?_alloc_at _ _ _ _ (by simp)
  have t1 := cell_alloc t1 (.cells Z 3)
  have t1 := cell_alloc t1 (.cells Z 3)
  have t1 := cell_below t1 (Below.refl _ _).drew
  exact ⟨by omega, hu, hl, t0, t1, ((((Below.refl _ _).alloc (Nat.le_refl _) _).alloc (by simp) _).alloc (by simp; omega) _).drew⟩
theorem inR_5 {m : Nat} {Z : Array Value} (HZ : ∀ W : World, (W.alloc (.cells Z 3)).ownsRow W.heap.size 3 1 (.slice (some ⟨W.heap.size, 0, none⟩) m m) m (ints (List.replicate m 0))) (w : World) (T : TypeId) : InR w (((w.alloc (.cells #[.slice (some ⟨(w.heap.size + 1 + 1), 0, none⟩) m m, .slice (some ⟨(w.heap.size + 1), 0, none⟩) m m] T)).alloc (.cells Z 3)).alloc (.cells Z 3)).drew m (w.heap.size + 1 + 1) (w.heap.size + 1) w.heap.size := by
  have e1 : (w.alloc (.cells #[.slice (some ⟨(w.heap.size + 1 + 1), 0, none⟩) m m, .slice (some ⟨(w.heap.size + 1), 0, none⟩) m m] T)).heap.size = w.heap.size + 1 := by simp
  have e2 : ((w.alloc (.cells #[.slice (some ⟨(w.heap.size + 1 + 1), 0, none⟩) m m, .slice (some ⟨(w.heap.size + 1), 0, none⟩) m m] T)).alloc (.cells Z 3)).heap.size = w.heap.size + 1 + 1 := by simp
  have hu := HZ ((w.alloc (.cells #[.slice (some ⟨(w.heap.size + 1 + 1), 0, none⟩) m m, .slice (some ⟨(w.heap.size + 1), 0, none⟩) m m] T)).alloc (.cells Z 3))
  rw [e2] at hu
  have hu := own_le (own_below hu (Below.refl _ _).drew) (show w.heap.size ≤ _ by omega)
  have hl := HZ (w.alloc (.cells #[.slice (some ⟨(w.heap.size + 1 + 1), 0, none⟩) m m, .slice (some ⟨(w.heap.size + 1), 0, none⟩) m m] T))
  rw [e1] at hl
  have hl := own_below hl ((Below.refl _ _).alloc (Nat.le_refl _) (.cells Z 3))
  have hl := own_le (own_below hl (Below.refl _ _).drew) (show w.heap.size ≤ _ by omega)
  have t0 : (w.alloc (.cells #[.slice (some ⟨(w.heap.size + 1 + 1), 0, none⟩) m m, .slice (some ⟨(w.heap.size + 1), 0, none⟩) m m] T)).cell? ⟨w.heap.size, 0, none⟩ = some (.slice (some ⟨(w.heap.size + 1 + 1), 0, none⟩) m m) := World.cell?_alloc_at _ _ _ _ (by simp)
  have t0 := cell_alloc t0 (.cells Z 3)
  have t0 := cell_alloc t0 (.cells Z 3)
  have t0 := cell_below t0 (Below.refl _ _).drew
  have t1 : (w.alloc (.cells #[.slice (some ⟨(w.heap.size + 1 + 1), 0, none⟩) m m, .slice (some ⟨(w.heap.size + 1), 0, none⟩) m m] T)).cell? ⟨w.heap.size, 1, none⟩ = some (.slice (some ⟨(w.heap.size + 1), 0, none⟩) m m) := World.cell?_alloc_at _ _ _ _ (by simp)
  have t1 := cell_alloc t1 (.cells Z 3)
  have t1 := cell_alloc t1 (.cells Z 3)
  have t1 := cell_below t1 (Below.refl _ _).drew
  exact ⟨by omega, hu, hl, t0, t1, ((((Below.refl _ _).alloc (Nat.le_refl _) _).alloc (by simp) _).alloc (by simp; omega) _).drew⟩

/-- k inputs are through -/
def InA (w0 w : World) (m bu bl bt : Nat) (p : List Int) (s : Nat → Bool) (k : Nat) : Prop :=
  (w0.heap.size ≤ bu ∧ w0.heap.size ≤ bl ∧ w0.heap.size ≤ bt ∧ bu ≠ bl ∧ bu ≠ bt ∧ bl ≠ bt) ∧ w.ownsRow w0.heap.size 3 1 (.slice (some ⟨bu, 0, none⟩) m m) m (ints (halfK p s false m k)) ∧ w.ownsRow w0.heap.size 3 1 (.slice (some ⟨bl, 0, none⟩) m m) m (ints (halfK p s true m k)) ∧
    w.cell? ⟨bt, 0, none⟩ = some (.slice (some ⟨bu, 0, none⟩) m m) ∧ w.cell? ⟨bt, 1, none⟩ = some (.slice (some ⟨bl, 0, none⟩) m m) ∧ Below w0.heap.size w0 w
theorem InA.start {w0 w : World} {m bu bl bt : Nat} (h : InR w0 w m bu bl bt) (p : List Int) (s : Nat → Bool) : InA w0 w m bu bl bt p s 0 := by
  unfold InA
  rw [halfK_zero, halfK_zero]
  exact h
theorem InA.step0 {w0 w : World} {m bu bl bt k : Nat} {p : List Int} {s : Nat → Bool} (h : InA w0 w m bu bl bt p s k) (hs : sideB s k = false) :
    InA w0 (w.setCell ⟨bu, k / 2, none⟩ (.int .i64 ((piL p k / 2 : Nat) : Int))) m bu bl bt p s (k + 1) := by
  obtain ⟨⟨d1, d2, d3, d4, d5, d6⟩, hu, hl, t0, t1, hb⟩ := h
  obtain ⟨s1, s2⟩ := hu.stored (k / 2) (.int .i64 ((piL p k / 2 : Nat) : Int))
  refine ⟨⟨d1, d2, d3, d4, d5, d6⟩, ?_, ?_, ?_, ?_, hb.setCell (p := ⟨bu, k / 2, none⟩) d1 _⟩
  · rw [halfK_hit hs, ← ints_set]; exact s1
  · rw [halfK_miss (by rw [hs]; decide)]; exact hl.kept s2 (.inr fun e => d4 (Option.some.inj e).symm)
  · exact s2.cell t0 (fun e => d5 (Option.some.inj e).symm)
  · exact s2.cell t1 (fun e => d5 (Option.some.inj e).symm)
theorem InA.step1 {w0 w : World} {m bu bl bt k : Nat} {p : List Int} {s : Nat → Bool} (h : InA w0 w m bu bl bt p s k) (hs : sideB s k = true) :
    InA w0 (w.setCell ⟨bl, k / 2, none⟩ (.int .i64 ((piL p k / 2 : Nat) : Int))) m bu bl bt p s (k + 1) := by
  obtain ⟨⟨d1, d2, d3, d4, d5, d6⟩, hu, hl, t0, t1, hb⟩ := h
  obtain ⟨s1, s2⟩ := hl.stored (k / 2) (.int .i64 ((piL p k / 2 : Nat) : Int))
  refine ⟨⟨d1, d2, d3, d4, d5, d6⟩, ?_, ?_, ?_, ?_, hb.setCell (p := ⟨bl, k / 2, none⟩) d2 _⟩
  · rw [halfK_miss (by rw [hs]; decide)]; exact hu.kept s2 (.inr fun e => d4 (Option.some.inj e))
  · rw [halfK_hit hs, ← ints_set]; exact s1
  · exact s2.cell t0 (fun e => d6 (Option.some.inj e).symm)
  · exact s2.cell t1 (fun e => d6 (Option.some.inj e).symm)
theorem side_bits {s : Nat → Bool} {k : Nat} {t c : Bool} (hk : k < 16) (ht : s (k / 2) = t) (hs : sideB s k = c) :
    bits .and .i64 (k : Int) 1 = bI (oddB k) ∧ bits .xor .i64 (bI (oddB k)) (bI t) = bI c := by
  obtain ⟨f1, f2, _⟩ := half_bits k k t hk hk
  refine ⟨f1, ?_⟩
  rw [f2, ← hs]
  unfold sideB
  rw [ht]
theorem halfs {k : Nat} (hk : k < 16) : IntKind.i64.wrap ((k : Int).tdiv 2) = ((k / 2 : Nat) : Int) := by rw [IntWalk.i64_quo _ _ (by omega)]; omega
theorem InA.row {w0 w : World} {m bu bl bt k : Nat} {p : List Int} {s : Nat → Bool} (h : InA w0 w m bu bl bt p s k) {j : Nat} (hj : j < m) :
    (∃ x, w.cell? ⟨bu, j, none⟩ = some x) ∧ w.frozen? ⟨bu, j, none⟩ = false ∧ (∃ x, w.cell? ⟨bl, j, none⟩ = some x) ∧ w.frozen? ⟨bl, j, none⟩ = false := by
  obtain ⟨_, hu, hl, _⟩ := h
  have e1 := hu.cellAt j (by omega)
  have e2 := hl.cellAt j (by omega)
  rw [ints_getD (by rw [halfK_len]; exact hj)] at e1 e2
  exact ⟨⟨_, e1⟩, hu.frozenAt j, ⟨_, e2⟩, hl.frozenAt j⟩

set_option maxRecDepth 100000 in
set_option maxHeartbeats 1000000 in
theorem inner_any {p : List Int} (hp : PermP p) {m : Nat} (hl : p.length = 2 * m) (hm : m ≤ 8) (u1 u2 v : Value) (S : List Bool) (w : World) (h1 : Rd w u1 (bools S)) (hS : S.length = m) (hv : Rd w v (ints p)) :
    Calls Try.prog 69 #[.agg #[u1, u2], v] w fun e w' => (∃ x y, e = .returned (.tuple #[x, y]) ∧ w'.ownsRow w.heap.size 3 1 x m (ints (upL p (fun j => S.getD j false) m)) ∧ w'.ownsRow w.heap.size 3 1 y m (ints (lowL p (fun j => S.getD j false) m))) ∧ Below w.heap.size w w' := by
  obtain ⟨s, hs⟩ : ∃ s : Nat → Bool, (fun j => S.getD j false) = s := ⟨_, rfl⟩
  have HSS : Hid (∀ j, S.getD j false = s j) := Lib.hid fun j => congrFun hs j
  rw [hs]
  clear hs
  obtain ⟨Z, hZ, HZO⟩ := makeI_run m (by omega)
  have HZ := Lib.hid HZO
  obtain ⟨a, cap, rfl, hc, hcm, ha, _⟩ := hv
  obtain ⟨a1, cp1, rfl, hc1, _, ha1, _⟩ := h1
  rw [ints_length, hl] at hc ⊢
  rw [bools_length, hS] at hc1 ⊢
  have hq : IntKind.i64.wrap ((2 * (m : Int)).tdiv 2) = m := by rw [IntWalk.i64_quo _ _ (by omega)]; omega
  have HA := Lib.hid ha
  have HA1 := Lib.hid ha1
  have HBW := Lib.hid ((Below.refl w.heap.size w).alloc (Nat.le_refl _) (.cells #[.slice a1 m cp1, u2] 87))
  have hb0 : (w.alloc (.cells #[.slice a1 m cp1, u2] 87)).cell? ⟨w.heap.size, 0, none⟩ = some (.slice a1 m cp1) := World.cell?_alloc_at _ _ _ _ rfl
  have HB0 := Lib.hid hb0
  obtain ⟨w1, hw1⟩ : ∃ w1, w.alloc (.cells #[.slice a1 m cp1, u2] 87) = w1 := ⟨_, rfl⟩
  have HW1 := Lib.hid hw1
  rw [hw1] at HBW HB0
  clear hb0 hw1 ha ha1 HZO
  go_enter Try.func69, Try.ntmps69
  go_wp2_with fail
  rw [HW1.out]
  go_cut [6] from 9 to 17 (fun p6 wx => ∃ bu bl bt : Nat, p6 = .pointer (some ⟨bt, 0, none⟩) ∧ Hid (InR w1 wx m bu bl bt))
  case first =>
    have hq2 : IntKind.i64.wrap (m : Int) = (m : Int) := IntWalk.i64_in _ (by omega)
    have hq3 : ((m : Nat) : Int).toNat = m := by omega
    go_region_held3 (fun w' => Hid (Below w1.heap.size w1 w'))
      (first | exact Lib.hid (Below.refl _ _).drew | exact Lib.hid ((Below.refl _ _).alloc (Nat.le_refl _) _).drew | exact Lib.hid (((Below.refl _ _).alloc (Nat.le_refl _) _).alloc (by simp) _).drew | exact Lib.hid ((((Below.refl _ _).alloc (Nat.le_refl _) _).alloc (by simp) _).alloc (by simp; omega) _).drew)
      (fail)
    all_goals go_wp2_with fail
    all_goals (
      go_meet
      first
        | (refine ⟨w1.heap.size, w1.heap.size + 1, w1.heap.size + 1 + 1, rfl, Lib.hid ?_⟩; with_reducible exact inR_0 HZ.out _ _)
        | (refine ⟨w1.heap.size, w1.heap.size + 1 + 1, w1.heap.size + 1, rfl, Lib.hid ?_⟩; with_reducible exact inR_1 HZ.out _ _)
        | (refine ⟨w1.heap.size + 1, w1.heap.size, w1.heap.size + 1 + 1, rfl, Lib.hid ?_⟩; with_reducible exact inR_2 HZ.out _ _)
        | (refine ⟨w1.heap.size + 1 + 1, w1.heap.size, w1.heap.size + 1, rfl, Lib.hid ?_⟩; with_reducible exact inR_3 HZ.out _ _)
        | (refine ⟨w1.heap.size + 1, w1.heap.size + 1 + 1, w1.heap.size, rfl, Lib.hid ?_⟩; with_reducible exact inR_4 HZ.out _ _)
        | (refine ⟨w1.heap.size + 1 + 1, w1.heap.size + 1, w1.heap.size, rfl, Lib.hid ?_⟩; with_reducible exact inR_5 HZ.out _ _))
  case rest =>
    obtain ⟨bu, bl, bt, rfl, HR⟩ := hcut
    clear HZ hZ
    have H0 := Lib.hid (InA.start HR.out p s)
    have HW := Lib.hid HBW.out.size
    have HSL := Lib.hid hS
    have HPL := Lib.hid hl
    clear hS hl HR
    go_wp2_with fail
    go_loopw [20] (fun q wr => ∃ k : Nat, k ≤ 2 * m ∧ q = .int .i64 k ∧ Hid (InA w1 wr m bu bl bt p s k)) (fun q _ => 2 * m - (intOf q).toNat)
    case atStart => exact ⟨0, by omega, rfl, H0⟩
    case round =>
      obtain ⟨k, hk, rfl, HK⟩ := hrel
      by_cases hkn : k < 2 * m
      · have hkn' : (k : Int) < 2 * (m : Int) := by omega
        have hk16 : k < 16 := by omega
        have hkm : k / 2 < m := by omega
        have HBr := Lib.hid (HBW.out.trans (HK.out.2.2.2.2.2.mono HW.out))
        obtain ⟨bb, off, rfl, hcell⟩ := (HA.out.below HBr.out (Nat.le_refl _)).cell (j := k) (by rw [ints_length, HPL.out]; exact hkn)
        have e0 := hcell k _ (ints_getD (by rw [HPL.out]; exact hkn))
        have HPE := Lib.hid (piL_eq hp (k := k) (by rw [HPL.out]; exact hkn))
        rw [HPE.out.1] at e0
        obtain ⟨o, ho⟩ : ∃ o, piL p k = o := ⟨_, rfl⟩
        rw [ho] at e0
        have ho16 : o < 16 := by have := HPE.out.2; rw [ho, HPL.out] at this; omega
        have HO := Lib.hid ho
        obtain ⟨b2, off2, rfl, hcell2⟩ := (HA1.out.below HBr.out (Nat.le_refl _)).cell (j := k / 2) (by rw [bools_length, HSL.out]; exact hkm)
        have e1 := hcell2 (k / 2) _ (bools_getD (by rw [HSL.out]; exact hkm))
        rw [HSS.out] at e1
        obtain ⟨t, ht⟩ : ∃ t, s (k / 2) = t := ⟨_, rfl⟩
        rw [ht] at e1
        have HT := Lib.hid ht
        have e2 := cell_below HB0.out HK.out.2.2.2.2.2
        obtain ⟨_, _, _, t0, t1, _⟩ := HK.out
        obtain ⟨⟨x1, r1⟩, r2, ⟨x3, r3⟩, r4⟩ := HK.out.row hkm
        have hf1 := halfs hk16
        have hf2 := halfs ho16
        clear ho ht hcell hcell2
        cases hsd : sideB s k with
        | false =>
          obtain ⟨f1, f2⟩ := side_bits hk16 HT.out hsd
          have HNX := Lib.hid (HK.out.step0 hsd)
          rw [HO.out] at HNX
          rw [show bI false = 0 from rfl] at f2
          clear hsd
          go_wp2_with (first
            | (go_at_call 46; refine (bit_any _ _).mono ?_; rintro e w2 ⟨rfl, rfl⟩))
          go_roundw
          case rel => exact ⟨k + 1, by omega, by go_num, HNX⟩
          case measure => simp [intOf]; omega
        | true =>
          obtain ⟨f1, f2⟩ := side_bits hk16 HT.out hsd
          have HNX := Lib.hid (HK.out.step1 hsd)
          rw [HO.out] at HNX
          rw [show bI true = 1 from rfl] at f2
          clear hsd
          go_wp2_with (first
            | (go_at_call 46; refine (bit_any _ _).mono ?_; rintro e w2 ⟨rfl, rfl⟩))
          go_roundw
          case rel => exact ⟨k + 1, by omega, by go_num, HNX⟩
          case measure => simp [intOf]; omega
      · obtain rfl : k = 2 * m := by omega
        obtain ⟨_, hu, hl', t0, t1, hb⟩ := HK.out
        rw [halfK_up] at hu
        rw [halfK_low] at hl'
        have HU := Lib.hid hu
        have HL := Lib.hid hl'
        have HB := Lib.hid hb
        clear hu hl' hb
        have c0 : ∀ W' : World, Hid (Below wr.heap.size wr W') → W'.cell? ⟨bt, 0, none⟩ = some (.slice (some ⟨bu, 0, none⟩) m m) := fun W' h => cell_below t0 h.out
        have c1 : ∀ W' : World, Hid (Below wr.heap.size wr W') → W'.cell? ⟨bt, 1, none⟩ = some (.slice (some ⟨bl, 0, none⟩) m m) := fun W' h => cell_below t1 h.out
        clear t0 t1
        go_wp2_with fail
        go_region_held3 (fun w' => Hid (Below wr.heap.size wr w'))
          (first | exact Lib.hid (Below.refl _ _).drew | fail)
          (fail)
        all_goals go_wp2_with fail
        all_goals go_ret2
        all_goals exact ⟨⟨_, _, rfl, own_le (own_below HU.out (Below.refl _ _).drew) HW.out, own_le (own_below HL.out (Below.refl _ _).drew) HW.out⟩, HBW.out.trans ((HB.out.trans ((Below.refl _ _).drew.mono HB.out.size)).mono HW.out)⟩
end Go.Proofs.Ytelnlmhelkcliaa

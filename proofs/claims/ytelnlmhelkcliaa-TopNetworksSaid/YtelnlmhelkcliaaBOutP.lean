/- Benes: the outer settings of a way: plain, and how they lie in memory. -/
import Derived.Test.YtelnlmhelkcliaaBRg
namespace Go.Proofs.Ytelnlmhelkcliaa
open Go.RowKit Go.Shelf

def allowT (m : Nat) (t : FL) (st : Nat → Int) : Bool := allowB m t.1 st && allowB m t.2 fun j => st (m + j)
/-- whether the first k ties may be set so -/
def okK (T : List (Nat × FL)) (st : Nat → Int) (m way k : Nat) : Bool := (List.range k).all fun i => allowT m (flipT (way.testBit i) (T.getD i (0, noneT)).2) st
theorem okK_succ (T : List (Nat × FL)) (st : Nat → Int) (m way k : Nat) : okK T st m way (k + 1) = (okK T st m way k && allowT m (flipT (way.testBit k) (T.getD k (0, noneT)).2) st) := by
  unfold okK; rw [List.range_succ, List.all_append]; simp
theorem allowB_iff {m : Nat} {F : Nat → Option Bool} {st : Nat → Int} : allowB m F st = true ↔ ∀ j, j < m → ∀ b, F j = some b → mayB (st j) b = true := by
  unfold allowB
  rw [List.all_eq_true]
  constructor
  · intro h j hj b hb
    have := h j (List.mem_range.2 hj)
    rw [hb] at this
    exact this
  · intro h j hj
    cases hf : F j with
    | none => rfl
    | some b => exact h j (List.mem_range.1 hj) b hf
theorem okK_end {m : Nat} {π ρ : Nat → Nat} {T : List (Nat × FL)} (h : PermN m π ρ) (hT : Ties m π ρ m T) (st : Nat → Int) (way : Nat) : okK T st m way T.length = okT T st m way := by
  rw [Bool.eq_iff_iff]
  unfold okK okT
  simp only [List.all_eq_true, List.mem_range, Bool.and_eq_true]
  unfold allowT
  constructor
  · intro hk j hj
    constructor
    · obtain ⟨i, b, hi, hb⟩ := hT.find1 hj
      have h1 := hk i hi
      rw [Bool.and_eq_true] at h1
      have h2 := allowB_iff.1 h1.1 j hj (b ^^ way.testBit i) (by unfold flipT; dsimp only; rw [hb]; rfl)
      rwa [outF_fst hT way hi hb _ hi (Nat.le_refl _)]
    · obtain ⟨i, b, hi, hb⟩ := hT.find2 h hj
      have h1 := hk i hi
      rw [Bool.and_eq_true] at h1
      have h2 := allowB_iff.1 h1.2 j hj (b ^^ way.testBit i) (by unfold flipT; dsimp only; rw [hb]; rfl)
      rwa [outF_snd h hT way hi hb _ hi (Nat.le_refl _)]
  · intro hk i hi
    rw [Bool.and_eq_true]
    constructor
    · refine allowB_iff.2 fun j hj b hb => ?_
      unfold flipT at hb
      dsimp only at hb
      obtain ⟨c, hc, rfl⟩ := Option.map_eq_some_iff.1 hb
      rw [← outF_fst hT way hi hc _ hi (Nat.le_refl _)]
      exact (hk j hj).1
    · refine allowB_iff.2 fun j hj b hb => ?_
      unfold flipT at hb
      dsimp only at hb
      obtain ⟨c, hc, rfl⟩ := Option.map_eq_some_iff.1 hb
      rw [← outF_snd h hT way hi hc _ hi (Nat.le_refl _)]
      exact (hk j hj).2

/-- a row of switches while a table is written into it -/
def overL (F : Nat → Option Bool) (left : Nat → Bool) (o : Nat → Bool) : Nat → Bool := fun j => if (F j).isSome && !left j then (F j).getD false else o j
def rowB (m : Nat) (s : Nat → Bool) : List Bool := (List.range m).map s
theorem rowB_len (m : Nat) (s : Nat → Bool) : (rowB m s).length = m := by simp [rowB]
theorem rowB_get (m : Nat) (s : Nat → Bool) {j : Nat} (hj : j < m) : (rowB m s).getD j false = s j := by simp [rowB, hj]
theorem rowB_congr {m : Nat} {s t : Nat → Bool} (h : ∀ j, j < m → s j = t j) : rowB m s = rowB m t := List.map_congr_left fun j hj => h j (List.mem_range.1 hj)
theorem rowB_set (m : Nat) (s : Nat → Bool) (x : Nat) (v : Bool) : (rowB m s).set x v = rowB m (fun j => if j = x then v else s j) := by
  unfold rowB
  apply List.ext_getElem
  · simp
  · intro j h1 h2
    simp only [List.getElem_map, List.getElem_range, List.getElem_set]
    by_cases e : x = j
    · subst e; simp
    · rw [if_neg e, if_neg (fun h => e h.symm)]
theorem rowB_zero (m : Nat) : rowB m (fun _ => false) = List.replicate m false := by
  unfold rowB
  apply List.ext_getElem
  · simp
  · intro j h1 h2; simp
theorem overL_start (F : Nat → Option Bool) (o : Nat → Bool) : overL F (fun j => (F j).isSome) o = o := by
  funext j; unfold overL; rw [if_neg (by dsimp only; rw [Bool.and_not_self]; decide)]
theorem overL_end (F : Nat → Option Bool) (o : Nat → Bool) {left : Nat → Bool} (h : ∀ j, left j = false) : overL F left o = over F o := by
  funext j
  unfold overL over
  rw [h j]
  cases F j <;> rfl
theorem overL_step {F : Nat → Option Bool} {left : Nat → Bool} {o : Nat → Bool} {x : Nat} {v : Bool} (hf : F x = some v) (m : Nat) : (rowB m (overL F left o)).set x v = rowB m (overL F (fun i => left i && decide (i ≠ x)) o) := by
  rw [rowB_set]
  refine rowB_congr fun j _ => ?_
  unfold overL
  by_cases hj : j = x
  · subst hj; rw [if_pos rfl, hf]; simp
  · rw [if_neg hj]; simp [hj]
theorem bools_setAt (l : List Bool) (i : Nat) (x : Bool) : (bools l).set i (.bool x) = bools (l.set i x) := by simp [bools]

theorem el_bool1 : ElemK Try.prog 22 4 (.bool false) 1 1 :=
  ⟨by kernel_rfl, info_parts (by kernel_rfl), by rfl, by decide, by decide⟩
theorem made_boolsN (n : Nat) : (madeCells (Value.bool false).cells (n * 1)).toList = bools (List.replicate n false) := by
  change (madeCells #[.bool false] (n * 1)).toList = _
  apply List.ext_getElem
  · simp [madeCells, bools]
  · intro j h1 h2
    simp [madeCells, bools, Nat.mod_one]
theorem makeB_run (N : Nat) (hN : N ≤ 900) : ∃ Z : Array Value, (∀ W : World, (Instr.makeSlice 22 (.int .i64 (N : Int)) (.int .i64 (N : Int))).run Try.prog W = .ok (.slice (some ⟨W.heap.size, 0, none⟩) N N) (W.alloc (.cells Z 4))) ∧
    ∀ W : World, (W.alloc (.cells Z 4)).ownsRow W.heap.size 4 1 (.slice (some ⟨W.heap.size, 0, none⟩) N N) N (bools (List.replicate N false)) := by
  obtain ⟨i, hi, hz, hsz, hby⟩ := el_bool1.info
  refine ⟨madeCells (Value.bool false).cells (N * 1), fun W => ?_, fun W => ?_⟩
  · have := run_makeSlice (P := Try.prog) (w := W) 22 4 i (.bool false) el_bool1.und hi hz .i64 .i64 N N (by omega) (Int.le_refl _) (by rw [hsz]; simp; omega) (by rw [hby]; omega) (by omega)
    rw [this, hsz]
    rfl
  · have e1 : (madeCells (Value.bool false).cells (N * 1)).toList = bools (List.replicate N false) := made_boolsN N
    have e2 : (madeCells (Value.bool false).cells (N * 1)).size = N := by
      have : (madeCells (Value.bool false).cells (N * 1)).toList.length = N := by rw [e1]; simp [bools]
      simpa using this
    have := own_lit W W.heap.size 4 (madeCells (Value.bool false).cells (N * 1)) N (Nat.le_refl _) e2 (by unfold maxLen; omega)
    rwa [e1] at this

/-- the two rows of an outer setting, and the variable that holds them -/
def OuA (w0 w : World) (m bu bl bt : Nat) (s : (Nat → Bool) × (Nat → Bool)) : Prop :=
  (w0.heap.size ≤ bu ∧ w0.heap.size ≤ bl ∧ w0.heap.size ≤ bt ∧ bu ≠ bl ∧ bu ≠ bt ∧ bl ≠ bt) ∧ w.ownsRow w0.heap.size 4 1 (.slice (some ⟨bu, 0, none⟩) m m) m (bools (rowB m s.1)) ∧ w.ownsRow w0.heap.size 4 1 (.slice (some ⟨bl, 0, none⟩) m m) m (bools (rowB m s.2)) ∧
    w.cell? ⟨bt, 0, none⟩ = some (.slice (some ⟨bu, 0, none⟩) m m) ∧ w.cell? ⟨bt, 1, none⟩ = some (.slice (some ⟨bl, 0, none⟩) m m) ∧ Below w0.heap.size w0 w
def noS : (Nat → Bool) × (Nat → Bool) := (fun _ => false, fun _ => false)

theorem ouA_0 {m : Nat} {Z : Array Value} (HZ : ∀ W : World, (W.alloc (.cells Z 4)).ownsRow W.heap.size 4 1 (.slice (some ⟨W.heap.size, 0, none⟩) m m) m (bools (List.replicate m false))) (w : World) (T : TypeId) : OuA w (((w.alloc (.cells Z 4)).alloc (.cells Z 4)).alloc (.cells #[.slice (some ⟨w.heap.size, 0, none⟩) m m, .slice (some ⟨(w.heap.size + 1), 0, none⟩) m m] T)).drew m w.heap.size (w.heap.size + 1) (w.heap.size + 1 + 1) noS := by
  unfold OuA noS
  dsimp only
  rw [rowB_zero]
  have e1 : (w.alloc (.cells Z 4)).heap.size = w.heap.size + 1 := by simp
  have e2 : ((w.alloc (.cells Z 4)).alloc (.cells Z 4)).heap.size = w.heap.size + 1 + 1 := by simp
  have hu := HZ w
  have hu := own_below hu ((Below.refl _ _).alloc (Nat.le_refl _) (.cells Z 4))
  have hu := own_below hu ((Below.refl _ _).alloc (Nat.le_refl _) (.cells #[.slice (some ⟨w.heap.size, 0, none⟩) m m, .slice (some ⟨(w.heap.size + 1), 0, none⟩) m m] T))
  have hu := own_le (own_below hu (Below.refl _ _).drew) (show w.heap.size ≤ _ by omega)
  have hl := HZ (w.alloc (.cells Z 4))
  rw [e1] at hl
  have hl := own_below hl ((Below.refl _ _).alloc (Nat.le_refl _) (.cells #[.slice (some ⟨w.heap.size, 0, none⟩) m m, .slice (some ⟨(w.heap.size + 1), 0, none⟩) m m] T))
  have hl := own_le (own_below hl (Below.refl _ _).drew) (show w.heap.size ≤ _ by omega)
  have t0 : (((w.alloc (.cells Z 4)).alloc (.cells Z 4)).alloc (.cells #[.slice (some ⟨w.heap.size, 0, none⟩) m m, .slice (some ⟨(w.heap.size + 1), 0, none⟩) m m] T)).cell? ⟨(w.heap.size + 1 + 1), 0, none⟩ = some (.slice (some ⟨w.heap.size, 0, none⟩) m m) := World.cell?_alloc_at _ _ _ _ (by simp)
  have t0 := cell_below t0 (Below.refl _ _).drew
  have t1 : (((w.alloc (.cells Z 4)).alloc (.cells Z 4)).alloc (.cells #[.slice (some ⟨w.heap.size, 0, none⟩) m m, .slice (some ⟨(w.heap.size + 1), 0, none⟩) m m] T)).cell? ⟨(w.heap.size + 1 + 1), 1, none⟩ = some (.slice (some ⟨(w.heap.size + 1), 0, none⟩) m m) := World.cell?_alloc_at _ _ _ _ (by simp)
  have t1 := cell_below t1 (Below.refl _ _).drew
  exact ⟨by omega, hu, hl, t0, t1, ((((Below.refl _ _).alloc (Nat.le_refl _) _).alloc (by simp) _).alloc (by simp; omega) _).drew⟩
theorem ouA_1 {m : Nat} {Z : Array Value} (HZ : ∀ W : World, (W.alloc (.cells Z 4)).ownsRow W.heap.size 4 1 (.slice (some ⟨W.heap.size, 0, none⟩) m m) m (bools (List.replicate m false))) (w : World) (T : TypeId) : OuA w (((w.alloc (.cells Z 4)).alloc (.cells #[.slice (some ⟨w.heap.size, 0, none⟩) m m, .slice (some ⟨(w.heap.size + 1 + 1), 0, none⟩) m m] T)).alloc (.cells Z 4)).drew m w.heap.size (w.heap.size + 1 + 1) (w.heap.size + 1) noS := by
  unfold OuA noS
  dsimp only
  rw [rowB_zero]
  have e1 : (w.alloc (.cells Z 4)).heap.size = w.heap.size + 1 := by simp
  have e2 : ((w.alloc (.cells Z 4)).alloc (.cells #[.slice (some ⟨w.heap.size, 0, none⟩) m m, .slice (some ⟨(w.heap.size + 1 + 1), 0, none⟩) m m] T)).heap.size = w.heap.size + 1 + 1 := by simp
  have hu := HZ w
  have hu := own_below hu ((Below.refl _ _).alloc (Nat.le_refl _) (.cells #[.slice (some ⟨w.heap.size, 0, none⟩) m m, .slice (some ⟨(w.heap.size + 1 + 1), 0, none⟩) m m] T))
  have hu := own_below hu ((Below.refl _ _).alloc (Nat.le_refl _) (.cells Z 4))
  have hu := own_le (own_below hu (Below.refl _ _).drew) (show w.heap.size ≤ _ by omega)
  have hl := HZ ((w.alloc (.cells Z 4)).alloc (.cells #[.slice (some ⟨w.heap.size, 0, none⟩) m m, .slice (some ⟨(w.heap.size + 1 + 1), 0, none⟩) m m] T))
  rw [e2] at hl
  have hl := own_le (own_below hl (Below.refl _ _).drew) (show w.heap.size ≤ _ by omega)
  have t0 : ((w.alloc (.cells Z 4)).alloc (.cells #[.slice (some ⟨w.heap.size, 0, none⟩) m m, .slice (some ⟨(w.heap.size + 1 + 1), 0, none⟩) m m] T)).cell? ⟨(w.heap.size + 1), 0, none⟩ = some (.slice (some ⟨w.heap.size, 0, none⟩) m m) := World.cell?_alloc_at _ _ _ _ (by simp)
  have t0 := cell_alloc t0 (.cells Z 4)
  have t0 := cell_below t0 (Below.refl _ _).drew
  have t1 : ((w.alloc (.cells Z 4)).alloc (.cells #[.slice (some ⟨w.heap.size, 0, none⟩) m m, .slice (some ⟨(w.heap.size + 1 + 1), 0, none⟩) m m] T)).cell? ⟨(w.heap.size + 1), 1, none⟩ = some (.slice (some ⟨(w.heap.size + 1 + 1), 0, none⟩) m m) := World.cell?_alloc_at _ _ _ _ (by simp)
  have t1 := cell_alloc t1 (.cells Z 4)
  have t1 := cell_below t1 (Below.refl _ _).drew
  exact ⟨by omega, hu, hl, t0, t1, ((((Below.refl _ _).alloc (Nat.le_refl _) _).alloc (by simp) _).alloc (by simp; omega) _).drew⟩
theorem ouA_2 {m : Nat} {Z : Array Value} (HZ : ∀ W : World, (W.alloc (.cells Z 4)).ownsRow W.heap.size 4 1 (.slice (some ⟨W.heap.size, 0, none⟩) m m) m (bools (List.replicate m false))) (w : World) (T : TypeId) : OuA w (((w.alloc (.cells Z 4)).alloc (.cells Z 4)).alloc (.cells #[.slice (some ⟨(w.heap.size + 1), 0, none⟩) m m, .slice (some ⟨w.heap.size, 0, none⟩) m m] T)).drew m (w.heap.size + 1) w.heap.size (w.heap.size + 1 + 1) noS := by
  unfold OuA noS
  dsimp only
  rw [rowB_zero]
  have e1 : (w.alloc (.cells Z 4)).heap.size = w.heap.size + 1 := by simp
  have e2 : ((w.alloc (.cells Z 4)).alloc (.cells Z 4)).heap.size = w.heap.size + 1 + 1 := by simp
  have hu := HZ (w.alloc (.cells Z 4))
  rw [e1] at hu
  have hu := own_below hu ((Below.refl _ _).alloc (Nat.le_refl _) (.cells #[.slice (some ⟨(w.heap.size + 1), 0, none⟩) m m, .slice (some ⟨w.heap.size, 0, none⟩) m m] T))
  have hu := own_le (own_below hu (Below.refl _ _).drew) (show w.heap.size ≤ _ by omega)
  have hl := HZ w
  have hl := own_below hl ((Below.refl _ _).alloc (Nat.le_refl _) (.cells Z 4))
  have hl := own_below hl ((Below.refl _ _).alloc (Nat.le_refl _) (.cells #[.slice (some ⟨(w.heap.size + 1), 0, none⟩) m m, .slice (some ⟨w.heap.size, 0, none⟩) m m] T))
  have hl := own_le (own_below hl (Below.refl _ _).drew) (show w.heap.size ≤ _ by omega)
  have t0 : (((w.alloc (.cells Z 4)).alloc (.cells Z 4)).alloc (.cells #[.slice (some ⟨(w.heap.size + 1), 0, none⟩) m m, .slice (some ⟨w.heap.size, 0, none⟩) m m] T)).cell? ⟨(w.heap.size + 1 + 1), 0, none⟩ = some (.slice (some ⟨(w.heap.size + 1), 0, none⟩) m m) := World.cell?_alloc_at _ _ _ _ (by simp)
  have t0 := cell_below t0 (Below.refl _ _).drew
  have t1 : (((w.alloc (.cells Z 4)).alloc (.cells Z 4)).alloc (.cells #[.slice (some ⟨(w.heap.size + 1), 0, none⟩) m m, .slice (some ⟨w.heap.size, 0, none⟩) m m] T)).cell? ⟨(w.heap.size + 1 + 1), 1, none⟩ = some (.slice (some ⟨w.heap.size, 0, none⟩) m m) := World.cell?_alloc_at _ _ _ _ (by simp)
  have t1 := cell_below t1 (Below.refl _ _).drew
  exact ⟨by omega, hu, hl, t0, t1, ((((Below.refl _ _).alloc (Nat.le_refl _) _).alloc (by simp) _).alloc (by simp; omega) _).drew⟩
theorem ouA_3 {m : Nat} {Z : Array Value} (HZ : ∀ W : World, (W.alloc (.cells Z 4)).ownsRow W.heap.size 4 1 (.slice (some ⟨W.heap.size, 0, none⟩) m m) m (bools (List.replicate m false))) (w : World) (T : TypeId) : OuA w (((w.alloc (.cells Z 4)).alloc (.cells #[.slice (some ⟨(w.heap.size + 1 + 1), 0, none⟩) m m, .slice (some ⟨w.heap.size, 0, none⟩) m m] T)).alloc (.cells Z 4)).drew m (w.heap.size + 1 + 1) w.heap.size (w.heap.size + 1) noS := by
  unfold OuA noS
  dsimp only
  rw [rowB_zero]
  have e1 : (w.alloc (.cells Z 4)).heap.size = w.heap.size + 1 := by simp
  have e2 : ((w.alloc (.cells Z 4)).alloc (.cells #[.slice (some ⟨(w.heap.size + 1 + 1), 0, none⟩) m m, .slice (some ⟨w.heap.size, 0, none⟩) m m] T)).heap.size = w.heap.size + 1 + 1 := by simp
  have hu := HZ ((w.alloc (.cells Z 4)).alloc (.cells #[.slice (some ⟨(w.heap.size + 1 + 1), 0, none⟩) m m, .slice (some ⟨w.heap.size, 0, none⟩) m m] T))
  rw [e2] at hu
  have hu := own_le (own_below hu (Below.refl _ _).drew) (show w.heap.size ≤ _ by omega)
  have hl := HZ w
  have hl := own_below hl ((Below.refl _ _).alloc (Nat.le_refl _) (.cells #[.slice (some ⟨(w.heap.size + 1 + 1), 0, none⟩) m m, .slice (some ⟨w.heap.size, 0, none⟩) m m] T))
  have hl := own_below hl ((Below.refl _ _).alloc (Nat.le_refl _) (.cells Z 4))
  have hl := own_le (own_below hl (Below.refl _ _).drew) (show w.heap.size ≤ _ by omega)
  have t0 : ((w.alloc (.cells Z 4)).alloc (.cells #[.slice (some ⟨(w.heap.size + 1 + 1), 0, none⟩) m m, .slice (some ⟨w.heap.size, 0, none⟩) m m] T)).cell? ⟨(w.heap.size + 1), 0, none⟩ = some (.slice (some ⟨(w.heap.size + 1 + 1), 0, none⟩) m m) := World.cell?_alloc_at _ _ _ _ (by simp)
  have t0 := cell_alloc t0 (.cells Z 4)
  have t0 := cell_below t0 (Below.refl _ _).drew
  have t1 : ((w.alloc (.cells Z 4)).alloc (.cells #[.slice (some ⟨(w.heap.size + 1 + 1), 0, none⟩) m m, .slice (some ⟨w.heap.size, 0, none⟩) m m] T)).cell? ⟨(w.heap.size + 1), 1, none⟩ = some (.slice (some ⟨w.heap.size, 0, none⟩) m m) := World.cell?_alloc_at _ _ _ _ (by simp)
  have t1 := cell_alloc t1 (.cells Z 4)
  have t1 := cell_below t1 (Below.refl _ _).drew
  exact ⟨by omega, hu, hl, t0, t1, ((((Below.refl _ _).alloc (Nat.le_refl _) _).alloc (by simp) _).alloc (by simp; omega) _).drew⟩
theorem ouA_4 {m : Nat} {Z : Array Value} (HZ : ∀ W : World, (W.alloc (.cells Z 4)).ownsRow W.heap.size 4 1 (.slice (some ⟨W.heap.size, 0, none⟩) m m) m (bools (List.replicate m false))) (w : World) (T : TypeId) : OuA w (((w.alloc (.cells #[.slice (some ⟨(w.heap.size + 1), 0, none⟩) m m, .slice (some ⟨(w.heap.size + 1 + 1), 0, none⟩) m m] T)).alloc (.cells Z 4)).alloc (.cells Z 4)).drew m (w.heap.size + 1) (w.heap.size + 1 + 1) w.heap.size noS := by
  unfold OuA noS
  dsimp only
  rw [rowB_zero]
  have e1 : (w.alloc (.cells #[.slice (some ⟨(w.heap.size + 1), 0, none⟩) m m, .slice (some ⟨(w.heap.size + 1 + 1), 0, none⟩) m m] T)).heap.size = w.heap.size + 1 := by simp
  have e2 : ((w.alloc (.cells #[.slice (some ⟨(w.heap.size + 1), 0, none⟩) m m, .slice (some ⟨(w.heap.size + 1 + 1), 0, none⟩) m m] T)).alloc (.cells Z 4)).heap.size = w.heap.size + 1 + 1 := by simp
  have hu := HZ (w.alloc (.cells #[.slice (some ⟨(w.heap.size + 1), 0, none⟩) m m, .slice (some ⟨(w.heap.size + 1 + 1), 0, none⟩) m m] T))
  rw [e1] at hu
  have hu := own_below hu ((Below.refl _ _).alloc (Nat.le_refl _) (.cells Z 4))
  have hu := own_le (own_below hu (Below.refl _ _).drew) (show w.heap.size ≤ _ by omega)
  have hl := HZ ((w.alloc (.cells #[.slice (some ⟨(w.heap.size + 1), 0, none⟩) m m, .slice (some ⟨(w.heap.size + 1 + 1), 0, none⟩) m m] T)).alloc (.cells Z 4))
  rw [e2] at hl
  have hl := own_le (own_below hl (Below.refl _ _).drew) (show w.heap.size ≤ _ by omega)
  have t0 : (w.alloc (.cells #[.slice (some ⟨(w.heap.size + 1), 0, none⟩) m m, .slice (some ⟨(w.heap.size + 1 + 1), 0, none⟩) m m] T)).cell? ⟨w.heap.size, 0, none⟩ = some (.slice (some ⟨(w.heap.size + 1), 0, none⟩) m m) := World.cell?_alloc_at _ _ _ _ (by simp)
  have t0 := cell_alloc t0 (.cells Z 4)
  have t0 := cell_alloc t0 (.cells Z 4)
  have t0 := cell_below t0 (Below.refl _ _).drew
  have t1 : (w.alloc (.cells #[.slice (some ⟨(w.heap.size + 1), 0, none⟩) m m, .slice (some ⟨(w.heap.size + 1 + 1), 0, none⟩) m m] T)).cell? ⟨w.heap.size, 1, none⟩ = some (.slice (some ⟨(w.heap.size + 1 + 1), 0, none⟩) m m) := World.cell?_alloc_at _ _ _ _ (by simp)
  have t1 := cell_alloc t1 (.cells Z 4)
  have t1 := cell_alloc t1 (.cells Z 4)
  have t1 := cell_below t1 (Below.refl _ _).drew
  exact ⟨by omega, hu, hl, t0, t1, ((((Below.refl _ _).alloc (Nat.le_refl _) _).alloc (by simp) _).alloc (by simp; omega) _).drew⟩
theorem ouA_5 {m : Nat} {Z : Array Value} (HZ : ∀ W : World, (W.alloc (.cells Z 4)).ownsRow W.heap.size 4 1 (.slice (some ⟨W.heap.size, 0, none⟩) m m) m (bools (List.replicate m false))) (w : World) (T : TypeId) : OuA w (((w.alloc (.cells #[.slice (some ⟨(w.heap.size + 1 + 1), 0, none⟩) m m, .slice (some ⟨(w.heap.size + 1), 0, none⟩) m m] T)).alloc (.cells Z 4)).alloc (.cells Z 4)).drew m (w.heap.size + 1 + 1) (w.heap.size + 1) w.heap.size noS := by
  unfold OuA noS
  dsimp only
  rw [rowB_zero]
  have e1 : (w.alloc (.cells #[.slice (some ⟨(w.heap.size + 1 + 1), 0, none⟩) m m, .slice (some ⟨(w.heap.size + 1), 0, none⟩) m m] T)).heap.size = w.heap.size + 1 := by simp
  have e2 : ((w.alloc (.cells #[.slice (some ⟨(w.heap.size + 1 + 1), 0, none⟩) m m, .slice (some ⟨(w.heap.size + 1), 0, none⟩) m m] T)).alloc (.cells Z 4)).heap.size = w.heap.size + 1 + 1 := by simp
  have hu := HZ ((w.alloc (.cells #[.slice (some ⟨(w.heap.size + 1 + 1), 0, none⟩) m m, .slice (some ⟨(w.heap.size + 1), 0, none⟩) m m] T)).alloc (.cells Z 4))
  rw [e2] at hu
  have hu := own_le (own_below hu (Below.refl _ _).drew) (show w.heap.size ≤ _ by omega)
  have hl := HZ (w.alloc (.cells #[.slice (some ⟨(w.heap.size + 1 + 1), 0, none⟩) m m, .slice (some ⟨(w.heap.size + 1), 0, none⟩) m m] T))
  rw [e1] at hl
  have hl := own_below hl ((Below.refl _ _).alloc (Nat.le_refl _) (.cells Z 4))
  have hl := own_le (own_below hl (Below.refl _ _).drew) (show w.heap.size ≤ _ by omega)
  have t0 : (w.alloc (.cells #[.slice (some ⟨(w.heap.size + 1 + 1), 0, none⟩) m m, .slice (some ⟨(w.heap.size + 1), 0, none⟩) m m] T)).cell? ⟨w.heap.size, 0, none⟩ = some (.slice (some ⟨(w.heap.size + 1 + 1), 0, none⟩) m m) := World.cell?_alloc_at _ _ _ _ (by simp)
  have t0 := cell_alloc t0 (.cells Z 4)
  have t0 := cell_alloc t0 (.cells Z 4)
  have t0 := cell_below t0 (Below.refl _ _).drew
  have t1 : (w.alloc (.cells #[.slice (some ⟨(w.heap.size + 1 + 1), 0, none⟩) m m, .slice (some ⟨(w.heap.size + 1), 0, none⟩) m m] T)).cell? ⟨w.heap.size, 1, none⟩ = some (.slice (some ⟨(w.heap.size + 1), 0, none⟩) m m) := World.cell?_alloc_at _ _ _ _ (by simp)
  have t1 := cell_alloc t1 (.cells Z 4)
  have t1 := cell_alloc t1 (.cells Z 4)
  have t1 := cell_below t1 (Below.refl _ _).drew
  exact ⟨by omega, hu, hl, t0, t1, ((((Below.refl _ _).alloc (Nat.le_refl _) _).alloc (by simp) _).alloc (by simp; omega) _).drew⟩
theorem OuA.below {w0 w w' : World} {m bu bl bt : Nat} {s : (Nat → Bool) × (Nat → Bool)} (h : OuA w0 w m bu bl bt s) (hb : Below w.heap.size w w') : OuA w0 w' m bu bl bt s := by
  obtain ⟨d, hu, hl, t0, t1, hw⟩ := h
  exact ⟨d, own_below hu hb, own_below hl hb, cell_below t0 hb, cell_below t1 hb, hw.trans (hb.mono hw.size)⟩

/-- what the function that goes over the ways has caught -/
structure OutEnv (W : World) (B Bl Bm Bp ub uc m : Nat) (pa : Option Addr) (pc : Nat) (bs : List (Nat × Nat)) (T : List (Nat × FL)) (v1 v2 v3 v4 : Value) (l1 l2 : List Int) : Prop where
  ge : B ≤ Bl ∧ B ≤ Bm ∧ B ≤ Bp ∧ B ≤ ub
  cl : W.cell? ⟨Bl, 0, none⟩ = some (.slice (some ⟨ub, 0, none⟩) bs.length uc)
  row : W.ownsRow B 101 2 (.slice (some ⟨ub, 0, none⟩) bs.length uc) bs.length (tc bs)
  tab : TabAt W B m bs T
  cm : W.cell? ⟨Bm, 0, none⟩ = some (.slice pa (2 * m) pc)
  p1 : W.cell? ⟨Bp, 0, none⟩ = some v1
  p2 : W.cell? ⟨Bp, 1, none⟩ = some v2
  p3 : W.cell? ⟨Bp, 2, none⟩ = some v3
  p4 : W.cell? ⟨Bp, 3, none⟩ = some v4
  r1 : Rd W v1 (ints l1)
  r2 : Rd W v2 (ints l2)
/-- a row that a change of X leaves alone -/
def Off (X : Option Nat) (v : Value) : Prop := ∀ a n c, v = .slice (some a) n c → some a.block ≠ X
theorem rd_off {A B : World} {X : Option Nat} (h : A.grownBy B X) {v : Value} {cs : List Value} (hv : Rd A v cs) (hX : Off X v) : Rd B v cs := by
  obtain ⟨a, cap, rfl, h1, h2, h3, h4⟩ := hv
  refine ⟨a, cap, rfl, h1, h2, ?_, h4⟩
  rcases h3 with h3 | ⟨b, off, rfl, h3⟩
  · exact .inl h3
  · exact .inr ⟨b, off, rfl, fun j u hj => h.cell (h3 j u hj) (show some b ≠ X from hX ⟨b, off, none⟩ _ _ rfl)⟩
theorem OutEnv.kept {W W' : World} {B Bl Bm Bp ub uc m : Nat} {pa : Option Addr} {pc : Nat} {bs : List (Nat × Nat)} {T : List (Nat × FL)} {v1 v2 v3 v4 : Value} {l1 l2 : List Int} (h : OutEnv W B Bl Bm Bp ub uc m pa pc bs T v1 v2 v3 v4 l1 l2)
    {X : Option Nat} (hg : W.grownBy W' X) (hX : ∀ x, X = some x → x < B) (h1 : Off X v1) (h2 : Off X v2) : OutEnv W' B Bl Bm Bp ub uc m pa pc bs T v1 v2 v3 v4 l1 l2 := by
  obtain ⟨g1, g2, g3, g4⟩ := h.ge
  have no : ∀ k, B ≤ k → some k ≠ X := fun k hk e => by have := hX k e.symm; omega
  exact ⟨h.ge, hg.cell h.cl (no _ g1), h.row.kept hg (.inr (no _ g4)), h.tab.kept hg fun r N F e hr => absurd (hX r e) (by omega), hg.cell h.cm (no _ g2), hg.cell h.p1 (no _ g3), hg.cell h.p2 (no _ g3), hg.cell h.p3 (no _ g3), hg.cell h.p4 (no _ g3), rd_off hg h.r1 h1, rd_off hg h.r2 h2⟩
theorem OutEnv.below {W W' : World} {B Bl Bm Bp ub uc m : Nat} {pa : Option Addr} {pc : Nat} {bs : List (Nat × Nat)} {T : List (Nat × FL)} {v1 v2 v3 v4 : Value} {l1 l2 : List Int} (h : OutEnv W B Bl Bm Bp ub uc m pa pc bs T v1 v2 v3 v4 l1 l2)
    (hb : Below W.heap.size W W') : OutEnv W' B Bl Bm Bp ub uc m pa pc bs T v1 v2 v3 v4 l1 l2 :=
  ⟨h.ge, cell_below h.cl hb, own_below h.row hb, h.tab.below hb, cell_below h.cm hb, cell_below h.p1 hb, cell_below h.p2 hb, cell_below h.p3 hb, cell_below h.p4 hb, h.r1.below hb (Nat.le_refl _), h.r2.below hb (Nat.le_refl _)⟩
/-- what is handed over -/
def RxO (p : List Int) (m : Nat) (st : Nat → Int) (v : Value) (way : Nat) (W : World) : Prop :=
  ∃ f l, v = .agg #[f, l] ∧ Rd W f (bools (rowB m (outF (tiesL p m) way (tiesL p m).length).1)) ∧ Rd W l (bools (rowB m (outF (tiesL p m) way (tiesL p m).length).2)) ∧ way < 2 ^ (tiesL p m).length ∧ okT (tiesL p m) st m way = true
theorem rxO_own (p : List Int) (m : Nat) (st : Nat → Int) (B : Nat) (v : Value) (way : Nat) : OwnFrom B (fun (_ : Unit) W => RxO p m st v way W) := fun _ _ _ _ ⟨f, l, e, h1, h2, h3⟩ hg hr =>
  ⟨f, l, e, h1.turned hg (fun r e => (hr r e).2), h2.turned hg (fun r e => (hr r e).2), h3⟩
def outL (p : List Int) (m : Nat) (st : Nat → Int) : List Nat := (List.range (2 ^ (tiesL p m).length)).filter (okT (tiesL p m) st m)
theorem range_cut {n k : Nat} (h : k < n) (q : Nat → Bool) (hq : q k = true) : ∃ post, (List.range n).filter q = (List.range k).filter q ++ k :: post := by
  have : List.range n = List.range k ++ (k :: (List.range' (k + 1) (n - k - 1))) := by
    rw [List.range_eq_range', List.range_eq_range', show n = k + ((n - k - 1) + 1) by omega, ← List.range'_append_1, List.range'_succ]
    simp
  refine ⟨(List.range' (k + 1) (n - k - 1)).filter q, ?_⟩
  rw [this, List.filter_append, List.filter_cons, if_pos hq]
theorem range_snoc (k : Nat) (q : Nat → Bool) : (List.range (k + 1)).filter q = (List.range k).filter q ++ (if q k then [k] else []) := by
  rw [List.range_succ, List.filter_append]
  simp [List.filter_cons]
end Go.Proofs.Ytelnlmhelkcliaa

/- Benes: what follows from a switch that is set: plain, without a program. -/
import Derived.Test.YtelnlmhelkcliaaBCol
namespace Go.Proofs.Ytelnlmhelkcliaa

def oddB (k : Nat) : Bool := decide (k % 2 = 1)
def flip1 (x : Nat) : Nat := if x % 2 = 0 then x + 1 else x - 1
theorem flip1_lt {x m : Nat} (h : x < 2 * m) : flip1 x < 2 * m := by unfold flip1; split <;> omega
theorem flip1_flip1 (x : Nat) : flip1 (flip1 x) = x := by unfold flip1; split <;> split <;> omega
theorem flip1_ne (x : Nat) : flip1 x ≠ x := by unfold flip1; split <;> omega
theorem flip1_half (x : Nat) : flip1 x / 2 = x / 2 := by unfold flip1; split <;> omega
theorem flip1_odd (x : Nat) : oddB (flip1 x) = !oddB x := by
  unfold flip1 oddB
  split
  · rw [decide_eq_true (by omega), decide_eq_false (by omega)]; rfl
  · rw [decide_eq_false (by omega), decide_eq_true (by omega)]; rfl
theorem even_or {x : Nat} : (oddB x = false ∧ x = 2 * (x / 2)) ∨ (oddB x = true ∧ x = 2 * (x / 2) + 1) := by
  unfold oddB
  rcases Nat.mod_two_eq_zero_or_one x with h | h
  · left; rw [decide_eq_false (by omega)]; exact ⟨rfl, by omega⟩
  · right; rw [decide_eq_true (by omega)]; exact ⟨rfl, by omega⟩

/-- a permutation of 2 * m ports and its inverse -/
structure PermN (m : Nat) (π ρ : Nat → Nat) : Prop where
  lt : ∀ k, k < 2 * m → π k < 2 * m
  rlt : ∀ x, x < 2 * m → ρ x < 2 * m
  i1 : ∀ k, k < 2 * m → ρ (π k) = k
  i2 : ∀ x, x < 2 * m → π (ρ x) = x
/-- the input whose output is on the same switch -/
def mate (π ρ : Nat → Nat) (k : Nat) : Nat := ρ (flip1 (π k))
theorem PermN.mate_lt {m : Nat} {π ρ : Nat → Nat} (h : PermN m π ρ) {k : Nat} (hk : k < 2 * m) : mate π ρ k < 2 * m := h.rlt _ (flip1_lt (h.lt k hk))
theorem PermN.mate_half {m : Nat} {π ρ : Nat → Nat} (h : PermN m π ρ) {k : Nat} (hk : k < 2 * m) : mate π ρ k / 2 < m := by have := h.mate_lt hk; omega
theorem PermN.pi_mate {m : Nat} {π ρ : Nat → Nat} (h : PermN m π ρ) {k : Nat} (hk : k < 2 * m) : π (mate π ρ k) = flip1 (π k) := h.i2 _ (flip1_lt (h.lt k hk))
theorem PermN.mate_mate {m : Nat} {π ρ : Nat → Nat} (h : PermN m π ρ) {k : Nat} (hk : k < 2 * m) : mate π ρ (mate π ρ k) = k := by
  unfold mate
  rw [h.i2 _ (flip1_lt (h.lt k hk)), flip1_flip1, h.i1 k hk]
theorem PermN.mate_ne {m : Nat} {π ρ : Nat → Nat} (h : PermN m π ρ) {k : Nat} (hk : k < 2 * m) : mate π ρ k ≠ k := by
  intro e
  have := h.pi_mate hk
  rw [e] at this
  exact flip1_ne _ this.symm

/-- a colouring of the inputs: two of one switch, and two of one last switch, are unlike -/
def Col (m : Nat) (π ρ : Nat → Nat) (χ : Nat → Bool) : Prop := ∀ k, k < 2 * m → χ (flip1 k) = !χ k ∧ χ (mate π ρ k) = !χ k
theorem PermN.col {m : Nat} {π ρ : Nat → Nat} (h : PermN m π ρ) : ∃ χ, Col m π ρ χ := by
  obtain ⟨χ, hχ⟩ := twoColor flip1 (2 * m) (List.range (2 * m)) (mate π ρ) (by simp)
    (fun x hx => ⟨List.mem_range.2 (flip1_lt (List.mem_range.1 hx)), flip1_flip1 x, flip1_ne x⟩)
    (fun x hx => ⟨List.mem_range.2 (h.mate_lt (List.mem_range.1 hx)), h.mate_mate (List.mem_range.1 hx), h.mate_ne (List.mem_range.1 hx)⟩)
  exact ⟨χ, fun k hk => hχ k (List.mem_range.2 hk)⟩
theorem Col.even {m : Nat} {π ρ : Nat → Nat} {χ : Nat → Bool} (h : Col m π ρ χ) {k : Nat} (hk : k < 2 * m) : χ k = (χ (2 * (k / 2)) ^^ oddB k) := by
  rcases even_or (x := k) with ⟨h1, h2⟩ | ⟨h1, h2⟩
  · rw [h1, ← h2]; simp
  · have := (h (2 * (k / 2)) (by omega)).1
    unfold flip1 at this
    rw [if_pos (by omega), ← h2] at this
    rw [h1, this]; simp

/-- two tables of switches -/
abbrev FL := (Nat → Option Bool) × (Nat → Option Bool)
def upd (F : Nat → Option Bool) (j : Nat) (b : Bool) : Nat → Option Bool := fun i => if i = j then some b else F i
def followP (π ρ : Nat → Nat) : Nat → FL → Nat → Bool → FL
  | 0, s, _, _ => s
  | f + 1, s, j, set =>
    if (s.1 j).isSome then s else
    let s1 := (followP π ρ f (upd s.1 j set, upd s.2 (π (2 * j) / 2) (oddB (π (2 * j)) ^^ set)) (mate π ρ (2 * j) / 2) (oddB (mate π ρ (2 * j)) == set))
    followP π ρ f (s1.1, upd s1.2 (π (2 * j + 1) / 2) (oddB (π (2 * j + 1)) ^^ !set)) (mate π ρ (2 * j + 1) / 2) (oddB (mate π ρ (2 * j + 1)) == !set)

structure Good (m : Nat) (π : Nat → Nat) (ρ : Nat → Nat) (χ : Nat → Bool) (c : Bool) (P : Nat → Prop) (s : FL) : Prop where
  val : ∀ i b, s.1 i = some b → i < m ∧ b = (χ (2 * i) ^^ c) ∧ P i
  lst : ∀ l b, s.2 l = some b → l < m ∧ b = (χ (ρ (2 * l)) ^^ c) ∧ ∃ k, k < 2 * m ∧ π k / 2 = l ∧ (s.1 (k / 2)).isSome = true

theorem half_good {m : Nat} {π ρ : Nat → Nat} (h : PermN m π ρ) {χ : Nat → Bool} (hc : Col m π ρ χ) {c : Bool} {P : Nat → Prop} {s : FL} (hs : Good m π ρ χ c P s) {k : Nat} (hk : k < 2 * m) (hsk : (s.1 (k / 2)).isSome = true) :
    Good m π ρ χ c P (s.1, upd s.2 (π k / 2) (oddB (π k) ^^ (χ k ^^ c))) := by
  refine ⟨hs.val, fun l b hl => ?_⟩
  dsimp only at hl
  unfold upd at hl
  by_cases e : l = π k / 2
  · rw [if_pos e] at hl
    obtain rfl := Option.some.inj hl
    have hp := h.lt k hk
    refine ⟨by omega, ?_, k, hk, e.symm, hsk⟩
    rcases even_or (x := π k) with ⟨h1, h2⟩ | ⟨h1, h2⟩
    · rw [h1, e, ← h2, h.i1 k hk]; simp
    · have e2 : 2 * l = flip1 (π k) := by unfold flip1; rw [if_neg (by omega)]; omega
      rw [h1, e2]
      have := (hc k hk).2
      unfold mate at this
      rw [this]
      cases χ k <;> cases c <;> rfl
  · rw [if_neg e] at hl
    exact hs.lst l b hl
theorem follow_mono (π ρ : Nat → Nat) : ∀ (f : Nat) (s : FL) (j : Nat) (set : Bool),
    (∀ i b, s.1 i = some b → (followP π ρ f s j set).1 i = some b) ∧ (∀ l, (s.2 l).isSome = true → ((followP π ρ f s j set).2 l).isSome = true)
  | 0, s, j, set => ⟨fun i b h => h, fun l h => h⟩
  | f + 1, s, j, set => by
    unfold followP
    by_cases hj : (s.1 j).isSome = true
    · rw [if_pos hj]; exact ⟨fun i b h => h, fun l h => h⟩
    · rw [if_neg hj]
      dsimp only
      have hu : ∀ (F : Nat → Option Bool) (x : Nat) (v : Bool) l, (F l).isSome = true → (upd F x v l).isSome = true := fun F x v l hl => by
        unfold upd; split
        · rfl
        · exact hl
      have h1 := follow_mono π ρ f (upd s.1 j set, upd s.2 (π (2 * j) / 2) (oddB (π (2 * j)) ^^ set)) (mate π ρ (2 * j) / 2) (oddB (mate π ρ (2 * j)) == set)
      generalize followP π ρ f (upd s.1 j set, upd s.2 (π (2 * j) / 2) (oddB (π (2 * j)) ^^ set)) (mate π ρ (2 * j) / 2) (oddB (mate π ρ (2 * j)) == set) = s1 at *
      have h2 := follow_mono π ρ f (s1.1, upd s1.2 (π (2 * j + 1) / 2) (oddB (π (2 * j + 1)) ^^ !set)) (mate π ρ (2 * j + 1) / 2) (oddB (mate π ρ (2 * j + 1)) == !set)
      refine ⟨fun i b hb => h2.1 i b (h1.1 i b ?_), fun l hl => h2.2 l (hu _ _ _ _ (h1.2 l (hu _ _ _ _ hl)))⟩
      dsimp only
      unfold upd
      by_cases e : i = j
      · subst e; rw [hb] at hj; simp at hj
      · rw [if_neg e]; exact hb

theorem follow_good {m : Nat} {π ρ : Nat → Nat} (h : PermN m π ρ) {χ : Nat → Bool} (hc : Col m π ρ χ) {c : Bool} {P : Nat → Prop} (hP : ∀ k, k < 2 * m → P (k / 2) → P (mate π ρ k / 2)) :
    ∀ (f : Nat) (s : FL) (j : Nat) (set : Bool), Good m π ρ χ c P s → j < m → P j → set = (χ (2 * j) ^^ c) → Good m π ρ χ c P (followP π ρ f s j set)
  | 0, s, j, set, hs, _, _, _ => hs
  | f + 1, s, j, set, hs, hj, hp, hset => by
    unfold followP
    by_cases hjs : (s.1 j).isSome = true
    · rw [if_pos hjs]; exact hs
    · rw [if_neg hjs]
      dsimp only
      have hk0 : 2 * j < 2 * m := by omega
      have hk1 : 2 * j + 1 < 2 * m := by omega
      have e1 : χ (2 * j + 1) = !χ (2 * j) := by
        have := (hc (2 * j) hk0).1
        unfold flip1 at this
        rwa [if_pos (by omega)] at this
      have hnext : ∀ k, k < 2 * m → (oddB (mate π ρ k) == (χ k ^^ c)) = (χ (2 * (mate π ρ k / 2)) ^^ c) := fun k hk => by
        have g1 := hc.even (h.mate_lt hk)
        rw [(hc k hk).2] at g1
        revert g1
        cases χ k <;> cases c <;> cases oddB (mate π ρ k) <;> cases χ (2 * (mate π ρ k / 2)) <;> decide
      have s0 : Good m π ρ χ c P (upd s.1 j set, s.2) := by
        refine ⟨fun i b hb => ?_, fun l b hb => ?_⟩
        · dsimp only at hb
          unfold upd at hb
          by_cases e : i = j
          · rw [if_pos e] at hb
            obtain rfl := Option.some.inj hb
            subst e
            exact ⟨hj, hset, hp⟩
          · rw [if_neg e] at hb; exact hs.val i b hb
        · obtain ⟨q1, q2, k, q3, q4, q5⟩ := hs.lst l b hb
          refine ⟨q1, q2, k, q3, q4, ?_⟩
          dsimp only
          unfold upd
          split
          · rfl
          · exact q5
      have hsj : ((upd s.1 j set) j).isSome = true := by unfold upd; rw [if_pos rfl]; rfl
      have g0 := half_good h hc s0 hk0 (by rw [show 2 * j / 2 = j by omega]; exact hsj)
      rw [← hset] at g0
      have n0 := hnext _ hk0
      rw [← hset] at n0
      have r1 := follow_good h hc hP f _ (mate π ρ (2 * j) / 2) (oddB (mate π ρ (2 * j)) == set) g0 (h.mate_half hk0) (hP _ hk0 (by rw [show 2 * j / 2 = j by omega]; exact hp)) n0
      have hm1 := (follow_mono π ρ f (upd s.1 j set, upd s.2 (π (2 * j) / 2) (oddB (π (2 * j)) ^^ set)) (mate π ρ (2 * j) / 2) (oddB (mate π ρ (2 * j)) == set)).1 j set (by dsimp only; unfold upd; rw [if_pos rfl])
      dsimp only at r1
      generalize followP π ρ f (upd s.1 j set, upd s.2 (π (2 * j) / 2) (oddB (π (2 * j)) ^^ set)) (mate π ρ (2 * j) / 2) (oddB (mate π ρ (2 * j)) == set) = s1 at *
      have hset1 : (!set) = (χ (2 * j + 1) ^^ c) := by rw [hset, e1]; cases χ (2 * j) <;> cases c <;> rfl
      have g1 := half_good h hc r1 hk1 (by rw [show (2 * j + 1) / 2 = j by omega, hm1]; rfl)
      rw [← hset1] at g1
      have n1 := hnext _ hk1
      rw [← hset1] at n1
      exact follow_good h hc hP f _ (mate π ρ (2 * j + 1) / 2) (oddB (mate π ρ (2 * j + 1)) == !set) g1 (h.mate_half hk1) (hP _ hk1 (by rw [show (2 * j + 1) / 2 = j by omega]; exact hp)) n1

/-- how many are not set -/
def freeN (F : Nat → Option Bool) : Nat → Nat
  | 0 => 0
  | m + 1 => freeN F m + if (F m).isSome = true then 0 else 1
theorem freeN_le (F : Nat → Option Bool) : ∀ m, freeN F m ≤ m
  | 0 => Nat.le_refl _
  | m + 1 => by have := freeN_le F m; unfold freeN; split <;> omega
theorem freeN_mono {F G : Nat → Option Bool} (h : ∀ i, (F i).isSome = true → (G i).isSome = true) : ∀ m, freeN G m ≤ freeN F m
  | 0 => Nat.le_refl _
  | m + 1 => by
    have ih := freeN_mono h m
    unfold freeN
    by_cases hF : (F m).isSome = true
    · rw [if_pos hF, if_pos (h m hF)]; omega
    · rw [if_neg hF]; split <;> omega
theorem freeN_upd {F : Nat → Option Bool} {j : Nat} (hj : ¬ (F j).isSome = true) (b : Bool) : ∀ m, freeN (upd F j b) m + (if j < m then 1 else 0) = freeN F m
  | 0 => by simp [freeN]
  | m + 1 => by
    have ih := freeN_upd hj b m
    unfold freeN
    by_cases e : m = j
    · subst e
      rw [if_neg (Nat.lt_irrefl _)] at ih
      rw [if_pos (Nat.lt_succ_self _), if_neg hj]
      have : (upd F m b m).isSome = true := by unfold upd; rw [if_pos rfl]; rfl
      rw [if_pos this]; omega
    · have : upd F j b m = F m := by unfold upd; rw [if_neg e]
      rw [this]
      by_cases hlt : j < m
      · rw [if_pos hlt] at ih; rw [if_pos (show j < m + 1 by omega)]; omega
      · rw [if_neg hlt] at ih; rw [if_neg (show ¬ j < m + 1 by omega)]; omega

theorem follow_done {m : Nat} {π ρ : Nat → Nat} (h : PermN m π ρ) : ∀ (f : Nat) (s : FL) (j : Nat) (set : Bool), j < m → freeN s.1 m < f →
    ((followP π ρ f s j set).1 j).isSome = true ∧ ∀ k, k < 2 * m → ((followP π ρ f s j set).1 (k / 2)).isSome = true → s.1 (k / 2) = none →
      ((followP π ρ f s j set).1 (mate π ρ k / 2)).isSome = true ∧ ((followP π ρ f s j set).2 (π k / 2)).isSome = true
  | 0, s, j, set, _, hf => by omega
  | f + 1, s, j, set, hj, hf => by
    have hall := follow_mono π ρ (f + 1) s j set
    unfold followP at hall ⊢
    by_cases hjs : (s.1 j).isSome = true
    · rw [if_pos hjs]
      refine ⟨hjs, fun k _ h1 h2 => ?_⟩
      rw [h2] at h1; cases h1
    · rw [if_neg hjs] at hall ⊢
      dsimp only at hall ⊢
      have hk0 : 2 * j < 2 * m := by omega
      have hk1 : 2 * j + 1 < 2 * m := by omega
      have hfree := freeN_upd hjs set m
      rw [if_pos hj] at hfree
      have a1 := follow_done h f (upd s.1 j set, upd s.2 (π (2 * j) / 2) (oddB (π (2 * j)) ^^ set)) (mate π ρ (2 * j) / 2) (oddB (mate π ρ (2 * j)) == set) (h.mate_half hk0) (by dsimp only; omega)
      have m1 := follow_mono π ρ f (upd s.1 j set, upd s.2 (π (2 * j) / 2) (oddB (π (2 * j)) ^^ set)) (mate π ρ (2 * j) / 2) (oddB (mate π ρ (2 * j)) == set)
      generalize followP π ρ f (upd s.1 j set, upd s.2 (π (2 * j) / 2) (oddB (π (2 * j)) ^^ set)) (mate π ρ (2 * j) / 2) (oddB (mate π ρ (2 * j)) == set) = s1 at *
      have hs1 : ∀ i, ((upd s.1 j set) i).isSome = true → (s1.1 i).isSome = true := fun i hi => by
        obtain ⟨b, hb⟩ := Option.isSome_iff_exists.1 hi
        rw [m1.1 i b hb]; rfl
      have hfree1 := freeN_mono hs1 m
      have a2 := follow_done h f (s1.1, upd s1.2 (π (2 * j + 1) / 2) (oddB (π (2 * j + 1)) ^^ !set)) (mate π ρ (2 * j + 1) / 2) (oddB (mate π ρ (2 * j + 1)) == !set) (h.mate_half hk1) (by dsimp only; omega)
      have m2 := follow_mono π ρ f (s1.1, upd s1.2 (π (2 * j + 1) / 2) (oddB (π (2 * j + 1)) ^^ !set)) (mate π ρ (2 * j + 1) / 2) (oddB (mate π ρ (2 * j + 1)) == !set)
      generalize followP π ρ f (s1.1, upd s1.2 (π (2 * j + 1) / 2) (oddB (π (2 * j + 1)) ^^ !set)) (mate π ρ (2 * j + 1) / 2) (oddB (mate π ρ (2 * j + 1)) == !set) = s2 at *
      have t1 : ∀ i, (s1.1 i).isSome = true → (s2.1 i).isSome = true := fun i hi => by
        obtain ⟨b, hb⟩ := Option.isSome_iff_exists.1 hi
        rw [m2.1 i b hb]; rfl
      have u1 : ∀ (F : Nat → Option Bool) (x : Nat) (v : Bool), (upd F x v x).isSome = true := fun F x v => by unfold upd; rw [if_pos rfl]; rfl
      have u2 : ∀ (F : Nat → Option Bool) (x : Nat) (v : Bool) l, (F l).isSome = true → (upd F x v l).isSome = true := fun F x v l hl => by
        unfold upd; split
        · rfl
        · exact hl
      refine ⟨t1 _ (hs1 _ (u1 _ _ _)), fun k hk h1 h2 => ?_⟩
      by_cases e : k / 2 = j
      · rcases (by omega : k = 2 * j ∨ k = 2 * j + 1) with rfl | rfl
        · exact ⟨t1 _ a1.1, m2.2 _ (u2 _ _ _ _ (m1.2 _ (u1 _ _ _)))⟩
        · exact ⟨a2.1, m2.2 _ (u1 _ _ _)⟩
      · have e0 : upd s.1 j set (k / 2) = none := by unfold upd; rw [if_neg e]; exact h2
        cases h3 : s1.1 (k / 2) with
        | none => exact a2.2 k hk h1 h3
        | some b =>
          obtain ⟨q1, q2⟩ := a1.2 k hk (by rw [h3]; rfl) e0
          exact ⟨t1 _ q1, m2.2 _ (u2 _ _ _ _ q2)⟩
end Go.Proofs.Ytelnlmhelkcliaa

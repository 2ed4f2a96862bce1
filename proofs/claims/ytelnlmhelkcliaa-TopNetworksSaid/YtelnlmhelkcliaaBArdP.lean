/- Benes: the first way that goes. Plain. -/
import Derived.Test.YtelnlmhelkcliaaBSum
namespace Go.Proofs.Ytelnlmhelkcliaa
open Go.RowKit

/-- settings that make a permutation in spite of stuck switches, as the program finds them -/
def aroundR : Nat → List Int → (Nat → Int) → Option (List Bool)
  | 0, p, st => if mayB (st 0) (p.getD 0 0 == 1) then some [p.getD 0 0 == 1] else none
  | h + 1, p, st => (outL p (pw h) st).findSome? fun way =>
      match aroundR h (upL p (oF p (pw h) way) (pw h)) (fun i => st (pw (h + 1) + i)) with
      | none => none
      | some a => match aroundR h (lowL p (oF p (pw h) way) (pw h)) (fun i => st (pw (h + 1) + cnt h + i)) with
        | none => none
        | some b => some (rowB (pw h) (outF (tiesL p (pw h)) way (tiesL p (pw h)).length).1 ++ (rowB (pw h) (outF (tiesL p (pw h)) way (tiesL p (pw h)).length).2 ++ (a ++ b)))
theorem sum_zero : ∀ {l : List Nat}, l.sum = 0 ↔ ∀ x ∈ l, x = 0
  | [] => by simp
  | x :: l => by rw [List.sum_cons]; simp [sum_zero (l := l)]
theorem out_perm1 {p : List Int} (hp : PermP p) {m : Nat} (hl : p.length = 2 * m) (way : Nat) : PermP (upL p (oF p m way) m) ∧ PermP (lowL p (oF p m way) m) := by
  have hP := permN_of hp hl
  have hc := out_cons hP (ties_ok hP m (Nat.le_refl _)) way
  exact ⟨up_perm hp hl hc, low_perm hp hl hc⟩
/-- there are such settings just where there is a way -/
theorem around_none : ∀ (h : Nat) (p : List Int) (st : Nat → Int), PermP p → p.length = pw h → (aroundR h p st = none ↔ waysR h p st = 0)
  | 0, p, st, _, _ => by
    unfold aroundR waysR
    cases mayB (st 0) (p.getD 0 0 == 1) <;> simp
  | h + 1, p, st, hp, hl => by
    have hl2 : p.length = 2 * pw h := hl
    rw [← ways_sum hp hl st, sum_zero]
    unfold aroundR
    rw [List.findSome?_eq_none_iff]
    have key : ∀ way, ((match aroundR h (upL p (oF p (pw h) way) (pw h)) (fun i => st (pw (h + 1) + i)) with
      | none => none
      | some a => match aroundR h (lowL p (oF p (pw h) way) (pw h)) (fun i => st (pw (h + 1) + cnt h + i)) with
        | none => none
        | some b => some (rowB (pw h) (outF (tiesL p (pw h)) way (tiesL p (pw h)).length).1 ++ (rowB (pw h) (outF (tiesL p (pw h)) way (tiesL p (pw h)).length).2 ++ (a ++ b)))) = none) ↔ (wayF h p st way).1 * (wayF h p st way).2 = 0 := fun way => by
      have hop := out_perm1 hp hl2 way
      have h1 := around_none h _ (fun i => st (pw (h + 1) + i)) hop.1 (upL_len _ _ _)
      have h2 := around_none h _ (fun i => st (pw (h + 1) + cnt h + i)) hop.2 (lowL_len _ _ _)
      unfold wayF
      dsimp only
      rw [Nat.mul_eq_zero, ← h1, ← h2]
      cases aroundR h (upL p (oF p (pw h) way) (pw h)) (fun i => st (pw (h + 1) + i)) with
      | none => simp
      | some a =>
        cases aroundR h (lowL p (oF p (pw h) way) (pw h)) (fun i => st (pw (h + 1) + cnt h + i)) with
        | none => simp
        | some b => simp
    constructor
    · intro hh x hx
      obtain ⟨way, hw, rfl⟩ := List.mem_map.1 hx
      exact (key way).1 (hh way hw)
    · intro hh way hw
      exact (key way).2 (hh _ (List.mem_map.2 ⟨way, hw, rfl⟩))
/-- where no switch is stuck there is a way -/
theorem ways_free : ∀ (h : Nat) (p : List Int) (st : Nat → Int), PermP p → p.length = pw h → (∀ i, i < cnt h → st i = 0) → waysR h p st ≠ 0
  | 0, p, st, _, _, hz => by
    unfold waysR
    rw [hz 0 (by decide), mayB_zero]
    simp
  | h + 1, p, st, hp, hl, hz => by
    have hl2 : p.length = 2 * pw h := hl
    have hw : pw (h + 1) = 2 * pw h := rfl
    have hc : cnt (h + 1) = pw (h + 1) + 2 * cnt h := rfl
    rw [← ways_sum hp hl st]
    intro h0
    rw [sum_zero] at h0
    have hop := out_perm1 hp hl2 0
    have h1 := ways_free h _ (fun i => st (pw (h + 1) + i)) hop.1 (upL_len _ _ _) fun i hi => hz _ (by omega)
    have h2 := ways_free h _ (fun i => st (pw (h + 1) + cnt h + i)) hop.2 (lowL_len _ _ _) fun i hi => hz _ (by omega)
    have hm : 0 ∈ outL p (pw h) st := by
      unfold outL
      rw [List.mem_filter]
      refine ⟨List.mem_range.2 (Nat.two_pow_pos _), ?_⟩
      unfold okT
      rw [List.all_eq_true]
      intro j hj
      have hj := List.mem_range.1 hj
      rw [hz j (by omega), hz (pw h + j) (by omega), mayB_zero, mayB_zero]
      rfl
    have := h0 _ (List.mem_map.2 ⟨0, hm, rfl⟩)
    unfold wayF at this
    dsimp only at this
    rcases Nat.mul_eq_zero.1 this with e | e
    · exact h1 e
    · exact h2 e
end Go.Proofs.Ytelnlmhelkcliaa

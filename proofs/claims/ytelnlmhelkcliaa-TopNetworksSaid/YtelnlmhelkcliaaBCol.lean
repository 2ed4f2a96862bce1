/- Benes: the two sides of light: plain, without a program. -/
import Derived.Test.YtelnlmhelkcliaaBase
namespace Go.Proofs.Ytelnlmhelkcliaa

/-- two pairings of the elements of a list have a common colouring -/
theorem twoColor (α : Nat → Nat) : ∀ (m : Nat) (L : List Nat) (β : Nat → Nat), L.length ≤ m → (∀ x ∈ L, α x ∈ L ∧ α (α x) = x ∧ α x ≠ x) → (∀ x ∈ L, β x ∈ L ∧ β (β x) = x ∧ β x ≠ x) →
    ∃ χ : Nat → Bool, ∀ x ∈ L, χ (α x) = !χ x ∧ χ (β x) = !χ x
  | m, [], β, _, _, _ => ⟨fun _ => false, fun x h => (by cases h)⟩
  | 0, k :: L, β, hm, _, _ => by simp at hm
  | m + 1, k :: L, β, hm, hα, hβ => by
    obtain ⟨a1, a2, a3⟩ := hα k (by simp)
    obtain ⟨k', hk'⟩ : ∃ k', α k = k' := ⟨_, rfl⟩
    rw [hk'] at a1 a2 a3
    obtain ⟨b1, b2, b3⟩ := hβ k (by simp)
    obtain ⟨b1', b2', b3'⟩ := hβ k' a1
    have hmem : ∀ x, x ∈ (k :: L).filter (fun x => decide (x ≠ k) && decide (x ≠ k')) ↔ x ∈ k :: L ∧ x ≠ k ∧ x ≠ k' := fun x => by rw [List.mem_filter]; simp only [ne_eq, Bool.and_eq_true, decide_eq_true_eq]
    have hlen : ((k :: L).filter (fun x => decide (x ≠ k) && decide (x ≠ k'))).length ≤ m := by
      rw [List.filter_cons, if_neg (by simp)]
      have := List.length_filter_le (fun x => decide (x ≠ k) && decide (x ≠ k')) L
      simp only [List.length_cons] at hm
      omega
    generalize (k :: L).filter (fun x => decide (x ≠ k) && decide (x ≠ k')) = L' at hmem hlen
    have hα' : ∀ x ∈ L', α x ∈ L' ∧ α (α x) = x ∧ α x ≠ x := fun x hx => by
      obtain ⟨h1, h2, h3⟩ := (hmem x).1 hx
      obtain ⟨g1, g2, g3⟩ := hα x h1
      refine ⟨(hmem _).2 ⟨g1, fun e => h3 ?_, fun e => h2 ?_⟩, g2, g3⟩
      · rw [← g2, e, hk']
      · rw [← g2, e, a2]
    by_cases hbk : β k = k'
    · have hβ' : ∀ x ∈ L', β x ∈ L' ∧ β (β x) = x ∧ β x ≠ x := fun x hx => by
        obtain ⟨h1, h2, h3⟩ := (hmem x).1 hx
        obtain ⟨g1, g2, g3⟩ := hβ x h1
        refine ⟨(hmem _).2 ⟨g1, fun e => h3 ?_, fun e => h2 ?_⟩, g2, g3⟩
        · rw [← g2, e, hbk]
        · rw [← g2, e, ← hbk, b2]
      obtain ⟨χ, hχ⟩ := twoColor α m L' β hlen hα' hβ'
      refine ⟨fun x => if x = k then false else if x = k' then true else χ x, fun x hx => ?_⟩
      dsimp only
      by_cases e1 : x = k
      · subst e1
        rw [hk', hbk]
        simp [a3]
      · by_cases e2 : x = k'
        · subst e2
          have : β x = k := by rw [← hbk, b2]
          rw [a2, this]
          simp [a3]
        · have hx' := (hmem x).2 ⟨hx, e1, e2⟩
          obtain ⟨g1, g2⟩ := hχ x hx'
          obtain ⟨_, p1, p2⟩ := (hmem _).1 (hα' x hx').1
          obtain ⟨_, q1, q2⟩ := (hmem _).1 (hβ' x hx').1
          simp [e1, e2, p1, p2, q1, q2, g1, g2]
    · obtain ⟨x0, hx0⟩ : ∃ x0, β k = x0 := ⟨_, rfl⟩
      obtain ⟨y0, hy0⟩ : ∃ y0, β k' = y0 := ⟨_, rfl⟩
      rw [hx0] at b1 b2 b3 hbk
      rw [hy0] at b1' b2' b3'
      have hy0k : y0 ≠ k := fun e => hbk (by rw [← hx0, ← e, b2'])
      have hxy : x0 ≠ y0 := fun e => a3 (by rw [← b2', ← e, b2])
      have hxL : x0 ∈ L' := (hmem _).2 ⟨b1, b3, hbk⟩
      have hyL : y0 ∈ L' := (hmem _).2 ⟨b1', hy0k, b3'⟩
      have hβ' : ∀ x ∈ L', (fun z => if z = x0 then y0 else if z = y0 then x0 else β z) x ∈ L' ∧
          (fun z => if z = x0 then y0 else if z = y0 then x0 else β z) ((fun z => if z = x0 then y0 else if z = y0 then x0 else β z) x) = x ∧ (fun z => if z = x0 then y0 else if z = y0 then x0 else β z) x ≠ x := fun x hx => by
        dsimp only
        by_cases e1 : x = x0
        · subst e1
          simp only [if_true, Ne.symm hxy, if_false]
          exact ⟨hyL, trivial, Ne.symm hxy⟩
        · by_cases e2 : x = y0
          · subst e2
            simp only [if_true, Ne.symm hxy, if_false]
            exact ⟨hxL, trivial, hxy⟩
          · obtain ⟨h1, h2, h3⟩ := (hmem x).1 hx
            obtain ⟨g1, g2, g3⟩ := hβ x h1
            have n1 : β x ≠ x0 := fun e => h2 (by rw [← g2, e, b2])
            have n2 : β x ≠ y0 := fun e => h3 (by rw [← g2, e, b2'])
            simp only [e1, e2, n1, n2, if_false]
            refine ⟨(hmem _).2 ⟨g1, fun e => e1 ?_, fun e => e2 ?_⟩, g2, g3⟩
            · rw [← g2, e, hx0]
            · rw [← g2, e, hy0]
      obtain ⟨χ, hχ⟩ := twoColor α m L' _ hlen hα' hβ'
      have hy : χ y0 = !χ x0 := by
        have := (hχ x0 hxL).2
        simpa using this
      refine ⟨fun x => if x = k then !χ x0 else if x = k' then χ x0 else χ x, fun x hx => ?_⟩
      dsimp only
      by_cases e1 : x = k
      · subst e1
        rw [hk', hx0]
        simp [a3, hbk, b3]
      · by_cases e2 : x = k'
        · subst e2
          rw [a2, hy0]
          simp [a3, hy0k, b3', hy]
        · have hx' := (hmem x).2 ⟨hx, e1, e2⟩
          obtain ⟨g1, g2⟩ := hχ x hx'
          obtain ⟨_, p1, p2⟩ := (hmem _).1 (hα' x hx').1
          refine ⟨by simp [e1, e2, p1, p2, g1], ?_⟩
          by_cases f1 : x = x0
          · subst f1
            rw [b2]
            simp [e1, e2]
          · by_cases f2 : x = y0
            · subst f2
              rw [b2']
              simp [a3, e1, e2, hy]
            · obtain ⟨h1, h2, h3⟩ := (hmem x).1 hx'
              obtain ⟨u1, u2, u3⟩ := hβ x h1
              have n1 : β x ≠ k := fun e => f1 (by rw [← u2, e, hx0])
              have n2 : β x ≠ k' := fun e => f2 (by rw [← u2, e, hy0])
              simp only [f1, f2, if_false] at g2
              simp [e1, e2, n1, n2, g2]
end Go.Proofs.Ytelnlmhelkcliaa

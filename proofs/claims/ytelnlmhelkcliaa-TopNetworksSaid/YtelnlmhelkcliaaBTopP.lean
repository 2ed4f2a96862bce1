/- Benes: over all permutations of 4 the ways add up to all settings that agree with the stuck switches. Plain. -/
import Derived.Test.YtelnlmhelkcliaaBSum
import Derived.Test.YtelnlmhelkcliaaBLost
namespace Go.Proofs.Ytelnlmhelkcliaa
open Go.RowKit

def totW (st : Nat → Int) : Nat := ((permsP 4).map fun p => waysR 1 p st).sum
def zerosN (st : Nat → Int) : Nat → Nat
  | 0 => 0
  | k + 1 => zerosN st k + if st k = 0 then 1 else 0
theorem zeros_congr {s t : Nat → Int} : ∀ k, (∀ i, i < k → s i = t i) → zerosN s k = zerosN t k
  | 0, _ => rfl
  | k + 1, h => by unfold zerosN; rw [zeros_congr k fun i hi => h i (by omega), h k (by omega)]
theorem sum_add {α : Type} (f g h : α → Nat) : ∀ (L : List α), (∀ x ∈ L, f x = g x + h x) → (L.map f).sum = (L.map g).sum + (L.map h).sum
  | [], _ => rfl
  | x :: L, H => by
    rw [List.map_cons, List.map_cons, List.map_cons, List.sum_cons, List.sum_cons, List.sum_cons, H x (by simp), sum_add f g h L fun y hy => H y (by simp [hy])]
    omega
theorem sum_congr {α : Type} (f g : α → Nat) : ∀ (L : List α), (∀ x ∈ L, f x = g x) → (L.map f).sum = (L.map g).sum
  | [], _ => rfl
  | x :: L, H => by rw [List.map_cons, List.map_cons, List.sum_cons, List.sum_cons, H x (by simp), sum_congr f g L fun y hy => H y (by simp [hy])]
theorem totW_congr {s t : Nat → Int} (h : ∀ i, i < 6 → s i = t i) : totW s = totW t :=
  sum_congr _ _ _ fun p hp => waysR_congr 1 p s t (permsP_ok 4 p hp) (permsP_len 4 p hp) h
/-- all switches stuck, as the bits of m say -/
def stB (m : Nat) (i : Nat) : Int := if m.testBit i then 2 else 1
theorem tot_stuck : (List.range 64).all (fun m => totW (stB m) == 1) = true := by kernel_rfl
theorem bits_of (st : Nat → Int) : ∀ k, (∀ i, i < k → st i = 1 ∨ st i = 2) → ∃ m, m < 2 ^ k ∧ ∀ i, i < k → st i = stB m i
  | 0, _ => ⟨0, by decide, fun i hi => absurd hi (Nat.not_lt_zero _)⟩
  | k + 1, h => by
    obtain ⟨w, hw, hb⟩ := testBit_of (fun i => st i == 2) (k + 1)
    refine ⟨w, hw, fun i hi => ?_⟩
    unfold stB
    rw [hb i hi]
    rcases h i hi with e | e <;> rw [e] <;> rfl
theorem totW_split {st : Nat → Int} {i : Nat} (hi : i < 6) (h0 : st i = 0) : totW st = totW (upd1 st i 1) + totW (upd1 st i 2) :=
  sum_add _ _ _ _ fun p hp => waysR_add 1 p st i (permsP_ok 4 p hp) (permsP_len 4 p hp) hi h0
theorem totW_all : ∀ (j : Nat), j ≤ 6 → ∀ st : Nat → Int, (∀ i, i < 6 → st i = 0 ∨ st i = 1 ∨ st i = 2) → (∀ i, j ≤ i → i < 6 → st i ≠ 0) → totW st = 2 ^ zerosN st j
  | 0, _, st, h, hz => by
    obtain ⟨m, hm, hb⟩ := bits_of st 6 fun i hi => by
      rcases h i hi with e | e
      · exact absurd e (hz i (Nat.zero_le _) hi)
      · exact e
    rw [totW_congr hb]
    have := List.all_eq_true.1 tot_stuck m (List.mem_range.2 hm)
    simpa [zerosN] using this
  | j + 1, hj, st, h, hz => by
    by_cases h0 : st j = 0
    · have hu : ∀ v : Int, (v = 1 ∨ v = 2) → totW (upd1 st j v) = 2 ^ zerosN st j := fun v hv => by
        rw [totW_all j (by omega) (upd1 st j v) (fun i hi => by
          by_cases e : i = j
          · subst e; rw [upd1_same]; exact .inr hv
          · rw [upd1_other st v e]; exact h i hi) (fun i h1 h2 => by
          by_cases e : i = j
          · subst e; rw [upd1_same]; rcases hv with e | e <;> rw [e] <;> decide
          · rw [upd1_other st v e]; exact hz i (by omega) h2)]
        rw [zeros_congr j fun i hi => upd1_other st v (by omega)]
      rw [totW_split (by omega) h0, hu 1 (.inl rfl), hu 2 (.inr rfl)]
      rw [show zerosN st (j + 1) = zerosN st j + (if st j = 0 then 1 else 0) from rfl, if_pos h0, Nat.pow_succ]
      omega
    · rw [totW_all j (by omega) st h fun i h1 h2 => by
        by_cases e : i = j
        · subst e; exact h0
        · exact hz i (by omega) h2]
      rw [show zerosN st (j + 1) = zerosN st j + (if st j = 0 then 1 else 0) from rfl, if_neg h0, Nat.add_zero]
theorem tot_eq {st : Nat → Int} (h : ∀ i, i < 6 → st i = 0 ∨ st i = 1 ∨ st i = 2) : totW st = 2 ^ zerosN st 6 :=
  totW_all 6 (Nat.le_refl _) st h fun i h1 h2 => by omega
end Go.Proofs.Ytelnlmhelkcliaa

/- Plain facts on permutations: lists of n numbers below n. -/
import Derived.Test.YtelnlmhelkcliaaBase
namespace Go.Proofs.Ytelnlmhelkcliaa

theorem len_le_of_subset {α : Type} [DecidableEq α] : ∀ (l m : List α), l.Nodup → (∀ x ∈ l, x ∈ m) → l.length ≤ m.length
  | [], _, _, _ => Nat.zero_le _
  | a :: t, m, h, hs => by
    have h1 := List.nodup_cons.1 h
    have ha := hs a (List.mem_cons_self ..)
    have := len_le_of_subset t (m.erase a) h1.2 (fun x hx => by
      have hne : x ≠ a := fun e => h1.1 (e ▸ hx)
      exact (List.mem_erase_of_ne hne).2 (hs x (List.mem_cons_of_mem _ hx)))
    rw [List.length_erase_of_mem ha] at this
    have hp : 0 < m.length := List.length_pos_of_mem ha
    simp only [List.length_cons]
    omega

/-- the numbers below n -/
def below (n : Nat) : List Int := (List.range n).map Int.ofNat
theorem mem_below {n : Nat} {x : Int} : x ∈ below n ↔ 0 ≤ x ∧ x < n := by
  unfold below
  rw [List.mem_map]
  constructor
  · rintro ⟨j, hj, rfl⟩
    have := List.mem_range.1 hj
    simp; omega
  · rintro ⟨h1, h2⟩
    exact ⟨x.toNat, List.mem_range.2 (by omega), by simp; omega⟩
theorem below_len (n : Nat) : (below n).length = n := by simp [below]
theorem below_nodup (n : Nat) : (below n).Nodup := by
  unfold below
  exact List.Pairwise.map _ (fun a b h e => h (Int.ofNat.inj e)) (List.nodup_range (n := n))

/-- a list is a permutation of the numbers below its length -/
def PermP (p : List Int) : Prop := (∀ x ∈ p, 0 ≤ x ∧ x < p.length) ∧ p.Nodup
instance (p : List Int) : Decidable (PermP p) := inferInstanceAs (Decidable (_ ∧ _))

theorem PermP.all {p : List Int} (h : PermP p) (j : Nat) (hj : j < p.length) : (j : Int) ∈ p := by
  by_cases hm : (j : Int) ∈ p
  · exact hm
  · have := len_le_of_subset p ((below p.length).erase j) h.2 (fun x hx => by
      have hne : x ≠ (j : Int) := fun e => hm (e ▸ hx)
      exact (List.mem_erase_of_ne hne).2 (mem_below.2 (h.1 x hx)))
    rw [List.length_erase_of_mem (mem_below.2 ⟨by omega, by omega⟩), below_len] at this
    omega

theorem permP_of_all {p : List Int} (h : ∀ j, j < p.length → (j : Int) ∈ p) : PermP p := by
  have hsub : ∀ x ∈ below p.length, x ∈ p := fun x hx => by
    have := mem_below.1 hx
    have := h x.toNat (by omega)
    rwa [Int.toNat_of_nonneg (by omega)] at this
  refine ⟨fun x hx => ?_, ?_⟩
  · by_cases hr : 0 ≤ x ∧ x < p.length
    · exact hr
    · have := len_le_of_subset (below p.length) (p.erase x) (below_nodup _) (fun y hy => by
        have hne : y ≠ x := fun e => hr (e ▸ mem_below.1 hy)
        exact (List.mem_erase_of_ne hne).2 (hsub y hy))
      rw [List.length_erase_of_mem hx, below_len] at this
      have := List.length_pos_of_mem hx
      omega
  · by_cases hn : p.Nodup
    · exact hn
    · exfalso
      -- an element that is there twice may be struck
      have : ∃ x, x ∈ p ∧ x ∈ p.erase x := by
        have hne : ∀ l : List Int, ¬ l.Nodup → ∃ x, x ∈ l ∧ x ∈ l.erase x := by
          intro l
          induction l with
          | nil => intro h; exact absurd List.nodup_nil h
          | cons a t ih =>
            intro h
            by_cases ha : a ∈ t
            · exact ⟨a, List.mem_cons_self .., by simpa using ha⟩
            · have : ¬ t.Nodup := fun ht => h (List.nodup_cons.2 ⟨ha, ht⟩)
              obtain ⟨x, h1, h2⟩ := ih this
              have hxa : x ≠ a := fun e => ha (e ▸ h1)
              refine ⟨x, List.mem_cons_of_mem _ h1, ?_⟩
              rw [List.erase_cons_tail (by simpa using Ne.symm hxa)]
              exact List.mem_cons_of_mem _ h2
        exact hne p hn
      obtain ⟨x, hx, hx2⟩ := this
      have := len_le_of_subset (below p.length) (p.erase x) (below_nodup _) (fun y hy => by
        by_cases hyx : y = x
        · rw [hyx]; exact hx2
        · exact (List.mem_erase_of_ne hyx).2 (hsub y hy))
      rw [List.length_erase_of_mem hx, below_len] at this
      have := List.length_pos_of_mem hx
      omega

/-- which numbers below n a list has -/
def seenL (l : List Int) (n : Nat) : List Bool := (List.range n).map fun (j : Nat) => decide ((j : Int) ∈ l)
theorem seenL_len (l : List Int) (n : Nat) : (seenL l n).length = n := by simp [seenL]
theorem seenL_nil (n : Nat) : seenL [] n = List.replicate n false := by
  unfold seenL
  apply List.ext_getElem (by simp)
  intro i h1 h2
  simp
theorem seenL_get {l : List Int} {n j : Nat} (h : j < n) : (seenL l n)[j]? = some (decide ((j : Int) ∈ l)) := by
  simp [seenL, h]
theorem seenL_set (l : List Int) (n : Nat) (x : Nat) (_ : x < n) : (seenL l n).set x true = seenL (l ++ [(x : Int)]) n := by
  apply List.ext_getElem?
  intro j
  rw [List.getElem?_set]
  by_cases hj : j < n
  · rw [seenL_get (l := l ++ [(x : Int)]) hj]
    by_cases hx : x = j
    · subst hx
      rw [if_pos rfl, if_pos (by rw [seenL_len]; exact hj)]
      simp
    · rw [if_neg hx, seenL_get hj]
      congr 1
      simp
      omega
  · simp [seenL, hj]
    omega

/-- the same as bits -/
def seenN (l : List Int) (n : Nat) : Nat := l.foldl (fun (a : Nat) (x : Int) => if 0 ≤ x ∧ x < n then a ||| 2 ^ x.toNat else a) 0
theorem seenN_snoc (l : List Int) (n : Nat) (x : Int) : seenN (l ++ [x]) n = if 0 ≤ x ∧ x < n then seenN l n ||| 2 ^ x.toNat else seenN l n := by
  unfold seenN; rw [List.foldl_append]; rfl
theorem snoc_ind {α : Type} {P : List α → Prop} (h0 : P []) (h1 : ∀ l x, P l → P (l ++ [x])) : ∀ l, P l := by
  intro l
  have : ∀ (m : List α), P m.reverse := by
    intro m
    induction m with
    | nil => exact h0
    | cons a t ih => rw [List.reverse_cons]; exact h1 _ _ ih
  simpa using this l.reverse
theorem seenN_bit (n : Nat) (j : Nat) (hj : j < n) : ∀ l : List Int, (seenN l n).testBit j = decide ((j : Int) ∈ l) := by
  refine snoc_ind (by simp [seenN]) ?_
  intro l x ih
  rw [seenN_snoc]
  split
  · rename_i h
    rw [Nat.testBit_or, ih, Nat.testBit_two_pow]
    by_cases hx : x.toNat = j
    · have : x = (j : Int) := by omega
      simp [this]
    · have : ¬ (j : Int) = x := by omega
      simp [hx, this]
  · rename_i h
    rw [ih]
    have : ¬ (j : Int) = x := by omega
    simp [this]
theorem seenN_lt (n : Nat) : ∀ l : List Int, seenN l n < 2 ^ n := by
  refine snoc_ind (by simp [seenN]; exact Nat.two_pow_pos n) ?_
  intro l x ih
  rw [seenN_snoc]
  split
  · rename_i h
    exact Nat.or_lt_two_pow ih (Nat.pow_lt_pow_of_lt (by omega) (by omega))
  · exact ih
theorem seenN_all (p : List Int) : seenN p p.length = 2 ^ p.length - 1 ↔ PermP p := by
  constructor
  · intro h
    refine permP_of_all fun j hj => ?_
    have h1 := seenN_bit p.length j hj p
    rw [h, Nat.testBit_two_pow_sub_one] at h1
    simpa [hj] using h1
  · intro h
    apply Nat.eq_of_testBit_eq
    intro j
    rw [Nat.testBit_two_pow_sub_one]
    by_cases hj : j < p.length
    · rw [seenN_bit p.length j hj p]
      simp [hj, h.all j hj]
    · have : seenN p p.length < 2 ^ j := Nat.lt_of_lt_of_le (seenN_lt _ _) (Nat.pow_le_pow_right (by decide) (by omega))
      rw [Nat.testBit_lt_two_pow this]
      simp [hj]

/-- whether a list is a permutation of a number of ports -/
theorem permP_take {p : List Int} (h : PermP p) (k : Nat) : (p.take k).Nodup := h.2.sublist (List.take_sublist _ _)

end Go.Proofs.Ytelnlmhelkcliaa

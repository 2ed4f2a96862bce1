/- Heat: the lists in their order, one after the other: plain. -/
import Derived.Test.YtnaoanmkepcinaaHLs
namespace Go.Proofs.Ytnaoanmkepcinaa

def nl (l : List Nat) : List Int := l.map fun (x : Nat) => (x : Int)
theorem nl_length (l : List Nat) : (nl l).length = l.length := by simp [nl]
def listsN : Nat → Nat → List (List Nat)
  | 0, _ => [[]]
  | n + 1, t => (List.range' 0 (t + 1)).flatMap fun f => (listsN n t).map fun l => f :: l
theorem listsP_nl : ∀ n t, listsP n t = (listsN n t).map nl
  | 0, _ => rfl
  | n + 1, t => by
    simp only [listsP, listsN, List.map_flatMap, List.map_map, listsP_nl n t, List.range_eq_range']
    rfl
/-- the lists behind l -/
def after (t : Nat) : List Nat → List (List Nat)
  | [] => []
  | x :: r => (after t r).map (fun l => x :: l) ++ (List.range' (x + 1) (t - x)).flatMap fun f => (listsN r.length t).map fun l => f :: l
def oNext (t : Nat) : List Nat → Option (List Nat)
  | [] => none
  | x :: r => match oNext t r with
    | some r' => some (x :: r')
    | none => if x < t then some ((x + 1) :: List.replicate r.length 0) else none
theorem oNext_length (t : Nat) : ∀ l l', oNext t l = some l' → l'.length = l.length
  | [], _, h => by simp [oNext] at h
  | x :: r, l', h => by
    unfold oNext at h
    cases hr : oNext t r with
    | some r' => rw [hr] at h; simp at h; subst h; simp [oNext_length t r r' hr]
    | none =>
      rw [hr] at h
      simp only at h
      split at h
      · simp at h; subst h; simp
      · simp at h
theorem listsN_zero : ∀ n t, listsN n t = List.replicate n 0 :: after t (List.replicate n 0)
  | 0, _ => rfl
  | n + 1, t => by
    simp only [listsN, List.replicate_succ, after, List.range'_succ, List.flatMap_cons, Nat.zero_add, Nat.sub_zero, List.length_replicate]
    rw [listsN_zero n t]
    simp
theorem after_next (t : Nat) : ∀ l, after t l = match oNext t l with | none => [] | some l' => l' :: after t l'
  | [] => rfl
  | x :: r => by
    have ih := after_next t r
    unfold oNext after
    cases hr : oNext t r with
    | some r' =>
      rw [hr] at ih
      simp only at ih ⊢
      rw [ih]
      simp [oNext_length t r r' hr]
    | none =>
      rw [hr] at ih
      simp only at ih ⊢
      rw [ih]
      by_cases hx : x < t
      · rw [if_pos hx]
        simp only [List.length_replicate]
        obtain ⟨d, hd⟩ : ∃ d, t - x = d + 1 := ⟨t - x - 1, by omega⟩
        rw [hd, List.range'_succ, List.flatMap_cons, show t - (x + 1) = d by omega]
        generalize (List.range' (x + 1 + 1) d).flatMap (fun f => (listsN r.length t).map fun l => f :: l) = R
        rw [listsN_zero r.length t]
        simp
      · rw [if_neg hx, show t - x = 0 by omega]
        simp
theorem oNext_last (t n : Nat) : oNext t (List.replicate n t) = none := by
  induction n with
  | zero => rfl
  | succ n ih => rw [List.replicate_succ]; unfold oNext; rw [ih]; simp
theorem oNext_at (t : Nat) (x : Nat) (hx : x < t) (j : Nat) : ∀ a, oNext t (a ++ x :: List.replicate j t) = some (a ++ (x + 1) :: List.replicate j 0)
  | [] => by
    rw [List.nil_append, List.nil_append]; unfold oNext; rw [oNext_last]; simp [hx]
  | y :: a => by
    rw [List.cons_append]; unfold oNext; rw [oNext_at t x hx j a]; simp

/-- a walk in order: what is left to be folded -/
theorem fold_next {β : Type} (f : β → List Nat → β) (t : Nat) (l : List Nat) (b : β) :
    (l :: after t l).foldl f b = match oNext t l with | none => f b l | some l' => (l' :: after t l').foldl f (f b l) := by
  rw [List.foldl_cons, after_next]
  cases oNext t l <;> rfl
theorem listsN_fold {β : Type} (f : β → List Int → β) (n t : Nat) (b : β) : (listsP n t).foldl f b = (List.replicate n 0 :: after t (List.replicate n 0)).foldl (fun b l => f b (nl l)) b := by
  rw [listsP_nl, List.foldl_map, listsN_zero]
/-- how many are left -/
def leftN (t : Nat) (l : List Nat) : Nat := (after t l).length
theorem leftN_next {t : Nat} {l l' : List Nat} (h : oNext t l = some l') : leftN t l = leftN t l' + 1 := by
  unfold leftN; rw [after_next t l, h]; simp
theorem after_mem (t : Nat) : ∀ l, (∀ x ∈ l, x ≤ t) → ∀ l', oNext t l = some l' → ∀ x ∈ l', x ≤ t
  | [], _, l', h => by simp [oNext] at h
  | x :: r, hb, l', h => by
    unfold oNext at h
    cases hr : oNext t r with
    | some r' =>
      rw [hr] at h
      simp at h
      subst h
      intro y hy
      rcases List.mem_cons.1 hy with rfl | hy
      · exact hb _ (List.mem_cons_self ..)
      · exact after_mem t r (fun z hz => hb z (List.mem_cons_of_mem _ hz)) r' hr y hy
    | none =>
      rw [hr] at h
      simp only at h
      split at h
      · simp at h
        subst h
        intro y hy
        rcases List.mem_cons.1 hy with rfl | hy
        · omega
        · have := List.eq_of_mem_replicate hy; omega
      · simp at h

end Go.Proofs.Ytnaoanmkepcinaa

/- Heat: what the law HeatMore says, plain. -/
import Derived.Test.YtnaoanmkepcinaaHCe
namespace Go.Proofs.Ytnaoanmkepcinaa

theorem listsP_of : ∀ (n t : Nat) (l : List Int), l.length = n → (∀ y ∈ l, 0 ≤ y ∧ y ≤ t) → l ∈ listsP n t
  | 0, _, l, h, _ => by rw [List.eq_nil_of_length_eq_zero h]; simp [listsP]
  | n + 1, t, l, h, hb => by
    match l, h with
    | y :: r, h =>
      have hy := hb y (List.mem_cons_self ..)
      have := listsP_cons (k := y.toNat) (by omega) (listsP_of n t r (by simpa using h) fun z hz => hb z (List.mem_cons_of_mem _ hz))
      rwa [show ((y.toNat : Nat) : Int) = y by omega] at this
theorem nearB_mono {m : List (List Int)} {want : List Int} {s s' : Int} {p : List Int} {k : Nat} (h : nearB m want s p k = true) (hs : s ≤ s') : nearB m want s' p k = true := by
  unfold nearB at h ⊢
  rw [List.all_eq_true] at h ⊢
  intro i hi
  have := h i hi
  simp only [decide_eq_true_eq] at this ⊢
  omega
theorem fold_best (m : List (List Int)) (want : List Int) (s : Int) : ∀ (L : List (List Int)) (b : Option (List Int)),
    (∀ q0, b = some q0 → ∃ q, L.foldl (chStep m want s) b = some q ∧ q.sum ≤ q0.sum) ∧ (∀ r ∈ L, nearB m want s r m.length = true → ∃ q, L.foldl (chStep m want s) b = some q ∧ q.sum ≤ r.sum) ∧
      (∀ q, L.foldl (chStep m want s) b = some q → b = some q ∨ (q ∈ L ∧ nearB m want s q m.length = true))
  | [], b => ⟨fun q0 h => ⟨q0, h, Int.le_refl _⟩, fun r hr => by simp at hr, fun q h => .inl h⟩
  | p :: L, b => by
    obtain ⟨i1, i2, i3⟩ := fold_best m want s L (chStep m want s b p)
    rw [List.foldl_cons]
    have hst : (chStep m want s b p = some p ∧ nearB m want s p m.length = true) ∨ (chStep m want s b p = b) := by
      unfold chStep
      split
      · rename_i h
        rw [Bool.and_eq_true] at h
        exact .inl ⟨rfl, h.2⟩
      · exact .inr rfl
    have hle : ∀ q0, b = some q0 → ∃ q1, chStep m want s b p = some q1 ∧ q1.sum ≤ q0.sum := fun q0 e => by
      subst e
      rw [show chStep m want s (some q0) p = (if (decide (p.sum < q0.sum) && nearB m want s p m.length) = true then some p else some q0) from rfl]
      split
      · rename_i h
        simp only [Bool.and_eq_true, decide_eq_true_eq] at h
        exact ⟨p, rfl, by omega⟩
      · exact ⟨q0, rfl, Int.le_refl _⟩
    have hne : nearB m want s p m.length = true → ∃ q1, chStep m want s b p = some q1 ∧ q1.sum ≤ p.sum := fun hn => by
      cases b with
      | none => exact ⟨p, by unfold chStep lessB; rw [hn]; rfl, Int.le_refl _⟩
      | some q0 =>
        rw [show chStep m want s (some q0) p = (if (decide (p.sum < q0.sum) && nearB m want s p m.length) = true then some p else some q0) from rfl, hn, Bool.and_true]
        split
        · exact ⟨p, rfl, Int.le_refl _⟩
        · rename_i h
          simp only [decide_eq_true_eq] at h
          exact ⟨q0, rfl, by omega⟩
    refine ⟨fun q0 e => ?_, fun r hr hn => ?_, fun q e => ?_⟩
    · obtain ⟨q1, h1, h2⟩ := hle q0 e
      obtain ⟨q, h3, h4⟩ := i1 q1 h1
      exact ⟨q, h3, by omega⟩
    · rcases List.mem_cons.1 hr with rfl | hr
      · obtain ⟨q1, h1, h2⟩ := hne hn
        obtain ⟨q, h3, h4⟩ := i1 q1 h1
        exact ⟨q, h3, by omega⟩
      · exact i2 r hr hn
    · rcases i3 q e with h | ⟨h1, h2⟩
      · rcases hst with ⟨h3, h4⟩ | h3
        · rw [h3] at h; cases h
          exact .inr ⟨List.mem_cons_self .., h4⟩
        · rw [h3] at h; exact .inl h
      · exact .inr ⟨List.mem_cons_of_mem _ h1, h2⟩
theorem chO_mono {m : List (List Int)} {want : List Int} {s s' : Int} {t t' : Nat} {p : List Int} (h : chO m want s t = some p) (hs : s ≤ s') (ht : t ≤ t') : ∃ q, chO m want s' t' = some q ∧ q.sum ≤ p.sum := by
  unfold chO at h ⊢
  rcases (fold_best m want s (listsP m.length t) none).2.2 p h with h1 | ⟨h1, h2⟩
  · simp at h1
  · obtain ⟨q1, q2⟩ := listsP_mem _ _ _ h1
    exact (fold_best m want s' (listsP m.length t') none).2.1 p (listsP_of _ _ _ q1 fun y hy => by have := q2 y hy; omega) (nearB_mono h2 hs)
theorem chO_mem {m : List (List Int)} {want : List Int} {s : Int} {t : Nat} {p : List Int} (h : chO m want s t = some p) : p ∈ listsP m.length t := by
  unfold chO at h
  rcases (fold_best m want s (listsP m.length t) none).2.2 p h with h1 | ⟨h1, _⟩
  · simp at h1
  · exact h1

theorem hs_zero (m : List (List Int)) (N i : Nat) : ∀ k, hs m (List.replicate N 0) i k = 0
  | 0 => rfl
  | k + 1 => by
    have : (List.replicate N (0 : Int)).getD k 0 = 0 := by
      rw [List.getD_eq_getElem?_getD, List.getElem?_replicate]
      split <;> rfl
    show hs m (List.replicate N 0) i k + at2 m i k * (List.replicate N (0 : Int)).getD k 0 = 0
    rw [hs_zero m N i k, this]; simp
theorem hs_set {pw : List Int} {k : Nat} {x : Int} (hx : pw[k]? = some x) (m : List (List Int)) (i : Nat) : ∀ K, hs m (pw.set k (x + 1)) i K = hs m pw i K + (if k < K then at2 m i k else 0)
  | 0 => by simp [hs, si]
  | K + 1 => by
    have hkl := (List.getElem?_eq_some_iff.1 hx).1
    show hs m (pw.set k (x + 1)) i K + at2 m i K * (pw.set k (x + 1)).getD K 0 = hs m pw i K + at2 m i K * pw.getD K 0 + _
    rw [hs_set hx m i K]
    by_cases e : K = k
    · subst e
      have h1 : (pw.set K (x + 1)).getD K 0 = x + 1 := by rw [List.getD_eq_getElem?_getD, List.getElem?_set_self hkl]; rfl
      have h2 : pw.getD K 0 = x := by rw [List.getD_eq_getElem?_getD, hx]; rfl
      rw [h1, h2, if_neg (by omega), if_pos (by omega), Int.mul_add]
      omega
    · have h1 : (pw.set k (x + 1)).getD K 0 = pw.getD K 0 := by rw [List.getD_eq_getElem?_getD, List.getD_eq_getElem?_getD, List.getElem?_set_ne (by omega)]
      rw [h1]
      by_cases e2 : k < K
      · rw [if_pos e2, if_pos (by omega)]; omega
      · rw [if_neg e2, if_neg (by omega)]; omega
theorem ph_step (b S g : Int) : (ph b (S + g) - ph b S - g).tmod 1000000 = 0 := by
  unfold ph
  apply Int.tmod_eq_zero_of_dvd
  omega
theorem ph_none (b : Int) : (ph b 0 - b).tmod 1000000 = 0 := by
  unfold ph
  apply Int.tmod_eq_zero_of_dvd
  omega

end Go.Proofs.Ytnaoanmkepcinaa

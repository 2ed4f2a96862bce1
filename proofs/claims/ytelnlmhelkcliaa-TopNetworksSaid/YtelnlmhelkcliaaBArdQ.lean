/- Benes: the settings that are found send the permutation. Plain. -/
import Derived.Test.YtelnlmhelkcliaaBArdP
import Derived.Test.YtelnlmhelkcliaaTrace
namespace Go.Proofs.Ytelnlmhelkcliaa
open Go.RowKit

theorem sd_congr1 {S T : List Bool} {i j s : Nat} (h : S.getD i false = T.getD j false) : sd S i s = sd T j s := by unfold sd; rw [h]
theorem tro_ext1 (k : Nat) : ∀ (S T : List Bool) (i b c : Nat), i < pw k → (∀ j, j < cnt k → S.getD (b + j) false = T.getD (c + j) false) → tro k S i b = tro k T i c := by
  induction k with
  | zero => intro S T i b c _ h; exact sd_congr1 (h 0 (by decide))
  | succ k ih =>
    intro S T i b c hi h
    have e1 : pw (k + 1) = 2 * pw k := rfl
    have e2 : cnt (k + 1) = pw (k + 1) + 2 * cnt k := rfl
    have hw : sd S (b + i / 2) (i % 2) = sd T (c + i / 2) (i % 2) := sd_congr1 (h _ (by omega))
    have hw1 := sd_lt T (c + i / 2) (i % 2) (by omega)
    simp only [tro]
    rw [hw]
    generalize sd T (c + i / 2) (i % 2) = way at *
    have hwc : way * cnt k ≤ cnt k := by
      have : way * cnt k ≤ 1 * cnt k := Nat.mul_le_mul_right _ hw1
      omega
    have ho : tro k S (i / 2) (b + pw (k + 1) + way * cnt k) = tro k T (i / 2) (c + pw (k + 1) + way * cnt k) := by
      refine ih _ _ _ _ _ (by omega) (fun j hj => ?_)
      have h9 := h (pw (k + 1) + way * cnt k + j) (by omega)
      rw [show b + pw (k + 1) + way * cnt k + j = b + (pw (k + 1) + way * cnt k + j) from by omega, show c + pw (k + 1) + way * cnt k + j = c + (pw (k + 1) + way * cnt k + j) from by omega]
      exact h9
    rw [ho]
    have hol := tro_lt k T (i / 2) (c + pw (k + 1) + way * cnt k) (by omega)
    generalize tro k T (i / 2) (c + pw (k + 1) + way * cnt k) = o at *
    congr 1
    rw [Nat.add_assoc, Nat.add_assoc c]
    exact sd_congr1 (h _ (by omega))

/-- Where the mirror's settings come from. -/
theorem gd_left {A B : List Bool} {j : Nat} (h : j < A.length) : (A ++ B).getD j false = A.getD j false := by
  rw [List.getD_eq_getElem?_getD, List.getD_eq_getElem?_getD, List.getElem?_append_left h]
theorem gd_right {A B : List Bool} {j : Nat} (h : A.length ≤ j) : (A ++ B).getD j false = B.getD (j - A.length) false := by
  rw [List.getD_eq_getElem?_getD, List.getD_eq_getElem?_getD, List.getElem?_append_right h]
theorem four_get {F L a b : List Bool} {m c : Nat} (hF : F.length = m) (hL : L.length = m) (ha : a.length = c) :
    (∀ j, j < m → (F ++ (L ++ (a ++ b))).getD j false = F.getD j false) ∧ (∀ j, j < m → (F ++ (L ++ (a ++ b))).getD (m + j) false = L.getD j false) ∧
    (∀ j, j < c → (F ++ (L ++ (a ++ b))).getD (2 * m + j) false = a.getD j false) ∧ ∀ j, (F ++ (L ++ (a ++ b))).getD (2 * m + c + j) false = b.getD j false := by
  refine ⟨fun j hj => ?_, fun j hj => ?_, fun j hj => ?_, fun j => ?_⟩
  · rw [gd_left (by omega)]
  · rw [gd_right (by omega), gd_left (by omega), show m + j - F.length = j by omega]
  · rw [gd_right (by omega), gd_right (by omega), gd_left (by omega), show 2 * m + j - F.length - L.length = j by omega]
  · rw [gd_right (by omega), gd_right (by omega), gd_right (by omega), show 2 * m + c + j - F.length - L.length - a.length = j by omega]
/-- a switch that is met -/
theorem sd_bit (S : List Bool) (j : Nat) (t : Bool) : sd S j t.toNat = (t ^^ S.getD j false).toNat := by
  unfold sd
  cases t <;> cases S.getD j false <;> rfl
theorem odd_nat (k : Nat) : k % 2 = (oddB k).toNat := by
  rcases even_or (x := k) with ⟨h1, h2⟩ | ⟨h1, h2⟩ <;> rw [h1] <;> simp [Bool.toNat] <;> omega
/-- light leaves where it should -/
theorem last_bit {p : List Int} {m : Nat} (hP : PermN m (piL p) (rhoL p)) {s : Nat → Bool} (hc : Cons m (piL p) (rhoL p) s) {i : Nat} (hi : i < 2 * m) :
    (sideB s i ^^ sideB s (rhoL p (2 * (piL p i / 2)))) = oddB (piL p i) := by
  have hpi := hP.lt i hi
  rcases even_or (x := piL p i) with ⟨h1, h2⟩ | ⟨h1, h2⟩
  · rw [← h2, hP.i1 i hi, h1]; simp
  · have hm : rhoL p (2 * (piL p i / 2)) = mate (piL p) (rhoL p) i := by
      unfold mate flip1
      rw [if_neg (by omega)]
      congr 1
      omega
    rw [hm, hc i hi, h1]
    cases sideB s i <;> rfl
theorem half_at {p : List Int} {m : Nat} {s : Nat → Bool} {i : Nat} (hi : i < 2 * m) : (sideB s i = false → piL (upL p s m) (i / 2) = piL p i / 2) ∧ (sideB s i = true → piL (lowL p s m) (i / 2) = piL p i / 2) := by
  have hj : i / 2 < m := by omega
  constructor
  · intro h
    have h1 := (side_at (s := s) (c := false) (k := i) (j := i / 2)).2 ⟨rfl, h⟩
    rw [Bool.xor_false] at h1
    show ((upL p s m).getD (i / 2) 0).toNat = _
    unfold upL
    rw [List.getD_eq_getElem?_getD, List.getElem?_map, List.getElem?_range hj]
    simp only [Option.map_some, Option.getD_some, Int.toNat_natCast]
    rw [h1]
  · intro h
    have h1 := (side_at (s := s) (c := true) (k := i) (j := i / 2)).2 ⟨rfl, h⟩
    rw [Bool.xor_true] at h1
    show ((lowL p s m).getD (i / 2) 0).toNat = _
    unfold lowL
    rw [List.getD_eq_getElem?_getD, List.getElem?_map, List.getElem?_range hj]
    simp only [Option.map_some, Option.getD_some, Int.toNat_natCast]
    rw [h1]
theorem around_ok : ∀ (h : Nat) (p : List Int) (st : Nat → Int) (l : List Bool), PermP p → p.length = pw h → aroundR h p st = some l → l.length = cnt h ∧ (∀ i, i < pw h → tro h l i 0 = piL p i) ∧ ∀ i, i < cnt h → mayB (st i) (l.getD i false) = true
  | 0, p, st, l, hp, hl, he => by
    unfold aroundR at he
    split at he
    · rename_i hm
      cases he
      have hP := permN_of (m := 1) hp (by rw [hl]; rfl)
      have e0 := piL_eq hp (k := 0) (by rw [hl]; decide)
      have l0 := hP.lt 0 (by decide)
      have l1 := hP.lt 1 (by decide)
      have hne : piL p 0 ≠ piL p 1 := fun e => by
        have := piL_inj hp (by rw [hl]; decide) (by rw [hl]; decide) e
        omega
      refine ⟨rfl, fun i hi => ?_, fun i hi => ?_⟩
      · have : pw 0 = 2 := rfl
        rw [e0.1]
        unfold tro sd
        rcases (by omega : piL p 0 = 0 ∨ piL p 0 = 1) with hz | hz <;> rcases (by omega : i = 0 ∨ i = 1) with rfl | rfl <;> rw [hz] <;> simp <;> omega
      · obtain rfl : i = 0 := by have : cnt 0 = 1 := rfl; omega
        exact hm
    · cases he
  | h + 1, p, st, l, hp, hl, he => by
    have hl2 : p.length = 2 * pw h := hl
    have hw : pw (h + 1) = 2 * pw h := rfl
    have hc : cnt (h + 1) = pw (h + 1) + 2 * cnt h := rfl
    have hP := permN_of (m := pw h) hp hl2
    have hT : Ties (pw h) (piL p) (rhoL p) (pw h) (tiesL p (pw h)) := ties_ok hP (pw h) (Nat.le_refl _)
    unfold aroundR at he
    obtain ⟨way, hway, hf⟩ := List.exists_of_findSome?_eq_some he
    have hop := out_perm1 hp hl2 way
    have hcons := out_cons hP hT way
    have hlast := fun j (hj : j < pw h) => out_last hP hT way hj
    have hok : okT (tiesL p (pw h)) st (pw h) way = true := by unfold outL at hway; exact (List.mem_filter.1 hway).2
    change Cons (pw h) (piL p) (rhoL p) (oF p (pw h) way) at hcons
    obtain ⟨s, hs⟩ : ∃ s, oF p (pw h) way = s := ⟨_, rfl⟩
    have hs' : (outF (tiesL p (pw h)) way (tiesL p (pw h)).length).1 = s := hs
    unfold okT at hok
    rw [List.all_eq_true] at hok
    rw [hs'] at hlast hf hok
    obtain ⟨L, hL⟩ : ∃ L, (outF (tiesL p (pw h)) way (tiesL p (pw h)).length).2 = L := ⟨_, rfl⟩
    rw [hL] at hlast hf hok
    rw [hs] at hf hop hcons
    cases hA : aroundR h (upL p s (pw h)) (fun i => st (pw (h + 1) + i)) with
    | none => rw [hA] at hf; cases hf
    | some a =>
      cases hB : aroundR h (lowL p s (pw h)) (fun i => st (pw (h + 1) + cnt h + i)) with
      | none => rw [hA, hB] at hf; cases hf
      | some b =>
        rw [hA, hB] at hf
        cases hf
        obtain ⟨a1, a2, a3⟩ := around_ok h _ _ a hop.1 (upL_len _ _ _) hA
        obtain ⟨b1, b2, b3⟩ := around_ok h _ _ b hop.2 (lowL_len _ _ _) hB
        obtain ⟨f1, f2, f3, f4⟩ := four_get (F := rowB (pw h) s) (L := rowB (pw h) L) (a := a) (b := b) (rowB_len _ _) (rowB_len _ _) a1
        refine ⟨by simp [rowB_len, a1, b1]; omega, fun i hi => ?_, fun i hi => ?_⟩
        · have hi2 : i < 2 * pw h := by omega
          have hih : i / 2 < pw h := by omega
          have hpi := hP.lt i hi2
          obtain ⟨S, hS⟩ : ∃ S, rowB (pw h) s ++ (rowB (pw h) L ++ (a ++ b)) = S := ⟨_, rfl⟩
          rw [hS] at f1 f2 f3 f4 ⊢
          have hsd : sd S (0 + i / 2) (i % 2) = (sideB s i).toNat := by
            rw [odd_nat i, sd_bit, Nat.zero_add, f1 _ hih, rowB_get _ _ hih]
            rfl
          have ho : tro h S (i / 2) (0 + pw (h + 1) + (sideB s i).toNat * cnt h) = piL p i / 2 := by
            cases hb : sideB s i with
            | false =>
              rw [tro_ext1 h S a (i / 2) _ 0 hih (fun j hj => by
                rw [show 0 + pw (h + 1) + Bool.toNat false * cnt h + j = 2 * pw h + j by simp [Bool.toNat]; omega, Nat.zero_add]; exact f3 j hj), a2 _ hih]
              exact (half_at hi2).1 hb
            | true =>
              rw [tro_ext1 h S b (i / 2) _ 0 hih (fun j _ => by
                rw [show 0 + pw (h + 1) + Bool.toNat true * cnt h + j = 2 * pw h + cnt h + j by simp [Bool.toNat]; omega, Nat.zero_add]; exact f4 j), b2 _ hih]
              exact (half_at hi2).2 hb
          have hol : piL p i / 2 < pw h := by omega
          unfold tro
          rw [hsd, ho, Nat.zero_add, sd_bit, f2 _ hol, rowB_get _ _ hol, hlast _ hol, last_bit hP hcons hi2, ← odd_nat]
          omega
        · rcases (by omega : i < pw h ∨ (pw h ≤ i ∧ i < pw (h + 1)) ∨ (pw (h + 1) ≤ i ∧ i < pw (h + 1) + cnt h) ∨ (pw (h + 1) + cnt h ≤ i)) with hi1 | ⟨hi1, hi2⟩ | ⟨hi1, hi2⟩ | hi1
          · have := hok i (List.mem_range.2 hi1)
            rw [Bool.and_eq_true] at this
            rw [f1 i hi1, rowB_get _ _ hi1]; exact this.1
          · have := hok (i - pw h) (List.mem_range.2 (by omega))
            rw [Bool.and_eq_true] at this
            have hq := f2 (i - pw h) (by omega)
            rw [rowB_get _ _ (by omega), show pw h + (i - pw h) = i by omega] at hq
            rw [hq]
            have := this.2
            rwa [show pw h + (i - pw h) = i by omega] at this
          · have hq := f3 (i - pw (h + 1)) (by omega)
            rw [← hw, show pw (h + 1) + (i - pw (h + 1)) = i by omega] at hq
            have := a3 (i - pw (h + 1)) (by omega)
            rw [show pw (h + 1) + (i - pw (h + 1)) = i by omega] at this
            rw [hq]; exact this
          · have hq := f4 (i - (pw (h + 1) + cnt h))
            rw [← hw, show pw (h + 1) + cnt h + (i - (pw (h + 1) + cnt h)) = i by omega] at hq
            have := b3 (i - (pw (h + 1) + cnt h)) (by omega)
            rw [show pw (h + 1) + cnt h + (i - (pw (h + 1) + cnt h)) = i by omega] at this
            rw [hq]; exact this
end Go.Proofs.Ytelnlmhelkcliaa

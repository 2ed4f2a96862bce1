/- Layout: the heap's list stays a heap, and the popped place is a least one: plain. -/
import Derived.Test.YtpakkjkjppibnaaGHeap
namespace Go.Proofs.Ytpakkjkjppibnaa

def kf (l : List Pl) (i : Nat) : Int := (l.getD i plD).2.2
theorem lessP_iff (l : List Pl) (i j : Nat) : lessP l i j = decide (kf l i < kf l j) := rfl
theorem swapP_get {l : List Pl} {i j : Nat} (hi : i < l.length) (hj : j < l.length) (k : Nat) :
    (swapP l i j).getD k plD = if k = j then l.getD i plD else if k = i then l.getD j plD else l.getD k plD := by
  unfold swapP
  simp only [List.getD_eq_getElem?_getD, List.getElem?_set, List.length_set]
  by_cases h1 : k = j
  · subst h1; simp [hj]
  · have h1' : ¬ j = k := fun e => h1 e.symm
    rw [if_neg h1', if_neg h1]
    by_cases h2 : k = i
    · subst h2; simp [hi]
    · have h2' : ¬ i = k := fun e => h2 e.symm
      rw [if_neg h2', if_neg h2]
theorem swapP_kf {l : List Pl} {i j : Nat} (hi : i < l.length) (hj : j < l.length) (k : Nat) :
    kf (swapP l i j) k = if k = j then kf l i else if k = i then kf l j else kf l k := by
  unfold kf
  rw [swapP_get hi hj]
  split
  · rfl
  · split <;> rfl

/-- every place but c is not less than its parent's -/
def HeapBut (l : List Pl) (n j : Nat) : Prop :=
  (∀ i, 0 < i → i < n → i ≠ j → kf l ((i - 1) / 2) ≤ kf l i) ∧ (0 < j → ∀ i, 0 < i → i < n → (i - 1) / 2 = j → kf l ((j - 1) / 2) ≤ kf l i)
def HeapTo (l : List Pl) (n : Nat) : Prop := ∀ i, 0 < i → i < n → kf l ((i - 1) / 2) ≤ kf l i

theorem up_heap : ∀ (f : Nat) (l : List Pl) (j n : Nat), j < f → j < n → n = l.length → HeapBut l n j → HeapTo (upP f l j) n
  | 0, _, _, _, h, _, _, _ => by omega
  | f + 1, l, j, n, hf, hj, hn, ⟨h1, h2⟩ => by
    unfold upP
    split
    · next h0 => subst h0; exact fun i a b => h1 i a b (by omega)
    · next h0 =>
      have hp : (j - 1) / 2 < j := by omega
      rw [lessP_iff]
      split
      · next hl =>
        have hl : kf l j < kf l ((j - 1) / 2) := by simpa using hl
        obtain ⟨p, hpe⟩ : ∃ p, (j - 1) / 2 = p := ⟨_, rfl⟩
        rw [hpe] at hp hl ⊢
        have hpl : p < l.length := by omega
        have hjl : j < l.length := by omega
        refine up_heap f _ p n (by omega) (by omega) (by rw [swapP_len]; exact hn) ⟨fun i a b c => ?_, fun a i b c d => ?_⟩
        · rw [swapP_kf hpl hjl, swapP_kf hpl hjl]
          by_cases e1 : i = j
          · subst e1
            rw [hpe, if_pos rfl, if_neg (by omega), if_pos rfl]
            omega
          · rw [if_neg e1, if_neg c]
            by_cases e2 : (i - 1) / 2 = j
            · rw [if_pos e2]
              have := h2 (by omega) i a b e2
              rwa [hpe] at this
            · rw [if_neg e2]
              have h3 := h1 i a b e1
              by_cases e3 : (i - 1) / 2 = p
              · rw [if_pos e3]; rw [e3] at h3; omega
              · rw [if_neg e3]; exact h3
        · rw [swapP_kf hpl hjl, swapP_kf hpl hjl, if_neg (by omega), if_neg (by omega)]
          have h3 := h1 p a (by omega) (by omega)
          by_cases e1 : i = j
          · subst e1; rw [if_pos rfl]; exact h3
          · rw [if_neg e1, if_neg (by omega)]
            have h4 := h1 i b c e1
            rw [d] at h4
            omega
      · next hl =>
        have hl : ¬ kf l j < kf l ((j - 1) / 2) := by simpa using hl
        intro i a b
        by_cases e : i = j
        · subst e; omega
        · exact h1 i a b e

def HeapSub (l : List Pl) (n j : Nat) : Prop :=
  (∀ i, 0 < i → i < n → (i - 1) / 2 ≠ j → kf l ((i - 1) / 2) ≤ kf l i) ∧ (0 < j → ∀ i, 0 < i → i < n → (i - 1) / 2 = j → kf l ((j - 1) / 2) ≤ kf l i)

theorem kid_par {l : List Pl} {i n : Nat} (_h : ¬ n ≤ 2 * i + 1) : (kid l i n - 1) / 2 = i ∧ 0 < kid l i n := by
  unfold kid; split <;> omega
theorem kid_min {l : List Pl} {i n c : Nat} (h0 : 0 < c) (hc : c < n) (hp : (c - 1) / 2 = i) : kf l (kid l i n) ≤ kf l c := by
  unfold kid
  by_cases h : 2 * i + 2 < n ∧ lessP l (2 * i + 2) (2 * i + 1) = true
  · rw [if_pos h]
    have := h.2
    rw [lessP_iff] at this
    have h' : kf l (2 * i + 2) < kf l (2 * i + 1) := by simpa using this
    rcases (by omega : c = 2 * i + 1 ∨ c = 2 * i + 2) with rfl | rfl <;> omega
  · rw [if_neg h]
    rcases (by omega : c = 2 * i + 1 ∨ c = 2 * i + 2) with rfl | rfl
    · omega
    · have h' : ¬ kf l (2 * i + 2) < kf l (2 * i + 1) := by
        intro hh; exact h ⟨hc, by rw [lessP_iff]; simpa using hh⟩
      omega

theorem down_heap : ∀ (f : Nat) (l : List Pl) (i n : Nat), n < i + f → i < n → n ≤ l.length → HeapSub l n i → HeapTo (downP f l i n) n
  | 0, _, _, _, _, h, _, _ => by omega
  | f + 1, l, i, n, hf, hi, hn, ⟨h1, h2⟩ => by
    unfold downP
    split
    · next h0 => exact fun c a b => h1 c a b (by omega)
    · next h0 =>
      have hk := kid_lt (l := l) h0
      have hkp := kid_par (l := l) h0
      have hkm : ∀ c, 0 < c → c < n → (c - 1) / 2 = i → kf l (kid l i n) ≤ kf l c := fun c a b d => kid_min a b d
      obtain ⟨m, hm⟩ : ∃ m, kid l i n = m := ⟨_, rfl⟩
      rw [hm] at hk hkp hkm ⊢
      rw [lessP_iff]
      have hil : i < l.length := by omega
      have hml : m < l.length := by omega
      split
      · next hl =>
        have hl : kf l m < kf l i := by simpa using hl
        refine down_heap f _ m n (by omega) hk.2 (by rw [swapP_len]; exact hn) ⟨fun c a b d => ?_, fun a c b d e => ?_⟩
        · rw [swapP_kf hil hml, swapP_kf hil hml, if_neg d]
          by_cases e1 : (c - 1) / 2 = i
          · rw [if_pos e1]
            by_cases e2 : c = m
            · rw [if_pos e2]; omega
            · rw [if_neg e2, if_neg (by omega)]
              exact hkm c a b e1
          · rw [if_neg e1]
            have e2 : c ≠ m := by intro e; subst e; exact e1 hkp.1
            rw [if_neg e2]
            have h3 := h1 c a b e1
            by_cases e3 : c = i
            · subst e3
              rw [if_pos rfl]
              exact h2 a m hkp.2 hk.2 hkp.1
            · rw [if_neg e3]; exact h3
        · rw [swapP_kf hil hml, swapP_kf hil hml, hkp.1, if_neg (by omega), if_pos rfl, if_neg (by omega), if_neg (by omega)]
          have := h1 c b d (by omega)
          rwa [e] at this
      · next hl =>
        have hl : ¬ kf l m < kf l i := by simpa using hl
        intro c a b
        by_cases e : (c - 1) / 2 = i
        · have := hkm c a b e; rw [e]; omega
        · exact h1 c a b e

theorem heap_root {l : List Pl} {n : Nat} (h : HeapTo l n) : ∀ (f i : Nat), i < f → i < n → kf l 0 ≤ kf l i
  | 0, _, a, _ => by omega
  | f + 1, i, a, b => by
    rcases Nat.eq_zero_or_pos i with rfl | h0
    · exact Int.le_refl _
    · exact Int.le_trans (heap_root h f ((i - 1) / 2) (by omega) (by omega)) (h i h0 b)

theorem getD_mem {l : List Pl} {i : Nat} (h : i < l.length) : l.getD i plD ∈ l := by
  rw [List.getD_eq_getElem?_getD, List.getElem?_eq_getElem h]; exact List.getElem_mem h
theorem mem_getD {l : List Pl} {y : Pl} (h : y ∈ l) : ∃ i, i < l.length ∧ l.getD i plD = y := by
  obtain ⟨i, hi, rfl⟩ := List.getElem_of_mem h
  exact ⟨i, hi, by rw [List.getD_eq_getElem?_getD, List.getElem?_eq_getElem hi]; rfl⟩
theorem swapP_mem {l : List Pl} {i j : Nat} (hi : i < l.length) (hj : j < l.length) (y : Pl) : y ∈ swapP l i j ↔ y ∈ l := by
  constructor
  · intro h
    obtain ⟨k, hk, rfl⟩ := mem_getD h
    rw [swapP_len] at hk
    rw [swapP_get hi hj]
    split
    · exact getD_mem hi
    · split
      · exact getD_mem hj
      · exact getD_mem hk
  · intro h
    obtain ⟨k, hk, rfl⟩ := mem_getD h
    by_cases e1 : k = i
    · subst e1
      have := getD_mem (l := swapP l k j) (i := j) (by rw [swapP_len]; exact hj)
      rwa [swapP_get hi hj, if_pos rfl] at this
    · by_cases e2 : k = j
      · subst e2
        have := getD_mem (l := swapP l i k) (i := i) (by rw [swapP_len]; exact hi)
        rw [swapP_get hi hj] at this
        split at this
        · next e => exact absurd e.symm e1
        · rwa [if_pos rfl] at this
      · have := getD_mem (l := swapP l i j) (i := k) (by rw [swapP_len]; exact hk)
        rwa [swapP_get hi hj, if_neg e2, if_neg e1] at this
theorem upP_mem (y : Pl) : ∀ (f : Nat) (l : List Pl) (j : Nat), j < l.length → (y ∈ upP f l j ↔ y ∈ l)
  | 0, _, _, _ => by simp [upP]
  | f + 1, l, j, hj => by
    unfold upP
    split
    · exact Iff.rfl
    · split
      · rw [upP_mem y f _ _ (by rw [swapP_len]; omega), swapP_mem (by omega) hj]
      · exact Iff.rfl
theorem downP_mem (y : Pl) : ∀ (f : Nat) (l : List Pl) (i n : Nat), i < n → n ≤ l.length → (y ∈ downP f l i n ↔ y ∈ l)
  | 0, _, _, _, _, _ => by simp [downP]
  | f + 1, l, i, n, hi, hn => by
    unfold downP
    split
    · exact Iff.rfl
    · next h0 =>
      have hk := kid_lt (l := l) h0
      split
      · rw [downP_mem y f _ _ _ hk.2 (by rw [swapP_len]; exact hn), swapP_mem (by omega) (by omega)]
      · exact Iff.rfl
theorem downP_far (k : Nat) : ∀ (f : Nat) (l : List Pl) (i n : Nat), i < n → n ≤ l.length → n ≤ k → (downP f l i n).getD k plD = l.getD k plD
  | 0, _, _, _, _, _, _ => by simp [downP]
  | f + 1, l, i, n, hi, hn, hk => by
    unfold downP
    split
    · rfl
    · next h0 =>
      have hkd := kid_lt (l := l) h0
      split
      · rw [downP_far k f _ _ _ hkd.2 (by rw [swapP_len]; exact hn) hk, swapP_get (by omega) (by omega), if_neg (by omega), if_neg (by omega)]
      · rfl

/-! ### push and pop -/
theorem push_mem (l : List Pl) (x y : Pl) : y ∈ pushP l x ↔ y = x ∨ y ∈ l := by
  unfold pushP
  rw [upP_mem y _ _ _ (by simp)]
  simp [or_comm]
theorem append_kf {l : List Pl} {x : Pl} {i : Nat} (h : i < l.length) : kf (l ++ [x]) i = kf l i := by
  unfold kf; rw [List.getD_eq_getElem?_getD, List.getD_eq_getElem?_getD, List.getElem?_append_left h]
theorem push_heap {l : List Pl} (x : Pl) (h : HeapTo l l.length) : HeapTo (pushP l x) (pushP l x).length := by
  rw [pushP_len]
  unfold pushP
  refine up_heap _ _ _ _ (by omega) (by omega) (by simp) ⟨fun i a b c => ?_, fun a i b c d => by omega⟩
  rw [append_kf (by omega), append_kf (by omega)]
  exact h i a (by omega)
theorem popL_mem {l : List Pl} (h : 0 < l.length) (y : Pl) : y ∈ popL l ↔ y ∈ l := by
  unfold popL
  by_cases h1 : l.length = 1
  · rw [h1]
    have : downP 1 (swapP l 0 (1 - 1)) 0 (1 - 1) = swapP l 0 0 := by unfold downP; rw [if_pos (by omega)]
    rw [this, swapP_mem h h]
  · rw [downP_mem y _ _ _ _ (by omega) (by rw [swapP_len]; omega), swapP_mem h (by omega)]
theorem popX_eq {l : List Pl} (h : 0 < l.length) : popX l = l.getD 0 plD := by
  unfold popX popL
  by_cases h1 : l.length = 1
  · rw [h1]
    have : downP 1 (swapP l 0 (1 - 1)) 0 (1 - 1) = swapP l 0 0 := by unfold downP; rw [if_pos (by omega)]
    rw [this, swapP_get h h]
    simp
  · rw [downP_far _ _ _ _ _ (by omega) (by rw [swapP_len]; omega) (Nat.le_refl _), swapP_get h (by omega), if_pos rfl]
theorem pop_mem {l : List Pl} (h : 0 < l.length) (y : Pl) : y ∈ l ↔ y = popX l ∨ y ∈ popR l := by
  rw [← popL_mem h y]
  have hl := popL_len l
  have e : popL l = popR l ++ [popX l] := by
    unfold popR
    have h2 : (popL l).drop (l.length - 1) = [popX l] := by
      have hlt : l.length - 1 < (popL l).length := by omega
      rw [List.drop_eq_getElem_cons hlt, List.drop_eq_nil_of_le (by omega)]
      unfold popX
      rw [List.getD_eq_getElem?_getD, List.getElem?_eq_getElem hlt]
      rfl
    rw [← h2, List.take_append_drop]
  rw [e]
  simp [or_comm]
theorem pop_min {l : List Pl} (h : 0 < l.length) (hh : HeapTo l l.length) (y : Pl) (hy : y ∈ l) : (popX l).2.2 ≤ y.2.2 := by
  obtain ⟨i, hi, rfl⟩ := mem_getD hy
  rw [popX_eq h]
  exact heap_root hh (i + 1) i (by omega) hi
theorem pop_heap {l : List Pl} (h : 0 < l.length) (hh : HeapTo l l.length) : HeapTo (popR l) (popR l).length := by
  rw [popR_len]
  have hp : HeapTo (popL l) (l.length - 1) := by
    unfold popL
    by_cases h1 : l.length = 1
    · rw [h1]; intro i a b; omega
    · refine down_heap _ _ _ _ (by omega) (by omega) (by rw [swapP_len]; omega) ⟨fun i a b c => ?_, fun a => by omega⟩
      rw [swapP_kf h (by omega), swapP_kf h (by omega), if_neg (by omega), if_neg (by omega), if_neg (by omega), if_neg (by omega)]
      exact hh i a (by omega)
  intro i a b
  have e : ∀ k, k < l.length - 1 → kf (popR l) k = kf (popL l) k := by
    intro k hk
    unfold kf popR
    rw [List.getD_eq_getElem?_getD, List.getD_eq_getElem?_getD, List.getElem?_take, if_pos hk]
  rw [e _ (by omega), e _ b]
  exact hp i a b
end Go.Proofs.Ytpakkjkjppibnaa

/- Plain facts on mirrors: a mirror undoes itself, and sends all light back. -/
import Derived.Test.YtelnlmhelkcliaaMirror
import Derived.Test.YtelnlmhelkcliaaPermPlain
namespace Go.Proofs.Ytelnlmhelkcliaa

theorem getD_app_l {α : Type} (l m : List α) (j : Nat) (d : α) (h : j < l.length) : (l ++ m).getD j d = l.getD j d := by
  simp only [List.getD, List.getElem?_append_left h]
theorem getD_app_r {α : Type} (l m : List α) (j : Nat) (d : α) (h : l.length ≤ j) : (l ++ m).getD j d = m.getD (j - l.length) d := by
  simp only [List.getD, List.getElem?_append_right h]
theorem getD_seg {α : Type} (S : List α) (b n j : Nat) (d : α) (h : j < n) : (seg S b n).getD j d = S.getD (b + j) d := by
  unfold seg
  simp only [List.getD, List.getElem?_take, if_pos h, List.getElem?_drop]

theorem sd_congr {S T : List Bool} {i j s : Nat} (h : S.getD i false = T.getD j false) : sd S i s = sd T j s := by unfold sd; rw [h]
theorem sd_sd (S : List Bool) (i s : Nat) (h : s ≤ 1) : sd S i (sd S i s) = s := by unfold sd; split <;> omega

theorem tro_ext (k : Nat) : ∀ (S T : List Bool) (i b c : Nat), i < pw k → (∀ j, j < cnt k → S.getD (b + j) false = T.getD (c + j) false) → tro k S i b = tro k T i c := by
  induction k with
  | zero => intro S T i b c _ h; exact sd_congr (h 0 (by decide))
  | succ k ih =>
    intro S T i b c hi h
    have e1 : pw (k + 1) = 2 * pw k := rfl
    have e2 : cnt (k + 1) = pw (k + 1) + 2 * cnt k := rfl
    have hw : sd S (b + i / 2) (i % 2) = sd T (c + i / 2) (i % 2) := sd_congr (h _ (by omega))
    have hw1 := sd_lt T (c + i / 2) (i % 2) (by omega)
    simp only [tro]
    rw [hw]
    generalize sd T (c + i / 2) (i % 2) = way at *
    have hwc : way * cnt k ≤ cnt k := by
      have : way * cnt k ≤ 1 * cnt k := Nat.mul_le_mul_right _ hw1
      omega
    have ho : tro k S (i / 2) (b + pw (k + 1) + way * cnt k) = tro k T (i / 2) (c + pw (k + 1) + way * cnt k) := by
      refine ih _ _ _ _ _ (by omega) (fun j hj => ?_)
      have h9 := h (pw (k + 1) + way * cnt k + j) (by omega)
      rw [show b + pw (k + 1) + way * cnt k + j = b + (pw (k + 1) + way * cnt k + j) from by omega, show c + pw (k + 1) + way * cnt k + j = c + (pw (k + 1) + way * cnt k + j) from by omega]
      exact h9
    rw [ho]
    have hol := tro_lt k T (i / 2) (c + pw (k + 1) + way * cnt k) (by omega)
    generalize tro k T (i / 2) (c + pw (k + 1) + way * cnt k) = o at *
    congr 1
    rw [Nat.add_assoc, Nat.add_assoc c]
    exact sd_congr (h _ (by omega))

/-- Where the mirror's settings come from. -/
theorem mir_get (k : Nat) (T : List Bool) (hT : T.length = cnt (k + 1)) :
    (∀ j, j < pw k → (mir (k + 1) T).getD j false = T.getD (pw k + j) false) ∧ (∀ j, j < pw k → (mir (k + 1) T).getD (pw k + j) false = T.getD j false) ∧
    (∀ j, j < cnt k → (mir (k + 1) T).getD (pw (k + 1) + j) false = (mir k (seg T (pw (k + 1)) (cnt k))).getD j false) ∧
    (∀ j, j < cnt k → (mir (k + 1) T).getD (pw (k + 1) + cnt k + j) false = (mir k (seg T (pw (k + 1) + cnt k) (cnt k))).getD j false) := by
  have e1 : pw (k + 1) = 2 * pw k := rfl
  have e2 : cnt (k + 1) = pw (k + 1) + 2 * cnt k := rfl
  have l1 : (seg T (pw k) (pw k)).length = pw k := seg_len _ _ _ (by omega)
  have l2 : (seg T 0 (pw k)).length = pw k := seg_len _ _ _ (by omega)
  have l3 : (mir k (seg T (pw (k + 1)) (cnt k))).length = cnt k := mir_len _ _ (seg_len _ _ _ (by omega))
  refine ⟨fun j hj => ?_, fun j hj => ?_, fun j hj => ?_, fun j hj => ?_⟩
  · simp only [mir]
    rw [getD_app_l _ _ _ _ (by omega), getD_seg _ _ _ _ _ hj]
  · simp only [mir]
    rw [getD_app_r _ _ _ _ (by omega), l1, getD_app_l _ _ _ _ (by omega), getD_seg _ _ _ _ _ (by omega)]
    congr 1; omega
  · simp only [mir]
    rw [getD_app_r _ _ _ _ (by omega), l1, getD_app_r _ _ _ _ (by omega), l2, getD_app_l _ _ _ _ (by omega)]
    congr 1; omega
  · simp only [mir]
    rw [getD_app_r _ _ _ _ (by omega), l1, getD_app_r _ _ _ _ (by omega), l2, getD_app_r _ _ _ _ (by omega), l3]
    congr 1; omega

/-- The mirror sends all light back. -/
theorem mir_back (k : Nat) : ∀ (T : List Bool) (i : Nat), T.length = cnt k → i < pw k → tro k (mir k T) (tro k T i 0) 0 = i := by
  induction k with
  | zero => intro T i _ hi; simp only [tro, mir]; exact sd_sd _ _ _ (by simp only [pw] at hi; omega)
  | succ k ih =>
    intro T i hT hi
    have e1 : pw (k + 1) = 2 * pw k := rfl
    have e2 : cnt (k + 1) = pw (k + 1) + 2 * cnt k := rfl
    obtain ⟨m1, m2, m3, m4⟩ := mir_get k T hT
    have hw1 := sd_lt T (0 + i / 2) (i % 2) (by omega)
    have hsw := sd_sd T (0 + i / 2) (i % 2) (by omega)
    obtain ⟨way, hway⟩ : ∃ way, way = sd T (0 + i / 2) (i % 2) := ⟨_, rfl⟩
    obtain ⟨o, ho⟩ : ∃ o, o = tro k T (i / 2) (0 + pw (k + 1) + way * cnt k) := ⟨_, rfl⟩
    have hol : o < pw k := by rw [ho]; exact tro_lt _ _ _ _ (by omega)
    have hout : tro (k + 1) T i 0 = 2 * o + sd T (0 + pw k + o) way := by simp only [tro]; rw [← hway, ← ho]
    rw [← hway] at hw1 hsw
    have hs2 := sd_lt T (0 + pw k + o) way hw1
    have hss := sd_sd T (0 + pw k + o) way hw1
    rw [hout]
    generalize sd T (0 + pw k + o) way = s2 at *
    have q1 : (2 * o + s2) / 2 = o := by omega
    have q2 : (2 * o + s2) % 2 = s2 := by omega
    simp only [tro]
    rw [q1, q2]
    have hw' : sd (mir (k + 1) T) (0 + o) s2 = way := by
      rw [← hss]
      refine sd_congr ?_
      rw [Nat.zero_add, Nat.zero_add]
      exact m1 o hol
    rw [hw']
    have hback : tro k (mir (k + 1) T) o (0 + pw (k + 1) + way * cnt k) = i / 2 := by
      have hc : way = 0 ∨ way = 1 := by omega
      have key : ∀ U : List Bool, U.length = cnt k → (∀ j, j < cnt k → (mir (k + 1) T).getD (0 + pw (k + 1) + way * cnt k + j) false = (mir k U).getD (0 + j) false) →
          (∀ j, j < cnt k → T.getD (0 + pw (k + 1) + way * cnt k + j) false = U.getD (0 + j) false) → tro k (mir (k + 1) T) o (0 + pw (k + 1) + way * cnt k) = i / 2 := by
        intro U hU h1 h2
        rw [tro_ext k (mir (k + 1) T) (mir k U) o _ 0 hol h1, ho, tro_ext k T U (i / 2) _ 0 (by omega) h2]
        exact ih U (i / 2) hU (by omega)
      rcases hc with h | h
      · subst h
        refine key (seg T (pw (k + 1)) (cnt k)) (seg_len _ _ _ (by omega)) (fun j hj => ?_) (fun j hj => ?_)
        · rw [Nat.zero_mul, Nat.zero_add, Nat.add_zero, Nat.zero_add]; exact m3 j hj
        · rw [Nat.zero_mul, Nat.zero_add, Nat.add_zero, Nat.zero_add, getD_seg _ _ _ _ _ hj]
      · subst h
        refine key (seg T (pw (k + 1) + cnt k) (cnt k)) (seg_len _ _ _ (by omega)) (fun j hj => ?_) (fun j hj => ?_)
        · rw [Nat.one_mul, Nat.zero_add, Nat.zero_add]; exact m4 j hj
        · rw [Nat.one_mul, Nat.zero_add, Nat.zero_add, getD_seg _ _ _ _ _ hj]
    rw [hback]
    have hend : sd (mir (k + 1) T) (0 + pw k + i / 2) way = i % 2 := by
      rw [← hsw]
      have : sd (mir (k + 1) T) (0 + pw k + i / 2) way = sd T (0 + i / 2) way := sd_congr (by
        rw [Nat.zero_add, Nat.zero_add]
        exact m2 _ (by omega))
      rw [this]
    rw [hend]
    omega

/-- A mirror undoes itself. -/
theorem mir_mir {α : Type} (k : Nat) : ∀ (T : List α), T.length = cnt k → mir k (mir k T) = T := by
  induction k with
  | zero => intro T _; rfl
  | succ k ih =>
    intro T hT
    have e1 : pw (k + 1) = 2 * pw k := rfl
    have e2 : cnt (k + 1) = pw (k + 1) + 2 * cnt k := rfl
    have l1 : (seg T (pw k) (pw k)).length = pw k := seg_len _ _ _ (by omega)
    have l2 : (seg T 0 (pw k)).length = pw k := seg_len _ _ _ (by omega)
    have lu : (seg T (pw (k + 1)) (cnt k)).length = cnt k := seg_len _ _ _ (by omega)
    have ll : (seg T (pw (k + 1) + cnt k) (cnt k)).length = cnt k := seg_len _ _ _ (by omega)
    have l3 := mir_len k _ lu
    have l4 := mir_len k _ ll
    have key : ∀ (A B C D : List α), A.length = pw k → B.length = pw k → C.length = cnt k → D.length = cnt k →
        seg (A ++ (B ++ (C ++ D))) (pw k) (pw k) = B ∧ seg (A ++ (B ++ (C ++ D))) 0 (pw k) = A ∧ seg (A ++ (B ++ (C ++ D))) (pw (k + 1)) (cnt k) = C ∧ seg (A ++ (B ++ (C ++ D))) (pw (k + 1) + cnt k) (cnt k) = D := by
      intro A B C D a b c d
      have hn : pw (k + 1) = A.length + B.length := by omega
      refine ⟨?_, ?_, ?_, ?_⟩
      · unfold seg; rw [← a, List.drop_left, a, ← b, List.take_left]
      · unfold seg; rw [List.drop_zero, ← a, List.take_left]
      · unfold seg; rw [hn, ← List.append_assoc, ← List.length_append, List.drop_left, ← c, List.take_left]
      · unfold seg
        rw [hn, ← c, ← List.append_assoc, ← List.append_assoc, ← List.length_append, ← List.length_append, List.drop_left, List.take_of_length_le (by omega)]
    have hTs : T = seg T 0 (pw k) ++ (seg T (pw k) (pw k) ++ (seg T (pw (k + 1)) (cnt k) ++ seg T (pw (k + 1) + cnt k) (cnt k))) := by
      have s1 : seg T (pw (k + 1) + cnt k) (cnt k) = T.drop (pw (k + 1) + cnt k) := (seg_end _ _ _ (by omega)).symm
      rw [s1]
      unfold seg
      have d1 : (T.drop (pw (k + 1))).take (cnt k) ++ T.drop (pw (k + 1) + cnt k) = T.drop (pw (k + 1)) := by
        rw [← List.drop_drop, List.take_append_drop]
      have d2 : (T.drop (pw k)).take (pw k) ++ T.drop (pw (k + 1)) = T.drop (pw k) := by
        rw [show pw (k + 1) = pw k + pw k from by omega, ← List.drop_drop, List.take_append_drop]
      rw [d1, d2, List.drop_zero, List.take_append_drop]
    obtain ⟨k1, k2, k3, k4⟩ := key (seg T (pw k) (pw k)) (seg T 0 (pw k)) (mir k (seg T (pw (k + 1)) (cnt k))) (mir k (seg T (pw (k + 1) + cnt k) (cnt k))) l1 l2 l3 l4
    rw [mir, show mir (k + 1) T = seg T (pw k) (pw k) ++ (seg T 0 (pw k) ++ (mir k (seg T (pw (k + 1)) (cnt k)) ++ mir k (seg T (pw (k + 1) + cnt k) (cnt k)))) from rfl, k1, k2, k3, k4, ih _ lu, ih _ ll]
    exact hTs.symm

/-- What settings make is a permutation. -/
theorem thr_perm (k : Nat) (T : List Bool) (hT : T.length = cnt k) : PermP (thr k T (pw k)) := by
  refine ⟨fun x hx => ?_, ?_⟩
  · rw [thr_len]
    unfold thr at hx
    obtain ⟨i, hi, rfl⟩ := List.mem_map.1 hx
    have := tro_lt k T i 0 (List.mem_range.1 hi)
    omega
  · unfold thr
    refine List.Pairwise.map _ (R := fun a b => a ≠ b ∧ a < pw k ∧ b < pw k) (fun a b h e => h.1 ?_) ?_
    · have ha := mir_back k T a hT h.2.1
      have hb := mir_back k T b hT h.2.2
      have e' : tro k T a 0 = tro k T b 0 := by omega
      rw [← ha, ← hb, e']
    · have h1 : (List.range (pw k)).Pairwise (fun a b => a ≠ b) := List.nodup_range
      refine h1.imp_of_mem (fun ha hb h => ⟨h, List.mem_range.1 ha, List.mem_range.1 hb⟩)
theorem thr_get (k : Nat) (T : List Bool) (m i : Nat) (h : i < m) : (thr k T m)[i]? = some ((tro k T i 0 : Nat) : Int) := by
  unfold thr
  rw [List.getElem?_map, List.getElem?_range h]; rfl

end Go.Proofs.Ytelnlmhelkcliaa

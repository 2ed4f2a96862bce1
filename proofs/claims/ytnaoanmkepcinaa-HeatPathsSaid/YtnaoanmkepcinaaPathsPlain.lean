/- Plain: where the changes lead, and the sums on the way. -/
import Derived.Test.YtnaoanmkepcinaaHStep4
namespace Go.Proofs.Ytnaoanmkepcinaa

/-- changes made -/
def mk (l : List Int) (s : List (Int × Int)) : List Int := s.foldl (fun l s => l.set s.1.toNat s.2) l
theorem mk_append (l : List Int) (s t : List (Int × Int)) : mk l (s ++ t) = mk (mk l s) t := by unfold mk; rw [List.foldl_append]
theorem mk_len (l : List Int) (s : List (Int × Int)) : (mk l s).length = l.length := by
  unfold mk
  induction s generalizing l with
  | nil => rfl
  | cons a s ih => rw [List.foldl_cons, ih, List.length_set]
theorem mk_not {s : List (Int × Int)} {j : Nat} : ∀ {l : List Int}, (∀ x ∈ s, x.1.toNat ≠ j) → (mk l s)[j]? = l[j]? := by
  induction s with
  | nil => intro l _; rfl
  | cons x s ih =>
    intro l h
    show (mk (l.set x.1.toNat x.2) s)[j]? = _
    rw [ih fun y hy => h y (by simp [hy]), List.getElem?_set_ne (h x (by simp))]
theorem mk_mem {s : List (Int × Int)} : ∀ {l : List Int} {x : Int × Int}, (s.map fun x => x.1.toNat).Nodup → x ∈ s → x.1.toNat < l.length → (mk l s)[x.1.toNat]? = some x.2 := by
  induction s with
  | nil => intro l x _ h; simp at h
  | cons y s ih =>
    intro l x hn hx hl
    rw [List.map_cons, List.nodup_cons] at hn
    show (mk (l.set y.1.toNat y.2) s)[x.1.toNat]? = _
    rcases List.mem_cons.1 hx with rfl | hx
    · rw [mk_not fun z hz e => hn.1 (List.mem_map.2 ⟨z, hz, e⟩), List.getElem?_set_self hl]
    · exact ih hn.2 hx (by rw [List.length_set]; exact hl)
theorem set_sum {l : List Int} : ∀ {i : Nat} {x : Int} (y : Int), l[i]? = some x → (l.set i y).sum = l.sum - x + y := by
  induction l with
  | nil => intro i x y h; simp at h
  | cons a l ih =>
    intro i x y h
    match i, h with
    | 0, h => simp at h; subst h; rw [List.set_cons_zero, List.sum_cons, List.sum_cons]; omega
    | i + 1, h =>
      simp at h
      rw [List.set_cons_succ, List.sum_cons, List.sum_cons, ih y h]; omega
theorem mk_down {s : List (Int × Int)} : ∀ {l : List Int}, (s.map fun x => x.1.toNat).Nodup → (∀ x ∈ s, ∃ z, l[x.1.toNat]? = some z ∧ x.2 ≤ z) → (mk l s).sum ≤ l.sum := by
  induction s with
  | nil => intro l _ _; exact Int.le_refl _
  | cons y s ih =>
    intro l hn h
    rw [List.map_cons, List.nodup_cons] at hn
    obtain ⟨z, hz, hle⟩ := h y (by simp)
    have h1 := ih (l := l.set y.1.toNat y.2) hn.2 fun x hx => by
      obtain ⟨u, hu, hul⟩ := h x (by simp [hx])
      exact ⟨u, by rw [List.getElem?_set_ne (fun e => hn.1 (List.mem_map.2 ⟨x, hx, e.symm⟩)), hu], hul⟩
    rw [set_sum y.2 hz] at h1
    show (mk (l.set y.1.toNat y.2) s).sum ≤ _
    omega
theorem mk_up {s : List (Int × Int)} : ∀ {l : List Int}, (s.map fun x => x.1.toNat).Nodup → (∀ x ∈ s, ∃ z, l[x.1.toNat]? = some z ∧ z ≤ x.2) → l.sum ≤ (mk l s).sum := by
  induction s with
  | nil => intro l _ _; exact Int.le_refl _
  | cons y s ih =>
    intro l hn h
    rw [List.map_cons, List.nodup_cons] at hn
    obtain ⟨z, hz, hle⟩ := h y (by simp)
    have h1 := ih (l := l.set y.1.toNat y.2) hn.2 fun x hx => by
      obtain ⟨u, hu, hul⟩ := h x (by simp [hx])
      exact ⟨u, by rw [List.getElem?_set_ne (fun e => hn.1 (List.mem_map.2 ⟨x, hx, e.symm⟩)), hu], hul⟩
    rw [set_sum y.2 hz] at h1
    show _ ≤ (mk (l.set y.1.toNat y.2) s).sum
    omega

theorem mem_sel {p : Int → Int → Bool} {a b : List Int} {k : Nat} {x : Int × Int} : x ∈ sel p a b k ↔ ∃ j, j < k ∧ p (a.getD j 0) (b.getD j 0) = true ∧ x = ((j : Int), b.getD j 0) := by
  unfold sel
  rw [List.mem_filterMap]
  constructor
  · rintro ⟨j, hj, h⟩
    split at h
    · exact ⟨j, List.mem_range.1 hj, by assumption, (Option.some.inj h).symm⟩
    · cases h
  · rintro ⟨j, hj, h, rfl⟩
    exact ⟨j, List.mem_range.2 hj, by rw [if_pos h]⟩
theorem sel_nodup (p : Int → Int → Bool) (a b : List Int) (k : Nat) : ((sel p a b k).map fun x => x.1.toNat).Nodup := by
  induction k with
  | zero => simp [sel]
  | succ k ih =>
    rw [sel_succ, List.map_append, List.nodup_append]
    refine ⟨ih, by split <;> simp, fun x hx y hy => ?_⟩
    obtain ⟨u, hu, rfl⟩ := List.mem_map.1 hx
    obtain ⟨j, hj, _, rfl⟩ := mem_sel.1 hu
    split at hy
    · simp at hy; subst hy; simp; omega
    · simp at hy
theorem pre_nodup (a b : List Int) (n : Nat) : ((sel lt2 a b n ++ sel gt2 a b n).map fun x => x.1.toNat).Nodup := by
  rw [List.map_append, List.nodup_append]
  refine ⟨sel_nodup _ _ _ _, sel_nodup _ _ _ _, fun x hx y hy => ?_⟩
  obtain ⟨u, hu, rfl⟩ := List.mem_map.1 hx
  obtain ⟨v, hv, rfl⟩ := List.mem_map.1 hy
  have := sel_apart a b n u hu v hv
  obtain ⟨i, _, _, rfl⟩ := mem_sel.1 hu
  obtain ⟨j, _, _, rfl⟩ := mem_sel.1 hv
  simp at this ⊢
  omega
theorem getD_some {l : List Int} {j : Nat} (h : j < l.length) : l[j]? = some (l.getD j 0) := by
  rw [List.getD_eq_getElem?_getD, List.getElem?_eq_getElem h]; rfl
/-- the changes lead there -/
theorem mk_to {a b : List Int} (h : a.length = b.length) : mk a (sel lt2 a b a.length ++ sel gt2 a b a.length) = b := by
  apply List.ext_getElem?
  intro j
  by_cases hj : j < a.length
  · have ha := getD_some hj
    have hb := getD_some (l := b) (j := j) (by omega)
    by_cases h1 : b.getD j 0 < a.getD j 0
    · have := mk_mem (l := a) (x := ((j : Int), b.getD j 0)) (pre_nodup a b a.length) (List.mem_append_left _ (mem_sel.2 ⟨j, hj, decide_eq_true h1, rfl⟩)) (by simpa using hj)
      simp only [Int.toNat_natCast] at this
      rw [this, hb]
    · by_cases h2 : a.getD j 0 < b.getD j 0
      · have := mk_mem (l := a) (x := ((j : Int), b.getD j 0)) (pre_nodup a b a.length) (List.mem_append_right _ (mem_sel.2 ⟨j, hj, decide_eq_true h2, rfl⟩)) (by simpa using hj)
        simp only [Int.toNat_natCast] at this
        rw [this, hb]
      · rw [mk_not, ha, hb, show a.getD j 0 = b.getD j 0 by omega]
        intro x hx e
        rcases List.mem_append.1 hx with hx | hx
        · obtain ⟨i, _, h3, rfl⟩ := mem_sel.1 hx
          simp at e
          subst e
          exact h1 (of_decide_eq_true h3)
        · obtain ⟨i, _, h3, rfl⟩ := mem_sel.1 hx
          simp at e
          subst e
          exact h2 (of_decide_eq_true h3)
  · rw [List.getElem?_eq_none (by rw [mk_len]; omega), List.getElem?_eq_none (by omega)]
/-- no sum on the way is greater -/
theorem mk_way {a b : List Int} (h : a.length = b.length) (m : Nat) : (mk a ((sel lt2 a b a.length ++ sel gt2 a b a.length).take m)).sum ≤ max a.sum b.sum := by
  by_cases hm : m ≤ (sel lt2 a b a.length).length
  · rw [List.take_append_of_le_length hm]
    have := mk_down (s := (sel lt2 a b a.length).take m) (l := a) ?_ ?_
    · omega
    · rw [List.map_take]
      exact List.Sublist.nodup (List.take_sublist _ _) (sel_nodup _ _ _ _)
    · intro x hx
      obtain ⟨j, hj, h3, rfl⟩ := mem_sel.1 (List.mem_of_mem_take hx)
      have h4 : b.getD j 0 < a.getD j 0 := of_decide_eq_true h3
      exact ⟨a.getD j 0, by simpa using getD_some hj, by show b.getD j 0 ≤ _; omega⟩
  · have e : (sel lt2 a b a.length ++ sel gt2 a b a.length).take m = sel lt2 a b a.length ++ (sel gt2 a b a.length).take (m - (sel lt2 a b a.length).length) := by
      rw [List.take_append, List.take_of_length_le (by omega)]
    obtain ⟨q, hq⟩ : ∃ q, q = m - (sel lt2 a b a.length).length := ⟨_, rfl⟩
    rw [e, ← hq, mk_append]
    have hb : mk (mk (mk a (sel lt2 a b a.length)) ((sel gt2 a b a.length).take q)) ((sel gt2 a b a.length).drop q) = b := by
      rw [← mk_append, ← mk_append, List.take_append_drop]
      exact mk_to h
    have hnd : (((sel gt2 a b a.length).take q ++ (sel gt2 a b a.length).drop q).map fun x => x.1.toNat).Nodup := by
      rw [List.take_append_drop]; exact sel_nodup _ _ _ _
    rw [List.map_append, List.nodup_append] at hnd
    have := mk_up (s := (sel gt2 a b a.length).drop q) (l := mk (mk a (sel lt2 a b a.length)) ((sel gt2 a b a.length).take q)) hnd.2.1 ?_
    · rw [hb] at this
      omega
    · intro x hx
      have hx2 := hx
      obtain ⟨j, hj, h3, rfl⟩ := mem_sel.1 (List.mem_of_mem_drop hx)
      have h4 : a.getD j 0 < b.getD j 0 := of_decide_eq_true h3
      refine ⟨a.getD j 0, ?_, by show _ ≤ b.getD j 0; omega⟩
      rw [mk_not fun y hy e => hnd.2.2 _ (List.mem_map.2 ⟨y, hy, rfl⟩) _ (List.mem_map.2 ⟨_, hx2, rfl⟩) e, mk_not fun y hy e => ?_]
      · simpa using getD_some hj
      · have h5 := sel_apart a b a.length y hy _ (List.mem_of_mem_drop hx2)
        obtain ⟨i, _, _, rfl⟩ := mem_sel.1 hy
        simp at e h5
        omega

theorem nw_mk (l : List Int) (st : List (Int × Int)) (k : Nat) : nw l st k = mk l (st.take k) := rfl
theorem pk_le {l : List Int} {st : List (Int × Int)} {M : Int} (h : ∀ m, (nw l st m).sum ≤ M) : ∀ m, pk l st m ≤ M
  | 0 => h 0
  | m + 1 => by
    have h1 := pk_le h m
    have h2 := h (m + 1)
    show max _ _ ≤ _
    omega
theorem pk_ge (l : List Int) (st : List (Int × Int)) : ∀ m, l.sum ≤ pk l st m ∧ (nw l st m).sum ≤ pk l st m
  | 0 => ⟨Int.le_refl _, Int.le_refl _⟩
  | m + 1 => by
    have h1 := pk_ge l st m
    constructor
    · show _ ≤ max _ _
      omega
    · show _ ≤ max _ _
      omega
/-- the whole way -/
theorem paths {a b : List Int} (h1 : drv a = true) (h2 : drv b = true) (h : a.length = b.length) :
    nw a (pre a b 2) (pre a b 2).length = b ∧ pk a (pre a b 2) (pre a b 2).length = max a.sum b.sum ∧ (∀ x ∈ pre a b 2, okS a.length x = true) ∧ (pre a b 2).length ≤ 10 := by
  obtain ⟨d1, d2, d3⟩ := drv_bd h1
  obtain ⟨e1, e2, e3⟩ := drv_bd h2
  have ep : pre a b 2 = sel lt2 a b a.length ++ sel gt2 a b a.length := rfl
  have hn : nw a (pre a b 2) (pre a b 2).length = b := by rw [nw_mk, List.take_length, ep]; exact mk_to h
  refine ⟨hn, ?_, fun x hx => ?_, ?_⟩
  · have g1 := pk_le (l := a) (st := pre a b 2) (M := max a.sum b.sum) (fun m => by rw [nw_mk, ep]; exact mk_way h m) (pre a b 2).length
    have g2 := pk_ge a (pre a b 2) (pre a b 2).length
    rw [hn] at g2
    omega
  · have : ∃ j, j < a.length ∧ x = ((j : Int), b.getD j 0) := by
      rw [ep] at hx
      rcases List.mem_append.1 hx with hx | hx
      · obtain ⟨j, hj, _, rfl⟩ := mem_sel.1 hx; exact ⟨j, hj, rfl⟩
      · obtain ⟨j, hj, _, rfl⟩ := mem_sel.1 hx; exact ⟨j, hj, rfl⟩
    obtain ⟨j, hj, rfl⟩ := this
    have hb := e3 _ (List.mem_of_getElem? (getD_some (l := b) (j := j) (by omega)))
    unfold okS
    rw [Bool.and_eq_true, inB_iff, inB_iff]
    simp only
    omega
  · rw [ep, List.length_append]
    have := sel_len lt2 a b a.length
    have := sel_len gt2 a b a.length
    omega

end Go.Proofs.Ytnaoanmkepcinaa

/- Layout: the parity law, plain: what the visits of two paths say of their crossings.
   Layout: checked: the first error of a grid and its paths.
   Layout: crossings, its plain side: what is known of the loop over the visits. -/
import Derived.Test.YtpakkjkjppibnaaGVis2
import Derived.Test.YtpakkjkjppibnaaGLongP
namespace Go.Proofs.Ytpakkjkjppibnaa

/-- a crossing: its cell, the two paths -/
abbrev Cx := Int × Int × Int × Int
def encX (c : Cx) : List Value := [.int .i64 c.1, .int .i64 c.2.1, .int .i64 c.2.2.1, .int .i64 c.2.2.2]
/-- a count: two paths, how often they cross -/
abbrev Ar3 := Int × Int × Int
def encA (c : Ar3) : List Value := [.int .i64 c.1, .int .i64 c.2.1, .int .i64 c.2.2]
/-- the visits of a cell that forbid paths to go together -/
def badV : List Vis → Bool
  | [] => false
  | [_] => false
  | [x, y] => !x.2.2 || !y.2.2 || decide ((x.2.1 + y.2.1).tmod 2 = 0)
  | _ => true

theorem visL_at {n : Nat} {D : List Int} {p : List Ce} (hn : p.Nodup) (G : Ce → List Vis) (c : Ce) : ∀ k, k ≤ p.length →
    visL n D p G k c = G c ++ (if c ∈ p.take k then [visOf n D (p.idxOf c)] else [])
  | 0, _ => by simp [visL]
  | k + 1, hk => by
    have ih := visL_at (n := n) (D := D) hn G c k (by omega)
    have hk' : k < p.length := by omega
    have e : p.getD k (0, 0) = p[k] := by rw [List.getD_eq_getElem?_getD, List.getElem?_eq_getElem hk']; rfl
    have ht : p.take (k + 1) = p.take k ++ [p[k]] := by rw [List.take_add_one, List.getElem?_eq_getElem hk']; rfl
    show updG (visL n D p G k) (p.getD k (0, 0)) (visOf n D k) c = _
    rw [e, ht]
    unfold updG
    by_cases h : c = p[k]
    · subst h
      have h1 : p[k] ∉ p.take k := fun hm => by
        obtain ⟨j, hj, ej⟩ := List.mem_take_iff_getElem.1 hm
        exact List.pairwise_iff_getElem.1 hn j k (by omega) hk' (by omega) ej
      have h2 : p[k] ∈ p.take k ++ [p[k]] := List.mem_append_right _ (List.mem_singleton.2 rfl)
      rw [if_pos rfl, ih, if_neg h1, if_pos h2, List.append_nil, hn.idxOf_getElem k hk']
    · rw [if_neg h, ih]
      have h3 : c ∈ p.take k ++ [p[k]] ↔ c ∈ p.take k := by rw [List.mem_append, List.mem_singleton]; exact ⟨fun hh => hh.resolve_right h, .inl⟩
      by_cases h4 : c ∈ p.take k
      · rw [if_pos h4, if_pos (h3.2 h4)]
      · rw [if_neg h4, if_neg (fun hh => h4 (h3.1 hh))]

theorem visA_two {p q : List Ce} (hp : p.Nodup) (hq : q.Nodup) (c : Ce) : visA [p, q] 2 c =
    (if c ∈ p then [visOf 0 (dirsR p).1 (p.idxOf c)] else []) ++ (if c ∈ q then [visOf 1 (dirsR q).1 (q.idxOf c)] else []) := by
  show visL 1 (dirsR q).1 q (visL 0 (dirsR p).1 p (fun _ => []) p.length) q.length c = _
  rw [visL_at hq _ c _ (Nat.le_refl _), visL_at hp _ c _ (Nat.le_refl _), List.take_length, List.take_length]
  rfl

/-- what a cell of a path is, if the path goes straight through it -/
theorem vis_straight {n : Nat} {p : List Ce} (hp : adjL p = true) {c : Ce} (hc : c ∈ p) (hs : (visOf n (dirsR p).1 (p.idxOf c)).2.2 = true) :
    ∃ a u v b d, p = a ++ u :: c :: v :: b ∧ d < 4 ∧ c = besideP u d ∧ v = besideP c d ∧ (visOf n (dirsR p).1 (p.idxOf c)).2.1 = (d : Int) := by
  have hD : (dirsR p).1 = (dirsL p).map Int.ofNat := by unfold dirsR; rw [if_pos hp]
  rw [hD] at hs ⊢
  have hl := dirsL_len p
  have hlt := List.idxOf_lt_length_of_mem hc
  have hgc : p[p.idxOf c] = c := List.getElem_idxOf hlt
  generalize p.idxOf c = i at *
  unfold visOf at hs ⊢
  by_cases h : 0 < i ∧ i < ((dirsL p).map Int.ofNat).length
  · rw [if_pos h] at hs ⊢
    obtain ⟨h1, h2⟩ := h
    rw [List.length_map, hl] at h2
    dsimp only at hs ⊢
    have g1 : ∀ j, j + 1 < p.length → ((dirsL p).map Int.ofNat).getD j 0 = (towD (p.getD j (0, 0)) (p.getD (j + 1) (0, 0)) : Int) := fun j hj => by
      rw [← dirsL_get p j hj, List.getD_eq_getElem?_getD, List.getElem?_map, List.getElem?_eq_getElem (by omega), List.getD_eq_getElem?_getD, List.getElem?_eq_getElem (by omega)]
      rfl
    obtain ⟨j, rfl⟩ : ∃ j, i = j + 1 := ⟨i - 1, by omega⟩
    rw [Nat.add_sub_cancel, g1 j (by omega), g1 (j + 1) (by omega)] at hs
    rw [g1 (j + 1) (by omega)]
    have a1 := (adjL_iff p).1 hp j (by omega)
    have a2 := (adjL_iff p).1 hp (j + 1) (by omega)
    have f1 : p.getD j (0, 0) = p[j] := by rw [List.getD_eq_getElem?_getD, List.getElem?_eq_getElem (by omega)]; rfl
    have f2 : p.getD (j + 1) (0, 0) = c := by rw [List.getD_eq_getElem?_getD, List.getElem?_eq_getElem (by omega)]; exact hgc
    have f3 : p.getD (j + 1 + 1) (0, 0) = p[j + 1 + 1] := by rw [List.getD_eq_getElem?_getD, List.getElem?_eq_getElem (by omega)]; rfl
    have hs' : (towD (p.getD (j + 1) (0, 0)) (p.getD (j + 1 + 1) (0, 0)) : Int) = (towD (p.getD j (0, 0)) (p.getD (j + 1) (0, 0)) : Int) := by simpa using hs
    have hs2 : towD (p.getD (j + 1) (0, 0)) (p.getD (j + 1 + 1) (0, 0)) = towD (p.getD j (0, 0)) (p.getD (j + 1) (0, 0)) := by exact_mod_cast hs'
    rw [f2, f1] at a1
    rw [f2, f3] at a2
    rw [f1, f2, f3] at hs2
    refine ⟨p.take j, p[j], p[j + 1 + 1], p.drop (j + 3), towD c p[j + 1 + 1], ?_, towD_lt _ _, ?_, adj_iff.1 a2, by rw [f2, f3]⟩
    · conv => lhs; rw [← List.take_append_drop j p, List.drop_eq_getElem_cons (by omega), List.drop_eq_getElem_cons (by omega : j + 1 < p.length), List.drop_eq_getElem_cons (by omega : j + 1 + 1 < p.length), hgc]
    · rw [hs2]; exact adj_iff.1 a1
  · rw [if_neg h] at hs
    cases hs

theorem dir_facts (u : Ce) {d : Nat} (h : d < 4) : AdjC u (besideP u d) ∧ (u.1 = (besideP u d).1 ↔ d % 2 = 1) ∧ (u.2 = (besideP u d).2 ↔ d % 2 = 0) ∧ strC u (besideP u d) (besideP (besideP u d) d) := by
  obtain ⟨x, y⟩ := u
  rcases four_d h with rfl | rfl | rfl | rfl <;> simp [besideP, AdjC, strC] <;> omega

theorem split_one {c : Ce} : ∀ (l1 l2 m1 m2 : List Ce), l1 ++ c :: l2 = m1 ++ c :: m2 → (l1 ++ c :: l2).Nodup → l1 = m1 ∧ l2 = m2
  | [], l2, [], m2, h, _ => ⟨rfl, by simpa using h⟩
  | [], l2, y :: m1, m2, h, hn => by
    simp at h
    obtain ⟨rfl, rfl⟩ := h
    simp at hn
  | x :: l1, l2, [], m2, h, hn => by
    simp at h
    obtain ⟨rfl, rfl⟩ := h
    simp at hn
  | x :: l1, l2, y :: m1, m2, h, hn => by
    simp only [List.cons_append, List.cons.injEq] at h
    obtain ⟨rfl, h⟩ := h
    rw [List.cons_append, List.nodup_cons] at hn
    obtain ⟨rfl, rfl⟩ := split_one l1 l2 m1 m2 h hn.2
    exact ⟨rfl, rfl⟩

theorem meet_both {op : Ce → Bool} {p q : List Ce} (hp : Path op p) (hq : Path op q) (hb : ∀ c, badV (visA [p, q] 2 c) = false) {c : Ce} (h1 : c ∈ p) (h2 : c ∈ q) :
    ∃ a u v b d a' u' v' b' d', p = a ++ u :: c :: v :: b ∧ d < 4 ∧ c = besideP u d ∧ v = besideP c d ∧ q = a' ++ u' :: c :: v' :: b' ∧ d' < 4 ∧ c = besideP u' d' ∧ v' = besideP c d' ∧ (d + d') % 2 = 1 := by
  have h := hb c
  rw [visA_two hp.nd hq.nd, if_pos h1, if_pos h2] at h
  simp only [List.cons_append, List.nil_append, badV, Bool.or_eq_false_iff, Bool.not_eq_false', decide_eq_false_iff_not] at h
  obtain ⟨⟨s1, s2⟩, s3⟩ := h
  obtain ⟨a, u, v, b, d, e1, e2, e3, e4, e5⟩ := vis_straight hp.adj h1 s1
  obtain ⟨a', u', v', b', d', f1, f2, f3, f4, f5⟩ := vis_straight hq.adj h2 s2
  refine ⟨a, u, v, b, d, a', u', v', b', d', e1, e2, e3, e4, f1, f2, f3, f4, ?_⟩
  rw [e5, f5] at s3
  have : ((d : Int) + d').tmod 2 = (((d + d') % 2 : Nat) : Int) := by
    rw [Int.tmod_eq_emod_of_nonneg (by omega)]; omega
  rw [this] at s3
  omega

theorem meet_ends {op : Ce → Bool} {p q : List Ce} (hp : Path op p) (hq : Path op q) (hb : ∀ c, badV (visA [p, q] 2 c) = false) {c : Ce} (h1 : c ∈ p) (h2 : c ∈ q) :
    (∀ x r, p = x :: r → c ≠ x) ∧ (∀ x r, q = x :: r → c ≠ x) ∧ (∀ h : p ≠ [], c ≠ p.getLast h) ∧ (∀ h : q ≠ [], c ≠ q.getLast h) := by
  obtain ⟨a, u, v, b, d, a', u', v', b', d', e1, _, _, _, f1, _, _, _, _⟩ := meet_both hp hq hb h1 h2
  have np := hp.nd
  have nq := hq.nd
  have key : ∀ (l a b : List Ce) (u v : Ce), l = a ++ u :: c :: v :: b → l.Nodup → (∀ x r, l = x :: r → c ≠ x) ∧ (∀ h : l ≠ [], c ≠ l.getLast h) := fun l a b u v e hn => by
    subst e
    refine ⟨fun x r e ec => ?_, fun h ec => ?_⟩
    · cases a with
      | nil =>
        simp only [List.nil_append, List.cons.injEq] at e
        rw [List.nil_append, List.nodup_cons] at hn
        exact hn.1 (by rw [e.1, ← ec]; simp)
      | cons y a =>
        simp only [List.cons_append, List.cons.injEq] at e
        rw [List.cons_append, List.nodup_cons] at hn
        exact hn.1 (by rw [e.1, ← ec]; simp)
    · have e2 : a ++ u :: c :: v :: b = (a ++ [u, c]) ++ (v :: b) := by simp
      have e3 : (a ++ u :: c :: v :: b).getLast h = (v :: b).getLast (List.cons_ne_nil _ _) := by
        simp only [e2]
        exact List.getLast_append_of_ne_nil _ _
      have hm : c ∈ v :: b := by rw [ec, e3]; exact List.getLast_mem _
      rw [show a ++ u :: c :: v :: b = (a ++ [u]) ++ (c :: v :: b) by simp] at hn
      have := (List.nodup_append.1 hn).2.1
      rw [List.nodup_cons] at this
      exact this.1 hm
  exact ⟨(key p a b u v e1 np).1, (key q a' b' u' v' f1 nq).1, (key p a b u v e1 np).2, (key q a' b' u' v' f1 nq).2⟩

theorem meet_C {op : Ce → Bool} {p q : List Ce} (hp : Path op p) (hq : Path op q) (hb : ∀ c, badV (visA [p, q] 2 c) = false) {a : List Ce} {x y z : Ce} {b : List Ce} (e : q = a ++ x :: y :: z :: b) : MeetC p x y z := fun hy => by
  have h2 : y ∈ q := by rw [e]; simp
  obtain ⟨a1, u, v, b1, d, a', u', v', b', d', e1, e2, e3, e4, f1, f2, f3, f4, hd⟩ := meet_both hp hq hb hy h2
  have hn := hq.nd
  rw [e, show a ++ x :: y :: z :: b = (a ++ [x]) ++ y :: (z :: b) by simp] at hn
  have es : (a ++ [x]) ++ y :: (z :: b) = (a' ++ [u']) ++ y :: (v' :: b') := by
    have : a ++ x :: y :: z :: b = a' ++ u' :: y :: v' :: b' := by rw [← e, ← f1]
    simpa using this
  obtain ⟨g1, g2⟩ := split_one _ _ _ _ es hn
  have g3 : x = u' := by
    have := congrArg List.getLast? g1
    simpa using this
  simp only [List.cons.injEq] at g2
  obtain ⟨g4, _⟩ := g2
  subst g3 g4
  have q1 := dir_facts x f2
  have q2 := dir_facts u e2
  rw [← f3] at q1
  rw [← e3] at q2
  rw [← f4] at q1
  rw [← e4] at q2
  refine ⟨q1.2.2.2, a1, u, v, b1, e1, q2.2.2.2, ?_⟩
  rw [q2.2.1, q1.2.2.1]
  omega

theorem steps_adj : ∀ {l : List Ce}, adjL l = true → ∀ s ∈ steps l, AdjC s.1 s.2
  | [], _, s, h => by simp [steps] at h
  | [x], _, s, h => by simp [steps] at h
  | x :: y :: r, hl, s, h => by
    unfold adjL at hl
    rw [Bool.and_eq_true] at hl
    rw [steps, List.mem_cons] at h
    rcases h with rfl | h
    · exact adj_adjC hl.1
    · exact steps_adj hl.2 s h

theorem path_C {w h : Int} {bl p : List Ce} (hp : Path (refOpenP w h bl) p) : PathC w h p := ⟨steps_adj hp.adj, fun c hc => by
  have h1 := List.all_eq_true.1 hp.all c hc
  unfold refOpenP onP at h1
  unfold onC
  simp at h1
  omega⟩

theorem idx_pos_of {w h : Int} {l1 l2 : List Ce} (hk : ∀ (k : Nat) c, l1[k]? = some c → posC w h c = k) (hs : ∀ c ∈ l2, c ∈ l1) {c : Ce} (hc : c ∈ ddL (l1 ++ l2)) : idxC (ddL (l1 ++ l2)) c = posC w h c := by
  have hn : l1.Nodup := by
    refine List.pairwise_iff_getElem.2 fun i j hi hj hij e => ?_
    have h1 := hk j l1[j] (List.getElem?_eq_getElem hj)
    have h2 := hk i l1[i] (List.getElem?_eq_getElem hi)
    rw [e] at h2
    omega
  have hd : ddL (l1 ++ l2) = l1 := by
    unfold ddL
    rw [List.foldl_append, fold_new l1 [] (by simp) hn, List.nil_append, fold_absorb _ _ hs]
  rw [hd] at hc ⊢
  obtain ⟨k, hkl, e⟩ := List.mem_iff_getElem.1 hc
  have hg : l1[k]? = some c := by rw [List.getElem?_eq_getElem hkl, e]
  rw [hk k c hg]
  refine idxC_hit hg fun j z hj hz ez => ?_
  subst ez
  have h1 := hk j z hz
  have h2 := hk k z hg
  omega

theorem rimA_get {w k : Nat} {c : Ce} (h : (rimA w)[k]? = some c) : k < w ∧ c = ((k : Int), 0) := by
  unfold rimA at h
  rw [List.getElem?_map, Option.map_eq_some_iff] at h
  obtain ⟨x, h1, rfl⟩ := h
  obtain ⟨h2, rfl⟩ := List.getElem?_eq_some_iff.1 h1
  simp at h2 ⊢
  exact h2
theorem rimB_get {w h k : Nat} {c : Ce} (hh : (rimB w h)[k]? = some c) : k < h - 1 ∧ c = ((w : Int) - 1, (k : Int) + 1) := by
  unfold rimB at hh
  rw [List.getElem?_map, Option.map_eq_some_iff] at hh
  obtain ⟨x, h1, rfl⟩ := hh
  obtain ⟨h2, rfl⟩ := List.getElem?_eq_some_iff.1 h1
  simp at h2 ⊢
  exact h2
theorem rimC_get {w h k : Nat} {c : Ce} (hh : (rimC' w h)[k]? = some c) : k < w - 1 ∧ c = ((w : Int) - 2 - k, (h : Int) - 1) := by
  unfold rimC' at hh
  rw [List.getElem?_map, Option.map_eq_some_iff] at hh
  obtain ⟨x, h1, rfl⟩ := hh
  obtain ⟨h2, rfl⟩ := List.getElem?_eq_some_iff.1 h1
  simp at h2 ⊢
  exact h2
theorem rimD_get {h k : Nat} {c : Ce} (hh : (rimD h)[k]? = some c) : k < h - 2 ∧ c = ((0 : Int), (h : Int) - 2 - k) := by
  unfold rimD at hh
  rw [List.getElem?_map, Option.map_eq_some_iff] at hh
  obtain ⟨x, h1, rfl⟩ := hh
  obtain ⟨h2, rfl⟩ := List.getElem?_eq_some_iff.1 h1
  simp at h2 ⊢
  exact h2
theorem rim_lens (w h : Nat) : (rimA w).length = w ∧ (rimB w h).length = h - 1 ∧ (rimC' w h).length = w - 1 ∧ (rimD h).length = h - 2 := by simp [rimA, rimB, rimC', rimD]

/-- the place of a cell on the rim -/
theorem idx_pos {w h : Nat} (hw : 1 ≤ w) (hh : 1 ≤ h) {c : Ce} (hc : c ∈ rimL w h) : idxC (rimL w h) c = posC w h c := by
  obtain ⟨n1, n2, n3, n4⟩ := rim_lens w h
  have app : ∀ {l m : List Ce} {k : Nat} {c : Ce}, (l ++ m)[k]? = some c → l[k]? = some c ∨ l.length ≤ k ∧ m[k - l.length]? = some c := fun {l m k c} hk => by
    rw [List.getElem?_append] at hk
    split at hk
    · exact .inl hk
    · exact .inr ⟨by omega, hk⟩
  unfold rimL at hc ⊢
  by_cases h1 : h = 1
  · subst h1
    have e : rawR w 1 = rimA w ++ rimC' w 1 := by
      unfold rawR
      rw [show rimB w 1 = [] from rfl, show rimD 1 = [] from rfl, List.append_nil, List.append_nil]
    rw [e] at hc ⊢
    refine idx_pos_of (fun k c hk => ?_) (fun c hm => ?_) hc
    · obtain ⟨q1, rfl⟩ := rimA_get hk
      unfold posC
      rw [if_pos rfl]
    · obtain ⟨k, hk⟩ := List.mem_iff_getElem?.1 hm
      obtain ⟨q1, rfl⟩ := rimC_get hk
      refine List.mem_iff_getElem?.2 ⟨w - 2 - k, ?_⟩
      unfold rimA
      rw [List.getElem?_map, List.getElem?_range (by omega)]
      simp
      omega
  · by_cases h2 : w = 1
    · subst h2
      have e : rawR 1 h = (rimA 1 ++ rimB 1 h) ++ rimD h := by
        unfold rawR
        rw [show rimC' 1 h = [] from rfl, List.append_nil]
      rw [e] at hc ⊢
      refine idx_pos_of (fun k c hk => ?_) (fun c hm => ?_) hc
      · rcases app hk with hk | ⟨q0, hk⟩
        · obtain ⟨q1, rfl⟩ := rimA_get hk
          unfold posC
          rw [if_pos rfl]
        · obtain ⟨q1, rfl⟩ := rimB_get hk
          unfold posC
          dsimp only
          rw [if_neg (by omega), if_pos rfl]
          omega
      · obtain ⟨k, hk⟩ := List.mem_iff_getElem?.1 hm
        obtain ⟨q1, rfl⟩ := rimD_get hk
        refine List.mem_append_right _ (List.mem_iff_getElem?.2 ⟨h - 3 - k, ?_⟩)
        unfold rimB
        rw [List.getElem?_map, List.getElem?_range (by omega)]
        simp
        omega
    · have e : rawR w h = rawR w h ++ [] := by simp
      rw [e] at hc ⊢
      refine idx_pos_of (fun k c hk => ?_) (by simp) hc
      unfold rawR at hk
      rcases app hk with hk | ⟨q0, hk⟩
      · rcases app hk with hk | ⟨q0, hk⟩
        · rcases app hk with hk | ⟨q0, hk⟩
          · obtain ⟨q1, rfl⟩ := rimA_get hk
            unfold posC
            rw [if_pos rfl]
          · obtain ⟨q1, rfl⟩ := rimB_get hk
            unfold posC
            dsimp only
            rw [if_neg (by omega), if_pos rfl]
            omega
        · obtain ⟨q1, rfl⟩ := rimC_get hk
          simp only [List.length_append] at q0 q1
          unfold posC
          dsimp only
          rw [if_neg (by omega), if_neg (by omega), if_pos rfl]
          simp only [List.length_append]
          omega
      · obtain ⟨q1, rfl⟩ := rimD_get hk
        simp only [List.length_append] at q0 q1
        unfold posC
        dsimp only
        simp only [List.length_append] at *
        rw [if_neg (by omega), if_neg (by omega), if_neg (by omega)]
        omega

theorem rimL_C {w h : Nat} (hw : 1 ≤ w ∧ w ≤ 30) (hh : 1 ≤ h ∧ h ≤ 30) {c : Ce} (hc : c ∈ rimL w h) : rimC w h c := by
  rw [rimL_mem_raw] at hc
  have h1 := rawR_small w h hw hh c hc
  refine ⟨⟨h1.1.1, h1.1.2, h1.2.1, h1.2.2⟩, ?_⟩
  unfold rawR at hc
  simp only [List.mem_append] at hc
  rcases hc with ((hc | hc) | hc) | hc <;> obtain ⟨k, hk⟩ := List.mem_iff_getElem?.1 hc
  · exact .inr (.inr (.inl (by rw [(rimA_get hk).2])))
  · exact .inr (.inl (by rw [(rimB_get hk).2]))
  · exact .inr (.inr (.inr (by rw [(rimC_get hk).2])))
  · exact .inl (by rw [(rimD_get hk).2])

theorem insV_par {a b c : Int} (h1 : a ≠ c) (h2 : b ≠ c) : insV a b c = (decide (a ≤ c) ^^ decide (b ≤ c)) := by
  unfold insV
  by_cases q1 : a ≤ c <;> by_cases q2 : b ≤ c <;> simp [q1, q2] <;> omega

/-- two paths that go together and end at four cells of the rim cross an odd number of times exactly if they must -/
theorem parity_law {w h : Nat} (hw : 1 ≤ w ∧ w ≤ 30) (hh : 1 ≤ h ∧ h ≤ 30) {bl p q : List Ce} (hp : Path (refOpenP w h bl) p) (hq : Path (refOpenP w h bl) q) (hb : ∀ c, badV (visA [p, q] 2 c) = false) {must : Bool}
    (hm : mustF w h (p.getD 0 (0, 0)) (p.getD (p.length - 1) (0, 0)) (q.getD 0 (0, 0)) (q.getD (q.length - 1) (0, 0)) = (must, 0)) {L : List Ce} (hL : L.Nodup) (hLm : ∀ c, c ∈ L ↔ (visA [p, q] 2 c).length = 2) : decide (L.length % 2 = 1) = must := by
  have len2 : ∀ c, (visA [p, q] 2 c).length = 2 ↔ c ∈ p ∧ c ∈ q := fun c => by
    rw [visA_two hp.nd hq.nd]
    by_cases q1 : c ∈ p <;> by_cases q2 : c ∈ q <;> simp [q1, q2]
  have hcnt : L.length = (q.filter fun c => decide (c ∈ p)).length := by
    apply Nat.le_antisymm
    · exact len_le_sub _ _ hL fun x hx => by
        have := (len2 x).1 ((hLm x).1 hx)
        simp [this]
    · exact len_le_sub _ _ (hq.nd.filter _) fun x hx => by
        simp at hx
        exact (hLm x).2 ((len2 x).2 ⟨hx.2, hx.1⟩)
  rw [hcnt, ← par_count]
  have pp := hp.pos
  have pq := hq.pos
  have PP := path_C hp
  have PQ := path_C hq
  have np := hp.nd
  have ends := fun c h1 h2 => meet_ends hp hq hb (c := c) h1 h2
  have hmc := fun a x y z b e => meet_C hp hq hb (a := a) (x := x) (y := y) (z := z) (b := b) e
  clear hcnt len2 hLm hL hp hq hb
  cases p with
  | nil => simp at pp
  | cons p0 p =>
  cases q with
  | nil => simp at pq
  | cons q0 q =>
  have gl : ∀ (c : Ce) (r : List Ce), (c :: r).getD ((c :: r).length - 1) (0, 0) = (c :: r).getLast (List.cons_ne_nil _ _) := fun c r => by
    rw [List.getLast_eq_getElem, List.getD_eq_getElem?_getD, List.getElem?_eq_getElem (by simp)]; rfl
  rw [gl, gl, show (p0 :: p).getD 0 (0, 0) = p0 from rfl, show (q0 :: q).getD 0 (0, 0) = q0 from rfl] at hm
  unfold mustF at hm
  split at hm
  · split at hm
    · rename_i hon hok
      have hm1 := congrArg Prod.fst hm
      dsimp only at hm1
      unfold okIs mustIs at hok
      simp only [Bool.and_eq_true, List.all_eq_true, decide_eq_true_eq] at hok
      obtain ⟨hge, hnd⟩ := hok
      have hmem : ∀ c, idxC (rimL w h) c ∈ [idxC (rimL w h) p0, idxC (rimL w h) ((p0 :: p).getLast (List.cons_ne_nil _ _)), idxC (rimL w h) q0, idxC (rimL w h) ((q0 :: q).getLast (List.cons_ne_nil _ _))] → c ∈ rimL w h := fun c hc => by
        have h1 := decide_eq_true (hge _ hc)
        rw [idxC_ge] at h1
        exact of_decide_eq_true h1
      have ma := hmem p0 (by simp)
      have mb := hmem ((p0 :: p).getLast (List.cons_ne_nil _ _)) (by simp)
      have mc := hmem q0 (by simp)
      have md := hmem ((q0 :: q).getLast (List.cons_ne_nil _ _)) (by simp)
      have ia := idx_pos hw.1 hh.1 ma
      have ib := idx_pos hw.1 hh.1 mb
      have ic := idx_pos hw.1 hh.1 mc
      have id' := idx_pos hw.1 hh.1 md
      simp only [List.nodup_cons, List.mem_cons, List.not_mem_nil, or_false, not_or] at hnd
      rw [insV_par hnd.1.2.1 hnd.2.1.1, insV_par hnd.1.2.2 hnd.2.1.2, ia, ib, ic, id'] at hm1
      have last_mem : ∀ (c : Ce) (r : List Ce), (c :: r).getLast (List.cons_ne_nil _ _) ∈ c :: r := fun c r => List.getLast_mem _
      rw [parity_main w h PP PQ np (rimL_C hw hh ma) (rimL_C hw hh mb) (rimL_C hw hh mc) (rimL_C hw hh md)
        (fun hc => (ends _ hc (by simp)).2.1 _ _ rfl rfl) (fun hc => (ends _ hc (last_mem _ _)).2.2.2 (List.cons_ne_nil _ _) rfl)
        (fun hc => (ends _ (by simp) hc).1 _ _ rfl rfl) (fun hc => (ends _ (last_mem _ _) hc).2.2.1 (List.cons_ne_nil _ _) rfl) hmc, ← hm1]
    · have := congrArg Prod.snd hm
      simp at this
  · have := congrArg Prod.snd hm
    simp at this
end Go.Proofs.Ytpakkjkjppibnaa

namespace Go.Proofs.Ytpakkjkjppibnaa
open Go.RowKit

def chkL (op : Ce → Bool) : List (List Ce) → Int
  | [] => 0
  | p :: r => if checkC op p = 0 then chkL op r else checkC op p
def chkF (w h mv bd : Int) (bl : List Ce) (ps : List (List Ce)) : Int := if validP w h mv bd bl = true then (if 12 < ps.length then 4 else chkL (refOpenP w h bl) ps) else 70
theorem chkL_skip {op : Ce → Bool} : ∀ {ps : List (List Ce)} {k : Nat} {p : List Ce}, ps[k]? = some p → (∀ j q, j < k → ps[j]? = some q → checkC op q = 0) → checkC op p ≠ 0 → chkL op ps = checkC op p
  | [], k, p, h, _, _ => by simp at h
  | q :: r, 0, p, h, _, hn => by
    simp at h
    subst h
    unfold chkL
    rw [if_neg hn]
  | q :: r, k + 1, p, h, hb, hn => by
    simp at h
    have h0 := hb 0 q (by omega) rfl
    unfold chkL
    rw [if_pos h0]
    exact chkL_skip h (fun j x hj hx => hb (j + 1) x (by omega) (by simpa using hx)) hn
theorem chkL_zero {op : Ce → Bool} : ∀ {ps : List (List Ce)}, chkL op ps = 0 ↔ ∀ p ∈ ps, checkC op p = 0
  | [] => by simp [chkL]
  | q :: r => by
    unfold chkL
    by_cases h : checkC op q = 0
    · rw [if_pos h, chkL_zero]; simp [h]
    · rw [if_neg h]; simp [h]
theorem chkL_all {op : Ce → Bool} {ps : List (List Ce)} (h : ∀ j q, j < ps.length → ps[j]? = some q → checkC op q = 0) : chkL op ps = 0 := chkL_zero.2 fun p hp => by
  obtain ⟨j, hj, e⟩ := List.mem_iff_getElem.1 hp
  exact h j p hj (by rw [List.getElem?_eq_getElem hj, e])
theorem chkF_ok {w h mv bd : Int} {bl : List Ce} {ps : List (List Ce)} (hc : chkF w h mv bd bl ps = 0) : validP w h mv bd bl = true ∧ ps.length ≤ 12 ∧ ∀ p ∈ ps, checkF w h mv bd bl p = 0 := by
  unfold chkF at hc
  split at hc
  · rename_i hv
    split at hc
    · cases hc
    · refine ⟨hv, by omega, fun p hp => ?_⟩
      unfold checkF
      rw [if_pos hv]
      exact chkL_zero.1 hc p hp
  · cases hc
theorem RdPP.parts {w : World} {v : Value} {ps : List (List Ce)} (h : RdPP w v ps) : ∃ vs a cap, v = .slice a vs.length cap ∧ vs.length = ps.length ∧ vs.length ≤ cap ∧ CellsAt w a vs ∧ ∀ (i : Nat) (u : Value) (p : List Ce), vs[i]? = some u → ps[i]? = some p → RdP w u p := by
  obtain ⟨vs, h1, h2, h3⟩ := h
  obtain ⟨a, cap, e, hc, _, ha, _⟩ := Rd.parts h1 rfl
  exact ⟨vs, a, cap, e, h2, hc, ha, h3⟩
theorem RdPP.form {w : World} {v : Value} {ps : List (List Ce)} (h : RdPP w v ps) : ∃ a n cap, v = .slice a n cap := by
  obtain ⟨vs, a, cap, e, _⟩ := h.parts
  exact ⟨a, _, cap, e⟩

set_option maxRecDepth 100000 in
set_option maxHeartbeats 2000000 in
theorem checked_any (w h mv bd : Int) (bv : Value) (bl : List Ce) (ps : List (List Ce)) (v : Value) (W : World) (hb : RdP W bv bl) (hv : RdPP W v ps) (hw : ∀ p ∈ ps, WfL p) :
    Calls Try.prog 91 #[.agg #[.int .i64 w, .int .i64 h, .int .i64 mv, .int .i64 bd, bv], v] W fun e w' => (∃ x, e = .returned (.tuple #[x, .int .i64 (chkF w h mv bd bl ps)])) ∧ Below W.heap.size W w' := by
  have HBW := Lib.hid ((Below.refl W.heap.size W).alloc (Nat.le_refl _) (.cells #[.int .i64 w, .int .i64 h, .int .i64 mv, .int .i64 bd, bv] 24))
  have HV := Lib.hid hv
  obtain ⟨vs, av, cv, rfl, hvl, hcv, hav, hall⟩ := hv.parts
  obtain ⟨N, hN⟩ : ∃ N, vs.length = N := ⟨_, rfl⟩
  cases hvd : validP w h mv bd bl with
  | false =>
    have HF : Hid (chkF w h mv bd bl ps = 70) := Lib.hid (by unfold chkF; rw [if_neg (by rw [hvd]; decide)])
    have HO := Lib.hid (fun V (hV : Below W.heap.size W V) => opened_bad w h mv bd bv bl V (hb.below hV) hvd)
    obtain ⟨a, cap, rfl, _, _, _, _⟩ := hb
    clear hvd hw hall hav hcv hvl hN
    go_enter Try.func91, Try.ntmps91
    go_wp2_with (go_at_call 38; (with_reducible refine (HO.out _ HBW.out).mono ?_); rintro e w1 ⟨rfl, hb1⟩)
    go_ret2
    exact ⟨⟨_, by rw [HF.out]; rfl⟩, HBW.out.trans (hb1.mono (by simp))⟩
  | true =>
    obtain ⟨w, h, rfl, rfl⟩ := valid_nat hvd
    have HO := Lib.hid (fun V (hV : Below W.heap.size W V) => opened_ok w h mv bd bv bl V (hb.below hV) hvd)
    have hop := openK hvd
    have HC := Lib.hid (fun Bg sb V (p : List Ce) (u : Value) (hV : GridAt V Bg (grK w h mv bd bl bl.length) bv (some ⟨sb, 0, none⟩) (w * h)) (hr : RdP V u p) (hw : WfL p) => check_any Bg _ bv _ _ p u V hV hr hw)
    rw [hop] at HC
    obtain ⟨a, cap, rfl, _, _, _, _⟩ := hb
    rw [hN] at hvl hcv ⊢
    by_cases h12 : N ≤ 12
    · have HF : Hid (chkF w h mv bd bl ps = chkL (refOpenP w h bl) ps) := Lib.hid (by unfold chkF; rw [if_pos hvd, if_neg (by omega)])
      have g1 : decide ((12 : Int) < (N : Int)) = false := decide_eq_false (by omega)
      have HAV := Lib.hid hav
      have HALL := Lib.hid hall
      have HWF := Lib.hid hw
      have HNN := Lib.hid hN
      have HPL := Lib.hid hvl
      clear hvd hw hall hav hop hvl hN
      go_enter Try.func91, Try.ntmps91
      go_wp2_with (go_at_call 38; (with_reducible refine (HO.out _ HBW.out).mono ?_); rintro e w1 ⟨Bg, sb, rfl, hg1, hb1⟩; have HG1 := Lib.hid hg1; have HB1 := Lib.hid (HBW.out.trans (hb1.mono (by simp))); clear hg1 hb1)
      go_loopw [24] (fun p0 wr => ∃ k : Nat, k ≤ N ∧ p0 = .int .i64 k ∧ Hid (Below w1.heap.size w1 wr) ∧ Hid (∀ j q, j < k → ps[j]? = some q → checkC (refOpenP w h bl) q = 0)) (fun p0 _ => N - (intOf p0).toNat)
      case atStart => exact ⟨0, Nat.zero_le _, rfl, Lib.hid (Below.refl _ _), Lib.hid (fun j q h => absurd h (Nat.not_lt_zero _))⟩
      case round =>
        obtain ⟨k, hk, rfl, HB, HA⟩ := hrel
        by_cases hkN : k < N
        · have hkN' : (k : Int) < (N : Int) := by omega
          obtain ⟨u, hu⟩ : ∃ u, vs[k]? = some u := ⟨_, List.getElem?_eq_getElem (by rw [HNN.out]; exact hkN)⟩
          obtain ⟨p, hp⟩ : ∃ p, ps[k]? = some p := ⟨_, List.getElem?_eq_getElem (by rw [← HPL.out]; exact hkN)⟩
          have hwp := HWF.out p (List.mem_of_getElem? hp)
          have HU := Lib.hid ((HALL.out k u p hu hp).below (HB1.out.trans (HB.out.mono HB1.out.size)))
          have HG2 := Lib.hid (HG1.out.below HB.out)
          rcases HAV.out with hnil | ⟨bs, os, rfl, hcell⟩
          · rw [hnil] at hu; simp at hu
          have q0 := cell_below (hcell k u hu) (HB1.out.trans (HB.out.mono HB1.out.size))
          have HPK := Lib.hid hp
          have HCK := Lib.hid (HC.out _ _ _ p u HG2.out HU.out hwp)
          clear hcell hu hp hwp
          obtain ⟨ec, hec⟩ : ∃ ec, checkC (refOpenP w h bl) p = ec := ⟨_, rfl⟩
          rw [hec] at HCK
          have HEC := Lib.hid hec
          clear hec
          by_cases he : ec = 0
          · subst he
            go_wp2_with (go_at_call 65; (with_reducible refine HCK.out.mono ?_); rintro e w2 ⟨rfl, hb2⟩)
            go_roundw
            case rel => exact ⟨k + 1, by omega, by go_num, Lib.hid (HB.out.trans (hb2.mono HB.out.size)), Lib.hid (fun j q hj hq => by
              rcases Nat.lt_succ_iff_lt_or_eq.1 hj with h1 | h1
              · exact HA.out j q h1 hq
              · rw [h1, HPK.out] at hq
                rw [← Option.some.inj hq]
                exact HEC.out)⟩
            case measure => simp [intOf]; omega
          · have heb : (ec != 0) = true := by simpa using he
            have HFF : Hid (chkF w h mv bd bl ps = ec) := Lib.hid (by
              rw [HF.out, ← HEC.out]
              exact chkL_skip HPK.out (fun j q hj hq => HA.out j q hj hq) (by rw [HEC.out]; exact he))
            clear he
            go_wp2_with (go_at_call 65; (with_reducible refine HCK.out.mono ?_); rintro e w2 ⟨rfl, hb2⟩)
            go_ret2
            exact ⟨⟨_, by rw [HFF.out]; rfl⟩, HB1.out.trans ((HB.out.trans (hb2.mono HB.out.size)).mono HB1.out.size)⟩
        · obtain rfl : k = N := by omega
          have HFF : Hid (chkF w h mv bd bl ps = 0) := Lib.hid (by
            rw [HF.out]
            exact chkL_all (fun j q hj hq => HA.out j q (by rw [HPL.out]; exact hj) hq))
          go_wp2_with fail
          go_ret2
          exact ⟨⟨_, by rw [HFF.out]; rfl⟩, HB1.out.trans (HB.out.mono HB1.out.size)⟩
    · have HF : Hid (chkF w h mv bd bl ps = 4) := Lib.hid (by unfold chkF; rw [if_pos hvd, if_pos (by omega)])
      have g1 : decide ((12 : Int) < (N : Int)) = true := decide_eq_true (by omega)
      clear hvd hw hall hav hop hvl hN h12
      go_enter Try.func91, Try.ntmps91
      go_wp2_with (go_at_call 38; (with_reducible refine (HO.out _ HBW.out).mono ?_); rintro e w1 ⟨Bg, sb, rfl, hg1, hb1⟩; have HB1 := Lib.hid (HBW.out.trans (hb1.mono (by simp))); clear hg1 hb1)
      go_ret2
      exact ⟨⟨_, by rw [HF.out]; rfl⟩, HB1.out⟩
end Go.Proofs.Ytpakkjkjppibnaa

namespace Go.Proofs.Ytpakkjkjppibnaa
open Go.RowKit Go.Maps Go.ChangeMaps Go.MapKept

theorem lits_int {P : Program} {e : TypeId} {d : Nat} (hi : P.underlying e = some (.int .i64)) {cs : List Value} {ls : List Lit} (h : P.keyLits (d + 1) e cs = some ls) : ∃ n, cs = [.int .i64 n] ∧ (Lit.int .i64 n).wf = true ∧ ls = [.int .i64 n] := by
  unfold Program.keyLits at h
  rw [hi] at h
  match cs with
  | [] => simp at h
  | [v] =>
    cases v <;> simp at h
    rename_i q n
    obtain ⟨⟨rfl, h1⟩, rfl⟩ := h
    exact ⟨n, rfl, h1, rfl⟩
  | _ :: _ :: _ => simp at h
theorem pair_inv {P : Program} {t e : TypeId} {fs : Array Field} {d : Nat} (hu : P.underlying t = some (.struct fs)) (hi : P.underlying e = some (.int .i64)) (hk : P.keyType t = true) (hc : P.cellsOf t = 2) (hc1 : P.cellsOf e = 1) (hd : P.types.size = d + 1)
    (hf : ∃ f1 f2 : Field, fs = #[f1, f2] ∧ f1.type = e ∧ f1.offset = 0 ∧ f1.name ≠ "_" ∧ f2.type = e ∧ f2.offset = 1 ∧ f2.name ≠ "_") {key : Value} {kl : Lit} (h : keyOf P t key = some kl) : ∃ c : Ce, WfC c ∧ key = .agg #[.int .i64 c.1, .int .i64 c.2] ∧ kl = litXY c := by
  obtain ⟨f1, f2, rfl, t1, o1, m1, t2, o2, m2⟩ := hf
  unfold keyOf at h
  rw [hu] at h
  dsimp only at h
  rw [hk, hd] at h
  cases key with
  | agg cs =>
    obtain ⟨l⟩ := cs
    match l with
    | [] => simp [Value.formed, hu, hc] at h
    | [_] => simp [Value.formed, hu, hc] at h
    | [a, b] =>
      unfold Program.keyLits at h
      rw [hu] at h
      simp [Value.formed, hu, hc, Value.cells, t1, o1, m1, t2, o2, m2, hc1] at h
      cases hx : P.keyLits (d + 1) e [a] with
      | none => rw [hx] at h; simp at h
      | some x =>
        cases hy : P.keyLits (d + 1) e [b] with
        | none => rw [hx, hy] at h; simp at h
        | some y =>
          rw [hx, hy] at h
          simp at h
          obtain ⟨n1, e1, w1, rfl⟩ := lits_int hi hx
          obtain ⟨n2, e2, w2, rfl⟩ := lits_int hi hy
          simp at e1 e2
          subst e1 e2
          exact ⟨(n1, n2), ⟨w1, w2⟩, rfl, h.symm⟩
    | _ :: _ :: _ :: _ => simp [Value.formed, hu, hc] at h
  | _ => simp [Value.formed, hu] at h
theorem xy_inv {key : Value} {kl : Lit} (h : keyOf Try.prog 26 key = some kl) : ∃ c : Ce, WfC c ∧ key = .agg #[.int .i64 c.1, .int .i64 c.2] ∧ kl = litXY c := by
  obtain ⟨d, hd⟩ : ∃ d, Try.prog.types.size = d + 1 := ⟨Try.prog.types.size - 1, by
    have : 0 < Try.prog.types.size := of_decide_eq_true (by kernel_rfl)
    omega⟩
  exact pair_inv Try.underlying26 Try.underlying3 (by kernel_rfl) (by kernel_rfl) (by kernel_rfl) hd ⟨_, _, rfl, rfl, rfl, by decide, rfl, rfl, by decide⟩ h

theorem VM.data {w : World} {b n B : Nat} {G : Ce → List Vis} (h : VM w b n B G) : ∃ D : DataW Value, w.ownsMap Try.prog 26 slR b n D ∧ (∀ c, WfC c → (Maps.has D (litXY c) = true ↔ G c ≠ [])) ∧ (∀ c, G c ≠ [] → WfC c) ∧
    ∀ c v0, WfC c → Maps.has D (litXY c) = true → D.atKey (litXY c) (.held (.slice none 0 0)) = .held v0 → w.ownsRow B 151 3 v0 (G c).length (visC (G c)) := by
  obtain ⟨F, ⟨D, hD, h2, h3⟩, hrow, hnil, _, _⟩ := h
  refine ⟨D, hD, fun c hc => ?_, fun c hc => ?_, fun c v0 hc hh ha => ?_⟩
  · rw [h2 c hc]
    cases hF : F c with
    | none => simp [hnil c hF]
    | some v => simp [(hrow c v hF).2.1]
  · cases hF : F c with
    | none => exact absurd (hnil c hF) hc
    | some v => exact (hrow c v hF).1
  · rw [h2 c hc] at hh
    obtain ⟨v, hF⟩ := Option.isSome_iff_exists.1 hh
    rw [h3 c hc, hF] at ha
    simp only [Option.getD_some, DataW.held.injEq] at ha
    subst ha
    exact (hrow c v hF).2.2

theorem own_notiter {H : Type} {w : World} {P : Program} {k : TypeId} {R : Value → Option (DataW H × List MemPlace)} {b r n : Nat} {D : DataW H} {left : Lit → Bool} {cnt : Nat} {B m : Nat} {e : TypeId} {size : Nat} {v : Value} {xs : List Value}
    (h : w.ownsRow B e size v m xs) (hr : w.ranges P k R b r n D left cnt) : some b ≠ v.ownBlock ∧ some r ≠ v.ownBlock := by
  obtain ⟨es, clock, since, seen, c0, hb, _, _, _, hr, _⟩ := hr
  rcases h.2 with ⟨rfl, _⟩ | ⟨g, cap, cur, rfl, _, hg, _⟩
  · simp [Value.ownBlock]
  · refine ⟨fun e => ?_, fun e => ?_⟩
    · obtain rfl : b = g := Option.some.inj e
      rw [hb] at hg
      cases hg
    · obtain rfl : r = g := Option.some.inj e
      rw [hr] at hg
      cases hg

def cellX (x : Cx) : Ce := (x.1, x.2.1)
def strikeX (left : Lit → Bool) (c : Ce) : Lit → Bool := fun z => left z && !z.sameKey (litXY c)
theorem strike_iff {left : Lit → Bool} {c d : Ce} (hc : WfC c) (hd : WfC d) : strikeX left c (litXY d) = false ↔ left (litXY d) = false ∨ d = c := by
  unfold strikeX
  have h : (litXY d).sameKey (litXY c) = decide (d = c) := by
    by_cases e : d = c
    · subst e; rw [decide_eq_true rfl]; simp [litXY, Lit.sameKey]
    · rw [decide_eq_false e]
      have : litXY d ≠ litXY c := fun h => e (litXY_inj hd hc h)
      unfold litXY at *
      simp [Lit.sameKey]
      intro h
      exact this (by rw [h])
  rw [h]
  by_cases e : d = c <;> simp [e]

/-- what the loop over the visits has found: the cells that are still to come are left -/
structure CInv (G : Ce → List Vis) (D : DataW Value) (left : Lit → Bool) (L : List Cx) : Prop where
  nd : (L.map cellX).Nodup
  sub : ∀ kl, left kl = true → Maps.has D kl = true
  past : ∀ x ∈ L, WfC (cellX x) ∧ left (litXY (cellX x)) = false ∧ ∃ u v, G (cellX x) = [u, v] ∧ x.2.2.1 = u.1 ∧ x.2.2.2 = v.1
  done : ∀ c, WfC c → Maps.has D (litXY c) = true → left (litXY c) = false → badV (G c) = false ∧ ((G c).length = 2 → c ∈ L.map cellX)
theorem CInv.start (G : Ce → List Vis) (D : DataW Value) : CInv G D (Maps.has D) [] :=
  ⟨by simp, fun _ h => h, fun x h => (by cases h), fun c _ h1 h2 => by rw [h1] at h2; cases h2⟩
theorem CInv.skip {G : Ce → List Vis} {D : DataW Value} {left : Lit → Bool} {L : List Cx} (h : CInv G D left L) {c : Ce} (hc : WfC c) (hb : badV (G c) = false) (h2 : (G c).length ≠ 2) : CInv G D (strikeX left c) L where
  nd := h.nd
  sub kl hk := h.sub kl (by unfold strikeX at hk; simp at hk; exact hk.1)
  past x hx := ⟨(h.past x hx).1, (strike_iff hc (h.past x hx).1).2 (.inl (h.past x hx).2.1), (h.past x hx).2.2⟩
  done d hd hh hl := by
    rcases (strike_iff hc hd).1 hl with h1 | rfl
    · exact h.done d hd hh h1
    · exact ⟨hb, fun e => absurd e h2⟩
theorem CInv.add {G : Ce → List Vis} {D : DataW Value} {left : Lit → Bool} {L : List Cx} (h : CInv G D left L) {c : Ce} (hc : WfC c) (hl : left (litXY c) = true) {u v : Vis} (hG : G c = [u, v]) (hb : badV (G c) = false) : CInv G D (strikeX left c) (L ++ [(c.1, c.2, u.1, v.1)]) where
  nd := by
    rw [List.map_append, List.nodup_append]
    refine ⟨h.nd, by simp, fun a ha b hb e => ?_⟩
    simp at hb
    obtain ⟨x, hx, rfl⟩ := List.mem_map.1 ha
    have h1 := (h.past x hx).2.1
    have e2 : cellX x = c := by rw [e, hb]; rfl
    rw [e2, hl] at h1
    cases h1
  sub kl hk := h.sub kl (by unfold strikeX at hk; simp at hk; exact hk.1)
  past x hx := by
    rcases List.mem_append.1 hx with hx | hx
    · exact ⟨(h.past x hx).1, (strike_iff hc (h.past x hx).1).2 (.inl (h.past x hx).2.1), (h.past x hx).2.2⟩
    · simp at hx
      subst hx
      exact ⟨hc, (strike_iff hc hc).2 (.inr rfl), u, v, hG, rfl, rfl⟩
  done d hd hh hl := by
    rcases (strike_iff hc hd).1 hl with h1 | rfl
    · have := h.done d hd hh h1
      exact ⟨this.1, fun e => by rw [List.map_append]; exact List.mem_append_left _ (this.2 e)⟩
    · exact ⟨hb, fun _ => by simp [cellX]⟩

/-- the crossings of paths that go together -/
structure CrossOK (G : Ce → List Vis) (L : List Cx) : Prop where
  ok : ∀ c, badV (G c) = false
  nd : (L.map cellX).Nodup
  mem : ∀ c, c ∈ L.map cellX ↔ (G c).length = 2
  all : ∀ x ∈ L, ∃ u v, G (cellX x) = [u, v] ∧ x.2.2.1 = u.1 ∧ x.2.2.2 = v.1
theorem CInv.stop {G : Ce → List Vis} {D : DataW Value} {left : Lit → Bool} {L L' : List Cx} (h : CInv G D left L) (hl : ∀ kl, left kl = false) (hD : ∀ c, WfC c → (Maps.has D (litXY c) = true ↔ G c ≠ [])) (hW : ∀ c, G c ≠ [] → WfC c) (hp : L'.Perm L) : CrossOK G L' where
  ok c := by
    by_cases e : G c = []
    · rw [e]; rfl
    · exact (h.done c (hW c e) ((hD c (hW c e)).2 e) (hl _)).1
  nd := (hp.map cellX).nodup_iff.2 h.nd
  mem c := by
    rw [(hp.map cellX).mem_iff]
    refine ⟨fun hm => ?_, fun e => ?_⟩
    · obtain ⟨x, hx, rfl⟩ := List.mem_map.1 hm
      obtain ⟨_, _, u, v, e, _⟩ := h.past x hx
      rw [e]; rfl
    · have e' : G c ≠ [] := fun h => by rw [h] at e; cases e
      exact (h.done c (hW c e') ((hD c (hW c e')).2 e') (hl _)).2 e
  all x hx := (h.past x (hp.mem_iff.1 hx)).2.2
theorem CInv.len {G : Ce → List Vis} {D : DataW Value} {left : Lit → Bool} {L : List Cx} (h : CInv G D left L) {N : Nat} (hN : ∀ l : List Ce, l.Nodup → (∀ c ∈ l, G c ≠ []) → l.length ≤ N) : L.length ≤ N := by
  have := hN (L.map cellX) h.nd fun c hc => by
    obtain ⟨x, hx, rfl⟩ := List.mem_map.1 hc
    obtain ⟨_, _, u, v, e, _⟩ := h.past x hx
    rw [e]; simp
  rwa [List.length_map] at this

theorem visL_mem {n : Nat} {D : List Int} {p : List Ce} {G : Ce → List Vis} {c : Ce} : ∀ k, k ≤ p.length → visL n D p G k c ≠ [] → G c ≠ [] ∨ c ∈ p
  | 0, _, h => .inl h
  | k + 1, hk, h => by
    by_cases e : c = p.getD k (0, 0)
    · exact .inr (by rw [e]; exact getD_memC (by omega))
    · refine visL_mem (n := n) (D := D) k (by omega) (fun h0 => h ?_)
      show updG (visL n D p G k) (p.getD k (0, 0)) (visOf n D k) c = []
      unfold updG
      rw [if_neg e, h0]
theorem visA_mem {ps : List (List Ce)} {c : Ce} : ∀ n, n ≤ ps.length → visA ps n c ≠ [] → c ∈ ps.flatten
  | 0, _, h => absurd rfl h
  | n + 1, hn, h => by
    rcases visL_mem _ (Nat.le_refl _) h with h | h
    · exact visA_mem n (by omega) h
    · refine List.mem_flatten.2 ⟨_, ?_, h⟩
      rw [List.getD_eq_getElem?_getD, List.getElem?_eq_getElem (by omega)]
      exact List.getElem_mem _
theorem vis_dir (n : Nat) {p : List Ce} (i : Nat) : 0 ≤ (visOf n (dirsR p).1 i).2.1 ∧ (visOf n (dirsR p).1 i).2.1 ≤ 3 := by
  unfold visOf
  split
  · rename_i h
    dsimp only
    have hm : (dirsR p).1.getD i 0 ∈ (dirsR p).1 := by
      rw [List.getD_eq_getElem?_getD, List.getElem?_eq_getElem h.2]
      exact List.getElem_mem _
    unfold dirsR at hm ⊢
    split at hm
    · rename_i ha
      rw [if_pos ha]
      obtain ⟨d, hd, e⟩ := List.mem_map.1 hm
      rw [← e]
      have := dirsL_lt p d hd
      simp
      omega
    · cases hm
  · dsimp only; omega
theorem visL_dir {n : Nat} {p q : List Ce} {G : Ce → List Vis} (hG : ∀ c, ∀ u ∈ G c, 0 ≤ u.2.1 ∧ u.2.1 ≤ 3) : ∀ k c, ∀ u ∈ visL n (dirsR p).1 q G k c, 0 ≤ u.2.1 ∧ u.2.1 ≤ 3
  | 0, c, u, h => hG c u h
  | k + 1, c, u, h => by
    have h' : u ∈ updG (visL n (dirsR p).1 q G k) (q.getD k (0, 0)) (visOf n (dirsR p).1 k) c := h
    unfold updG at h'
    split at h'
    · rcases List.mem_append.1 h' with h' | h'
      · exact visL_dir hG k _ u h'
      · simp at h'
        rw [h']
        exact vis_dir n k
    · exact visL_dir hG k _ u h'
theorem visA_dir {ps : List (List Ce)} : ∀ n c, ∀ u ∈ visA ps n c, 0 ≤ u.2.1 ∧ u.2.1 ≤ 3
  | 0, c, u, h => by cases h
  | n + 1, c, u, h => visL_dir (p := ps.getD n []) (fun c u hu => visA_dir n c u hu) _ c u h
theorem flat_le {ps : List (List Ce)} (h : ∀ p ∈ ps, p.length ≤ 1000) : ps.flatten.length ≤ ps.length * 1000 := by
  induction ps with
  | nil => simp
  | cons p ps ih =>
    have h1 := h p (by simp)
    have h2 := ih fun q hq => h q (by simp [hq])
    rw [List.flatten_cons, List.length_append, List.length_cons]
    omega
theorem vis_few {ps : List (List Ce)} (h : ∀ p ∈ ps, p.length ≤ 1000) (hN : ps.length ≤ 12) : ∀ l : List Ce, l.Nodup → (∀ c ∈ l, visA ps ps.length c ≠ []) → l.length ≤ 12000 := fun l h1 h2 => by
  have h3 := len_le_sub l ps.flatten h1 fun c hc => visA_mem _ (Nat.le_refl _) (h2 c hc)
  have h4 := flat_le h
  omega
theorem cross_step {w1 w3 w5 : World} {b cnt ct3 n : Nat} {D : DataW Value} {left : Lit → Bool} {v : Value} {xs : List Value} (h1 : w3.ranges Try.prog 26 slR b w1.heap.size cnt D left ct3) (h2 : Below w1.heap.size w1 w3) (h3 : w3.ownsRow w1.heap.size 103 4 v n xs)
    (hg : w3.grownBy w5 none) : w5.ranges Try.prog 26 slR b w1.heap.size cnt D left ct3 ∧ Below w1.heap.size w1 w5 ∧ w5.ownsRow w1.heap.size 103 4 v n xs :=
  ⟨h1.kept hg (by simp) (by simp), h2.grown hg h2.size (fun k e => by cases e), h3.kept hg (by cases v.ownBlock <;> simp)⟩
theorem grown_boxed (w : World) (o : Obj) (q : Nat) : w.grownBy ((w.alloc o).drewN q) none := (World.grownBy_alloc w o none).trans (grown_drewN _ q none)
end Go.Proofs.Ytpakkjkjppibnaa

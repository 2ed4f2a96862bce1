/- Layout: a path is made longer by two steps. Plain. -/
import Derived.Test.YtpakkjkjppibnaaGCostP
namespace Go.Proofs.Ytpakkjkjppibnaa
open Go.RowKit

theorem adj_besd (a : Ce) (d : Nat) : adjB a (besideP a d) = true := by
  have h : besideP a d = besideP a (d % 4) := by unfold besideP; rw [Nat.mod_mod]
  unfold adjB
  rw [h, tow_beside a (Nat.mod_lt _ (by decide))]
  simp
theorem four_d {d : Nat} (h : d < 4) : d = 0 ∨ d = 1 ∨ d = 2 ∨ d = 3 := by omega
theorem side_facts (a : Ce) {d s : Nat} (hd : d < 4) (hs : s = d + 1 ∨ s = d + 3) :
    adjB (besideP a s) (besideP (besideP a d) s) = true ∧ adjB (besideP (besideP a d) s) (besideP a d) = true ∧ besideP a s ≠ besideP (besideP a d) s := by
  obtain ⟨x, y⟩ := a
  have key : besideP (besideP (x, y) d) s = besideP (besideP (x, y) s) d ∧ besideP (x, y) d = besideP (besideP (besideP (x, y) d) s) (s + 2) ∧ besideP (x, y) s ≠ besideP (besideP (x, y) d) s := by
    rcases four_d hd with rfl | rfl | rfl | rfl <;> rcases hs with rfl | rfl <;> simp [besideP] <;> omega
  refine ⟨?_, ?_, key.2.2⟩
  · rw [key.1]; exact adj_besd _ _
  · have := adj_besd (besideP (besideP (x, y) d) s) (s + 2)
    rwa [← key.2.1] at this
/-- two cells put in behind the cell i -/
def ins2 (p : List Ce) (i : Nat) (a b : Ce) : List Ce := p.take (i + 1) ++ a :: b :: p.drop (i + 1)
theorem ins2_len (p : List Ce) (i : Nat) (a b : Ce) (hi : i + 1 ≤ p.length) : (ins2 p i a b).length = p.length + 2 := by simp [ins2]; omega
theorem ins2_perm (p : List Ce) (i : Nat) (a b : Ce) : (ins2 p i a b).Perm (a :: b :: p) := by
  unfold ins2
  refine List.perm_middle.trans (List.Perm.cons a ?_)
  refine List.perm_middle.trans (List.Perm.cons b ?_)
  rw [List.take_append_drop]
theorem ins2_get (p : List Ce) (i : Nat) (a b : Ce) (hi : i + 1 ≤ p.length) (j : Nat) :
    (ins2 p i a b).getD j (0, 0) = if j ≤ i then p.getD j (0, 0) else if j = i + 1 then a else if j = i + 2 then b else p.getD (j - 2) (0, 0) := by
  have hl : (p.take (i + 1)).length = i + 1 := by rw [List.length_take]; omega
  unfold ins2
  rw [List.getD_eq_getElem?_getD]
  by_cases h1 : j ≤ i
  · rw [if_pos h1, List.getElem?_append_left (by omega), List.getElem?_take, if_pos (by omega), ← List.getD_eq_getElem?_getD]
  · rw [if_neg h1, List.getElem?_append_right (by omega), hl]
    by_cases h2 : j = i + 1
    · rw [if_pos h2, show j - (i + 1) = 0 by omega]; rfl
    · rw [if_neg h2]
      by_cases h3 : j = i + 2
      · rw [if_pos h3, show j - (i + 1) = 0 + 1 by omega]; rfl
      · rw [if_neg h3, show j - (i + 1) = (j - i - 3) + 1 + 1 by omega, List.getElem?_cons_succ, List.getElem?_cons_succ, List.getElem?_drop, show i + 1 + (j - i - 3) = j - 2 by omega, ← List.getD_eq_getElem?_getD]
/-- what is known of a path -/
structure Path (op : Ce → Bool) (p : List Ce) : Prop where
  pos : 1 ≤ p.length
  adj : adjL p = true
  nd : p.Nodup
  all : p.all op = true
theorem ins2_path {op : Ce → Bool} {p : List Ce} (h : Path op p) {i s : Nat} (hi : i + 1 < p.length) (hs : s = towD (p.getD i (0, 0)) (p.getD (i + 1) (0, 0)) + 1 ∨ s = towD (p.getD i (0, 0)) (p.getD (i + 1) (0, 0)) + 3)
    (ha : op (besideP (p.getD i (0, 0)) s) = true) (hb : op (besideP (p.getD (i + 1) (0, 0)) s) = true) (na : besideP (p.getD i (0, 0)) s ∉ p) (nb : besideP (p.getD (i + 1) (0, 0)) s ∉ p) :
    Path op (ins2 p i (besideP (p.getD i (0, 0)) s) (besideP (p.getD (i + 1) (0, 0)) s)) := by
  have hadj := (adjL_iff p).1 h.adj
  have hi' := hadj i hi
  have e1 : p.getD (i + 1) (0, 0) = besideP (p.getD i (0, 0)) (towD (p.getD i (0, 0)) (p.getD (i + 1) (0, 0))) := by
    unfold adjB at hi'; exact of_decide_eq_true hi'
  obtain ⟨f1, f2, f3⟩ := side_facts (p.getD i (0, 0)) (towD_lt _ _) hs
  rw [← e1] at f1 f2 f3
  have hp := ins2_perm p i (besideP (p.getD i (0, 0)) s) (besideP (p.getD (i + 1) (0, 0)) s)
  have hl := ins2_len p i (besideP (p.getD i (0, 0)) s) (besideP (p.getD (i + 1) (0, 0)) s) (by omega)
  refine ⟨by omega, (adjL_iff _).2 fun j hj => ?_, ?_, ?_⟩
  · rw [hl] at hj
    rw [ins2_get _ _ _ _ (by omega), ins2_get _ _ _ _ (by omega)]
    by_cases c1 : j < i
    · rw [if_pos (by omega), if_pos (by omega)]; exact hadj j (by omega)
    · by_cases c2 : j = i
      · subst c2
        rw [if_pos (by omega), if_neg (by omega), if_pos rfl]
        exact adj_besd _ _
      · by_cases c3 : j = i + 1
        · subst c3
          rw [if_neg (by omega), if_pos rfl, if_neg (by omega), if_neg (by omega), if_pos rfl]
          exact f1
        · by_cases c4 : j = i + 2
          · subst c4
            rw [if_neg (by omega), if_neg (by omega), if_pos rfl, if_neg (by omega), if_neg (by omega), if_neg (by omega), show i + 2 + 1 - 2 = i + 1 by omega]
            exact f2
          · rw [if_neg (by omega), if_neg (by omega), if_neg (by omega), if_neg (by omega), if_neg (by omega), if_neg (by omega), show j + 1 - 2 = (j - 2) + 1 by omega]
            exact hadj (j - 2) (by omega)
  · rw [hp.nodup_iff, List.nodup_cons, List.nodup_cons]
    refine ⟨fun hm => ?_, nb, h.nd⟩
    rcases List.mem_cons.1 hm with e | hm
    · exact f3 e
    · exact na hm
  · rw [List.all_eq_true] at *
    have hall := List.all_eq_true.1 h.all
    intro x hx
    rcases List.mem_cons.1 (hp.mem_iff.1 hx) with rfl | hx
    · exact ha
    · rcases List.mem_cons.1 hx with rfl | hx
      · exact hb
      · exact hall x hx
/-- room beside a step -/
def roomP (op : Ce → Bool) (p : List Ce) (i s : Nat) : Bool :=
  op (besideP (p.getD i (0, 0)) s) && decide (besideP (p.getD i (0, 0)) s ∉ p) && (op (besideP (p.getD (i + 1) (0, 0)) s) && decide (besideP (p.getD (i + 1) (0, 0)) s ∉ p))
/-- the side of the try t -/
def sideT (p : List Ce) (t : Nat) : Nat := towD (p.getD (t / 2) (0, 0)) (p.getD (t / 2 + 1) (0, 0)) + (if t % 2 = 0 then 1 else 3)
def tryP (op : Ce → Bool) (p : List Ce) (t : Nat) : Option (List Ce) :=
  if roomP op p (t / 2) (sideT p t) then some (ins2 p (t / 2) (besideP (p.getD (t / 2) (0, 0)) (sideT p t)) (besideP (p.getD (t / 2 + 1) (0, 0)) (sideT p t))) else none
def longerP (op : Ce → Bool) (p : List Ce) : Option (List Ce) := (List.range (2 * (p.length - 1))).findSome? (tryP op p)
/-- what a longer path keeps -/
structure Longer (op : Ce → Bool) (p q : List Ce) (k : Nat) : Prop where
  path : Path op q
  len : q.length = p.length + 2 * k
  first : q.getD 0 (0, 0) = p.getD 0 (0, 0)
  last : q.getD (q.length - 1) (0, 0) = p.getD (p.length - 1) (0, 0)
theorem longerP_ok {op : Ce → Bool} {p q : List Ce} (h : Path op p) (e : longerP op p = some q) : Longer op p q 1 := by
  unfold longerP at e
  obtain ⟨t, ht, e2⟩ := List.exists_of_findSome?_eq_some e
  have ht := List.mem_range.1 ht
  unfold tryP at e2
  split at e2
  · rename_i hr
    cases e2
    unfold roomP at hr
    simp only [Bool.and_eq_true, decide_eq_true_eq] at hr
    obtain ⟨⟨r1, r2⟩, r3, r4⟩ := hr
    have hi : t / 2 + 1 < p.length := by omega
    have hl := ins2_len p (t / 2) (besideP (p.getD (t / 2) (0, 0)) (sideT p t)) (besideP (p.getD (t / 2 + 1) (0, 0)) (sideT p t)) (by omega)
    refine ⟨ins2_path h hi ?_ r1 r3 r2 r4, by rw [hl], ?_, ?_⟩
    · unfold sideT
      split
      · exact .inl rfl
      · exact .inr rfl
    · rw [ins2_get _ _ _ _ (by omega), if_pos (by omega)]
    · rw [hl, ins2_get _ _ _ _ (by omega), if_neg (by omega), if_neg (by omega)]
      by_cases c : p.length + 2 - 1 = t / 2 + 2
      · omega
      · rw [if_neg c]; congr 1
  · cases e2
/-- k times -/
def longP (op : Ce → Bool) (p : List Ce) : Nat → Option (List Ce)
  | 0 => some p
  | k + 1 => match longP op p k with
    | none => none
    | some q => longerP op q
theorem longP_ok {op : Ce → Bool} {p : List Ce} (h : Path op p) : ∀ (k : Nat) (q : List Ce), longP op p k = some q → Longer op p q k
  | 0, q, e => by
    cases e
    exact ⟨h, by omega, rfl, rfl⟩
  | k + 1, q, e => by
    unfold longP at e
    cases hq : longP op p k with
    | none => rw [hq] at e; cases e
    | some r =>
      rw [hq] at e
      have h1 := longP_ok h k r hq
      have h2 := longerP_ok h1.path e
      exact ⟨h2.path, by rw [h2.len, h1.len]; omega, h2.first.trans h1.first, h2.last.trans h1.last⟩
/-- the steps of a path are as odd as the distance of its ends -/
theorem adj_odd {a b : Ce} (h : adjB a b = true) : (a.1 + a.2 + b.1 + b.2) % 2 = 1 := by
  have e : b = besideP a (towD a b) := by unfold adjB at h; exact of_decide_eq_true h
  obtain ⟨x, y⟩ := a
  obtain ⟨u, v⟩ := b
  have hd := towD_lt (x, y) (u, v)
  generalize towD (x, y) (u, v) = d at *
  rcases four_d hd with rfl | rfl | rfl | rfl <;> simp [besideP] at e <;> obtain ⟨rfl, rfl⟩ := e <;> dsimp only <;> omega
theorem path_odd {p : List Ce} (h : adjL p = true) : ∀ k : Nat, k < p.length → ((k : Int) + (p.getD 0 (0, 0)).1 + (p.getD 0 (0, 0)).2 + (p.getD k (0, 0)).1 + (p.getD k (0, 0)).2) % 2 = 0
  | 0, _ => by omega
  | k + 1, hk => by
    have h1 := path_odd h k (by omega)
    have h2 := adj_odd ((adjL_iff p).1 h k hk)
    omega
end Go.Proofs.Ytpakkjkjppibnaa

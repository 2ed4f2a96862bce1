/- Heat: two banks that grow beside each other, in the law HeatRows. -/
import Derived.Test.YtnaoanmkepcinaaHRowS
namespace Go.Proofs.Ytnaoanmkepcinaa
open Go.RowKit

/-- the two banks on the way -/
def St (w : World) (tb : Nat) (tv : Value) (vs : List Value) (sv : Value) (us : List Value) (m k : List (List Int)) : Prop :=
  OwnT w (tb + 2) tv vs m ∧ OwnT w (tb + 2) sv us k ∧ Apart vs us ∧ Self us ∧
    (w.cell? ⟨tb, 0, none⟩ = some tv ∧ w.frozen? ⟨tb, 0, none⟩ = false) ∧ w.cell? ⟨tb + 1, 0, none⟩ = some sv ∧ w.frozen? ⟨tb + 1, 0, none⟩ = false
theorem St.below {w w' : World} {tb : Nat} {tv : Value} {vs : List Value} {sv : Value} {us : List Value} {m k : List (List Int)} (h : St w tb tv vs sv us m k) (hb : Below w.heap.size w w') : St w' tb tv vs sv us m k := by
  obtain ⟨h1, h2, h3, h4, ⟨h5, h6⟩, h7, h8⟩ := h
  exact ⟨h1.below hb, h2.below hb, h3, h4, ⟨cell_below h5 hb, frozen_below h6 (World.block_lt_of_cell? _ _ h5) hb⟩, cell_below h7 hb, frozen_below h8 (World.block_lt_of_cell? _ _ h7) hb⟩

/-- a cell below all blocks of its own is left by an append -/
theorem cell_low {w w' : World} {B n : Nat} {e : TypeId} {s : Nat} {v u : Value} {xs : List Value} (h : w.ownsRow B e s v n xs) (hg : w.grownBy w' v.ownBlock) {t : Nat} (ht : t < B) (hc : w.cell? ⟨t, 0, none⟩ = some u) (hf : w.frozen? ⟨t, 0, none⟩ = false) :
    w'.cell? ⟨t, 0, none⟩ = some u ∧ w'.frozen? ⟨t, 0, none⟩ = false := by
  have hne : some t ≠ v.ownBlock := fun e => by
    have := (h.lt t e.symm).1
    omega
  exact ⟨hg.cell hc hne, (hg.frozen_far ⟨t, 0, none⟩ (World.block_lt_of_cell? _ _ hc) hne).trans hf⟩

/-- a row more on the first bank, and stored -/
theorem St.one {W w' : World} {tb g g' cap' : Nat} {tv : Value} {vs : List Value} {sv : Value} {us : List Value} {m k : List (List Int)} {x : Value} {r : List Int} (h : St W tb tv vs sv us m k)
    (hx : W.ownsRow (tb + 2) 3 1 x r.length (ints r)) (hxg : x.ownBlock = some g) (hf1 : ∀ (i : Nat) (y : Value), vs[i]? = some y → y.ownBlock ≠ some g) (hf2 : ∀ (i : Nat) (y : Value), us[i]? = some y → y.ownBlock ≠ some g)
    (hg : W.grownBy w' tv.ownBlock) (ho : w'.ownsRow (tb + 2) 28 1 (.slice (some ⟨g', 0, none⟩) (m.length + 1) cap') (m.length + 1) (vs ++ [x])) :
    St (w'.setCell ⟨tb, 0, none⟩ (.slice (some ⟨g', 0, none⟩) (m.length + 1) cap')) tb (.slice (some ⟨g', 0, none⟩) (m.length + 1) cap') (vs ++ [x]) sv us (m ++ [r]) k := by
  obtain ⟨h1, h2, h3, h4, ⟨h5, h6⟩, h7, h8⟩ := h
  obtain ⟨k1, k2, k3, _⟩ := grow_one h1 h2 h3 hx hxg hf1 hf2 hg ho
  obtain ⟨c1, c2⟩ := cell_low h1.top hg (by omega : tb < tb + 2) h5 h6
  obtain ⟨c3, c4⟩ := cell_low h1.top hg (by omega : tb + 1 < tb + 2) h7 h8
  refine ⟨k1.low (show tb < tb + 2 by omega), k2.low (show tb < tb + 2 by omega), k3, h4, ⟨World.cell?_setCell_same _ _ _ c1, by simpa using c2⟩, ?_, by simpa using c4⟩
  rw [World.cell?_setCell_other _ _ _ _ (by simp)]
  exact c3
/-- .. on the second -/
theorem St.two {W w' : World} {tb g g' cap' : Nat} {tv : Value} {vs : List Value} {sv : Value} {us : List Value} {m k : List (List Int)} {x : Value} {r : List Int} (h : St W tb tv vs sv us m k)
    (hx : W.ownsRow (tb + 2) 3 1 x r.length (ints r)) (hxg : x.ownBlock = some g) (hf1 : ∀ (i : Nat) (y : Value), vs[i]? = some y → y.ownBlock ≠ some g) (hf2 : ∀ (i : Nat) (y : Value), us[i]? = some y → y.ownBlock ≠ some g)
    (hg : W.grownBy w' sv.ownBlock) (ho : w'.ownsRow (tb + 2) 28 1 (.slice (some ⟨g', 0, none⟩) (k.length + 1) cap') (k.length + 1) (us ++ [x])) :
    St (w'.setCell ⟨tb + 1, 0, none⟩ (.slice (some ⟨g', 0, none⟩) (k.length + 1) cap')) tb tv vs (.slice (some ⟨g', 0, none⟩) (k.length + 1) cap') (us ++ [x]) m (k ++ [r]) := by
  obtain ⟨h1, h2, h3, h4, ⟨h5, h6⟩, h7, h8⟩ := h
  obtain ⟨k1, k2, k3, k4⟩ := grow_one h2 h1 h3.symm hx hxg hf2 hf1 hg ho
  obtain ⟨c1, c2⟩ := cell_low h2.top hg (by omega : tb < tb + 2) h5 h6
  obtain ⟨c3, c4⟩ := cell_low h2.top hg (by omega : tb + 1 < tb + 2) h7 h8
  refine ⟨k2.low (show tb + 1 < tb + 2 by omega), k1.low (show tb + 1 < tb + 2 by omega), k3.symm, k4 h4, ⟨?_, by simpa using c2⟩, World.cell?_setCell_same _ _ _ c3, by simpa using c4⟩
  rw [World.cell?_setCell_other _ _ _ _ (by simp)]
  exact c1

/-- a row of the second bank written over -/
theorem St.copy {W w' : World} {tb g n cap i : Nat} {tv : Value} {vs : List Value} {sv : Value} {us : List Value} {m k : List (List Int)} {s : List Int} (h : St W tb tv vs sv us m k)
    (hx : us[i]? = some (.slice (some ⟨g, 0, none⟩) n cap)) (hg : W.grownBy w' (some g)) (hs : s.length = n) (ho : w'.ownsRow (tb + 2) 3 1 (.slice (some ⟨g, 0, none⟩) n cap) n (ints s)) :
    St w' tb tv vs sv us m (k.set i s) := by
  obtain ⟨h1, h2, h3, h4, ⟨h5, h6⟩, h7, h8⟩ := h
  have hil := (List.getElem?_eq_some_iff.1 hx).1
  have hlg : tb + 2 ≤ g := (ho.lt g rfl).1
  have hl2 := h2.len
  obtain ⟨q, hq⟩ : ∃ q, k[i]? = some q := ⟨_, List.getElem?_eq_getElem (by omega)⟩
  have hro := h2.row i _ q hx hq
  have ht : ∀ {v : Value} {n' : Nat} {xs : List Value}, W.ownsRow (tb + 2) 28 1 v n' xs → w'.ownsRow (tb + 2) 28 1 v n' xs := fun hv => hv.kept hg (own_ne hv hro (by decide))
  refine ⟨⟨ht h1.top, fun j x r hj hr => ?_, h1.fat, h1.nil⟩, ⟨by rw [List.length_set]; exact ht h2.top, fun j x r hj hr => ?_, h2.fat, fun e => ?_⟩, h3, h4, ⟨hg.cell h5 ?_, (hg.frozen_far _ (World.block_lt_of_cell? _ _ h5) ?_).trans h6⟩, hg.cell h7 ?_, (hg.frozen_far _ (World.block_lt_of_cell? _ _ h7) ?_).trans h8⟩
  · exact (h1.row j x r hj hr).kept hg (.inr (h3 j i x _ hj hx))
  · rw [List.getElem?_set] at hr
    by_cases e : i = j
    · subst e
      rw [if_pos rfl, if_pos (by omega)] at hr
      obtain rfl := Option.some.inj hr
      rw [hx] at hj
      obtain rfl := Option.some.inj hj
      rw [hs]
      exact ho
    · rw [if_neg e] at hr
      exact (h2.row j x r hj hr).kept hg (.inr (h4 j i x _ (fun e' => e e'.symm) hj hx))
  · have : k = [] := List.eq_nil_of_length_eq_zero (by have := congrArg List.length e; simpa using this)
    exact h2.nil this
  all_goals (simp; omega)

theorem set2_from {α : Type} {vs : List α} {i l a : Nat} {x y z : α} (hx : vs[i]? = some x) (hy : vs[l]? = some y) (h : ((vs.set i y).set l x)[a]? = some z) : ∃ b : Nat, vs[b]? = some z := by
  have hz := List.mem_of_getElem? h
  rcases List.mem_or_eq_of_mem_set hz with hz | rfl
  · rcases List.mem_or_eq_of_mem_set hz with hz | rfl
    · obtain ⟨b, hb, e⟩ := List.mem_iff_getElem.1 hz
      exact ⟨b, by rw [List.getElem?_eq_getElem hb, e]⟩
    · exact ⟨l, hy⟩
  · exact ⟨i, hx⟩
/-- two rows of the first bank exchanged -/
theorem St.swap {W : World} {tb g n cap i l : Nat} {vs : List Value} {sv : Value} {us : List Value} {m k : List (List Int)} {x y : Value} {r s : List Int} (h : St W tb (.slice (some ⟨g, 0, none⟩) n cap) vs sv us m k) (hil : i ≠ l)
    (hx : vs[i]? = some x) (hy : vs[l]? = some y) (hr : m[i]? = some r) (hs : m[l]? = some s) :
    St ((W.setCell ⟨g, i, none⟩ y).setCell ⟨g, l, none⟩ x) tb (.slice (some ⟨g, 0, none⟩) n cap) ((vs.set i y).set l x) sv us ((m.set i s).set l r) k := by
  obtain ⟨h1, h2, h3, h4, ⟨h5, h6⟩, h7, h8⟩ := h
  obtain ⟨k1, k2⟩ := h1.swap hil hx hy hr hs
  have hta := top_apart h2 h1 h3.symm
  have hlg : tb + 2 ≤ g := (h1.top.lt g rfl).1
  have hn : n = m.length := by
    rcases h1.top.2 with ⟨h', _⟩ | ⟨_, _, _, h', _⟩
    · simp at h'
    · simp only [Value.slice.injEq] at h'; exact h'.2.1
  have ht := h1.top
  rw [← hn] at ht
  have s1 := ht.stored i y
  have s2 := s1.1.stored l x
  refine ⟨k1, ⟨(h2.top.kept s1.2 hta).kept s2.2 hta, fun j z q hz hq => k2 _ _ _ _ _ _ (by decide) (h2.row j z q hz hq), h2.fat, h2.nil⟩, fun a b z u hz hu => ?_, h4, ⟨?_, by simpa using h6⟩, ?_, by simpa using h8⟩
  · obtain ⟨c, hc⟩ := set2_from hx hy hz
    exact h3 c b z u hc hu
  · rw [World.cell?_setCell_other _ _ _ _ (by intro e; cases e; omega), World.cell?_setCell_other _ _ _ _ (by intro e; cases e; omega)]
    exact h5
  · rw [World.cell?_setCell_other _ _ _ _ (by intro e; cases e; omega), World.cell?_setCell_other _ _ _ _ (by intro e; cases e; omega)]
    exact h7

end Go.Proofs.Ytnaoanmkepcinaa

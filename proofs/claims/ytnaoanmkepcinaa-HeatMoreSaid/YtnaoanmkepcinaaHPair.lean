/- Heat: two tables of rows that grow beside each other. -/
import Derived.Test.YtnaoanmkepcinaaHInv
namespace Go.Proofs.Ytnaoanmkepcinaa
open Go.RowKit

/-- a table of rows, its rows in blocks of the call's own -/
structure OwnT (w : World) (B : Nat) (v : Value) (vs : List Value) (m : List (List Int)) : Prop where
  top : w.ownsRow B 28 1 v m.length vs
  row : ∀ (i : Nat) (x : Value) (r : List Int), vs[i]? = some x → m[i]? = some r → w.ownsRow B 3 1 x r.length (ints r)
  fat : ∀ (i : Nat) (x : Value), vs[i]? = some x → ∃ g, x.ownBlock = some g
  nil : m = [] → v = .slice none 0 0
theorem OwnT.len {w : World} {B : Nat} {v : Value} {vs : List Value} {m : List (List Int)} (h : OwnT w B v vs m) : vs.length = m.length := by have := h.top.1; simpa using this
theorem OwnT.below {w w' : World} {B : Nat} {v : Value} {vs : List Value} {m : List (List Int)} (h : OwnT w B v vs m) (hb : Below w.heap.size w w') : OwnT w' B v vs m :=
  ⟨own_below h.top hb, fun i x r hx hr => own_below (h.row i x r hx hr) hb, h.fat, h.nil⟩
theorem OwnT.empty (w : World) (B : Nat) : OwnT w B (.slice none 0 0) [] [] := ⟨World.ownsRow_nil _ _ _ _, fun i x r hx _ => by simp at hx, fun i x hx => by simp at hx, fun _ => rfl⟩
theorem OwnT.rd {w : World} {B : Nat} {v : Value} {vs : List Value} {m : List (List Int)} (h : OwnT w B v vs m) : RdM w v m :=
  ⟨vs, Rd.own h.top, h.len, fun i x r hx hr => Rd.own (h.row i x r hx hr)⟩
/-- what was at hand when a block was made lies in another -/
theorem OwnT.old {w : World} {B : Nat} {v : Value} {vs : List Value} {m : List (List Int)} (h : OwnT w B v vs m) {i : Nat} {x : Value} (hx : vs[i]? = some x) {g : Nat} (hg : w.heap.size ≤ g) : x.ownBlock ≠ some g := by
  obtain ⟨r, hr⟩ : ∃ r, m[i]? = some r := ⟨_, List.getElem?_eq_getElem (by have := (List.getElem?_eq_some_iff.1 hx).1; rw [← h.len]; exact this)⟩
  intro e
  have := ((h.row i x r hx hr).lt g e).2
  omega
/-- a store below all blocks of its own leaves it -/
theorem own_low {w : World} {B n : Nat} {e : TypeId} {s : Nat} {v u : Value} {xs : List Value} (h : w.ownsRow B e s v n xs) {a : Addr} (ha : a.block < B) : (w.setCell a u).ownsRow B e s v n xs := by
  refine h.kept (row := some a.block) ⟨rfl, rfl, rfl, by simp, fun k _ hk => heap_setCell_other w a k u (fun e => hk (by simp [e]))⟩ (.inr fun e => ?_)
  have := (h.lt a.block e).1
  omega
theorem OwnT.low {w : World} {B : Nat} {v u : Value} {vs : List Value} {m : List (List Int)} (h : OwnT w B v vs m) {a : Addr} (ha : a.block < B) : OwnT (w.setCell a u) B v vs m :=
  ⟨own_low h.top ha, fun i x r hx hr => own_low (h.row i x r hx hr) ha, h.fat, h.nil⟩

/-- rows of two tables lie apart -/
def Apart (vs us : List Value) : Prop := ∀ (i j : Nat) (x y : Value), vs[i]? = some x → us[j]? = some y → x.ownBlock ≠ y.ownBlock
/-- the rows of one table lie apart -/
def Self (vs : List Value) : Prop := ∀ (i j : Nat) (x y : Value), i ≠ j → vs[i]? = some x → vs[j]? = some y → x.ownBlock ≠ y.ownBlock
theorem Apart.symm {vs us : List Value} (h : Apart vs us) : Apart us vs := fun i j x y hx hy e => h j i y x hy hx e.symm
/-- the two tops lie apart -/
theorem top_apart {w : World} {B B' : Nat} {v u : Value} {vs us : List Value} {m k : List (List Int)} (h : OwnT w B v vs m) (h' : OwnT w B' u us k) (ha : Apart vs us) : v.ownBlock = none ∨ v.ownBlock ≠ u.ownBlock := by
  match hm : m, hk : k with
  | [], _ => rw [h.nil rfl]; exact .inl rfl
  | r :: m, [] =>
    rw [h'.nil rfl]
    cases hv : v.ownBlock with
    | none => exact .inl rfl
    | some g => exact .inr (by simp [Value.ownBlock])
  | r :: m, s :: k =>
    obtain ⟨g1, c1, rfl, _, _⟩ := own_some h.top (by simp)
    obtain ⟨g2, c2, rfl, _, _⟩ := own_some h'.top (by simp)
    refine .inr fun e => ?_
    simp [Value.ownBlock] at e
    subst e
    have l1 := h.len
    have l2 := h'.len
    simp only [List.length_cons] at l1 l2
    obtain ⟨x, hx⟩ : ∃ x, vs[0]? = some x := ⟨_, List.getElem?_eq_getElem (by omega)⟩
    obtain ⟨y, hy⟩ : ∃ y, us[0]? = some y := ⟨_, List.getElem?_eq_getElem (by omega)⟩
    have e1 := h.top.cellAt 0 (by simp)
    have e2 := h'.top.cellAt 0 (by simp)
    rw [e1] at e2
    rw [hx, hy] at e2
    obtain rfl := Option.some.inj e2
    exact ha 0 0 x x hx hy rfl

theorem snoc_get {α : Type} {l : List α} {x y : α} {i : Nat} (h : (l ++ [x])[i]? = some y) : (l[i]? = some y ∧ i < l.length) ∨ (i = l.length ∧ y = x) := by
  by_cases hi : i < l.length
  · rw [List.getElem?_append_left hi] at h
    exact .inl ⟨h, hi⟩
  · rw [List.getElem?_append_right (by omega)] at h
    obtain ⟨j, hj⟩ : ∃ j, j = i - l.length := ⟨_, rfl⟩
    rw [← hj] at h
    match j, h with
    | 0, h => simp at h; exact .inr ⟨by omega, h.symm⟩
    | j + 1, h => simp at h

/-- A row more on one of two tables. -/
theorem grow_one {W w' : World} {B g : Nat} {v v' u x : Value} {vs us : List Value} {m k : List (List Int)} {r : List Int} (h : OwnT W B v vs m) (h' : OwnT W B u us k) (ha : Apart vs us)
    (hx : W.ownsRow B 3 1 x r.length (ints r)) (hxg : x.ownBlock = some g) (hf1 : ∀ (i : Nat) (y : Value), vs[i]? = some y → y.ownBlock ≠ some g) (hf2 : ∀ (i : Nat) (y : Value), us[i]? = some y → y.ownBlock ≠ some g)
    (hg : W.grownBy w' v.ownBlock) (ho : w'.ownsRow B 28 1 v' (m.length + 1) (vs ++ [x])) :
    OwnT w' B v' (vs ++ [x]) (m ++ [r]) ∧ OwnT w' B u us k ∧ Apart (vs ++ [x]) us ∧ (Self vs → Self (vs ++ [x])) := by
  have hl := h.len
  refine ⟨⟨by rw [List.length_append]; exact ho, fun i y s hy hs => ?_, fun i y hy => ?_, fun e => by simp at e⟩, ⟨h'.top.kept hg (top_apart h' h ha.symm), fun i y s hy hs => (h'.row i y s hy hs).kept hg (own_ne (h'.row i y s hy hs) h.top (by decide)), h'.fat, h'.nil⟩, fun i j y z hy hz => ?_, fun hself i j y z hij hy hz => ?_⟩
  · rcases snoc_get hy with ⟨hy, hi⟩ | ⟨rfl, rfl⟩
    · rw [List.getElem?_append_left (by omega)] at hs
      exact (h.row i y s hy hs).kept hg (own_ne (h.row i y s hy hs) h.top (by decide))
    · rw [List.getElem?_append_right (by omega), hl, Nat.sub_self] at hs
      simp at hs
      subst hs
      exact hx.kept hg (own_ne hx h.top (by decide))
  · rcases snoc_get hy with ⟨hy, _⟩ | ⟨_, rfl⟩
    · exact h.fat i y hy
    · exact ⟨g, hxg⟩
  · rcases snoc_get hy with ⟨hy, _⟩ | ⟨_, rfl⟩
    · exact ha i j y z hy hz
    · rw [hxg]; exact fun e => hf2 j z hz e.symm
  · rcases snoc_get hy with ⟨hy', _⟩ | ⟨ey, ey'⟩
    · rcases snoc_get hz with ⟨hz', _⟩ | ⟨_, ez⟩
      · exact hself i j y z hij hy' hz'
      · rw [ez, hxg]; exact hf1 i y hy'
    · rcases snoc_get hz with ⟨hz', _⟩ | ⟨ez, _⟩
      · rw [ey', hxg]; exact fun e => hf1 j z hz' e.symm
      · exact absurd (ey.trans ez.symm) hij

end Go.Proofs.Ytnaoanmkepcinaa

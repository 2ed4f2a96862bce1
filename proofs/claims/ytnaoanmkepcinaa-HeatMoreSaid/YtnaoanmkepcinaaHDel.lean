/- Heat: slices.Clone, slices.Delete at []int; without. -/
import Derived.Test.YtnaoanmkepcinaaHLists
import Derived.Shelf.SlicesE.Delete
import Derived.Sort.OwnSortedInts
namespace Go.Proofs.Ytnaoanmkepcinaa
open Go.RowKit Go.Shelf

def Try.eDel_ren : Go.Shelf.Ren := ⟨fun | 45 => 82 | n => n, fun | 22 => 28 | 23 => 3 | 3 => 3 | 4 => 4 | 0 => 0 | n => n, fun | n => n⟩
theorem Try.eDel : Go.Proofs.SlLaysE.n45 Try.prog Try.eDel_ren := {
  mixed := by kernel_rfl
  f45 := ⟨Try.f82.name, by decide, Try.func82.trans (congrArg some (by kernel_rfl))⟩
  t0 := Try.underlying0
  a0 := Try.isAgg0
  z0 := Try.sizeOf0
  v0 := Try.zeroValue0
  t3 := Try.underlying3
  a3 := Try.isAgg3
  z3 := Try.sizeOf3
  v3 := Try.zeroValue3
  t4 := Try.underlying4
  a4 := Try.isAgg4
  z4 := Try.sizeOf4
  v4 := Try.zeroValue4
  t22 := Try.underlying28
  a22 := Try.isAgg28
  z22 := Try.sizeOf28
  v22 := Try.zeroValue28
  a23 := Try.isAgg3
  z23 := Try.sizeOf3 }

theorem clone_any (v : Value) (l : List Int) (w : World) (hv : Rd w v (ints l)) (hs : l.length ≤ 1000) (h0 : 0 < l.length) :
    Calls Try.prog 54 #[v] w fun e w' => ∃ u, e = .returned u ∧ w'.ownsRow w.heap.size 3 1 u l.length (ints l) ∧ Below w.heap.size w w' := by
  have HV := Lib.hid hv
  obtain ⟨a, cap, rfl, hc, hcm, ha, _⟩ := hv
  rw [ints_length] at *
  obtain ⟨b, off, rfl, _⟩ := ha.cell (j := 0) (by rw [ints_length]; exact h0)
  have hq := fun n c => Lib.run_eql_slice_nil (P := Try.prog) w 28 3 (some ⟨b, off, none⟩) n c 0 0 Try.underlying28
  go_enter Try.func54, Try.ntmps54
  go_wp2_with (at_builtin; refine appS el_int rfl rfl (w0 := w) rfl rfl (by exact (Below.refl _ _).alloc (Nat.le_refl _) _) (by exact own_lit w w.heap.size _ _ 0 (Nat.le_refl _) rfl (by decide)) (by exact HV.out.below ((Below.refl _ _).alloc (Nat.le_refl _) _) (Nat.le_refl _)) (by exact ints_cell l) (by rw [ints_length]; omega) ?_; intro v1 w1 ho1 hb1 _)
  go_ret
  rw [ints_length, Nat.zero_add] at ho1
  exact ⟨_, rfl, ho1, hb1⟩

theorem del_list (l : List Int) (k : Nat) (hk : k < l.length) : (l.take k ++ l.drop (k + 1) ++ List.replicate (k + 1 - k) 0).take (l.length - 1) = l.eraseIdx k := by
  rw [List.eraseIdx_eq_take_drop_succ]
  exact List.take_left' (by simp; omega)

theorem del_any (l : List Int) (B g n cap k : Nat) (w : World) (ho : w.ownsRow B 3 1 (.slice (some ⟨g, 0, none⟩) n cap) n (ints l)) (hk : k < n) :
    Calls Try.prog 82 #[.slice (some ⟨g, 0, none⟩) n cap, .int .i64 (k : Nat), .int .i64 ((k : Int) + 1)] w fun e w' => ∃ u, e = .returned u ∧
      w'.ownsRow B 3 1 u (n - 1) (ints (l.eraseIdx k)) ∧ w.grownBy w' (some g) := by
  obtain ⟨hl, h⟩ := ho
  rw [ints_length, Nat.mul_one] at hl
  subst hl
  rcases h with ⟨h, _⟩ | ⟨g', cap', cur, hv, hg, hh, h1, h2, h3, h4⟩
  · cases h
  simp only [Value.slice.injEq, Option.some.injEq, Addr.mk.injEq, and_true, true_and] at hv
  obtain ⟨rfl, rfl⟩ := hv
  rw [Nat.mul_one] at h4
  have hH := holds_of_blockI (ss := l) hh h4
  have hi : ∃ i0, Try.prog.info? 3 = some i0 ∧ i0.size = 1 := by
    obtain ⟨i, e1, _, e2, _⟩ := el_int.info; exact ⟨i, e1, e2⟩
  obtain ⟨i0, hi0, hi1⟩ := hi
  have hm : maxLen ≤ 9223372036854775807 := by decide
  have hcon := AnyE.slices_Delete Try.eDel (Value.int .i64) (fun _ => rfl) (0 : Int) (fun w => by kernel_rfl) i0 hi0 hi1 g 0 cap k (k + 1) l.toArray w hH (by simpa using h1) (by omega) (by omega) (by simp; omega)
  change Calls Try.prog 82 _ _ _ at hcon
  rw [List.size_toArray] at hcon
  refine hcon.mono ?_
  rintro e w' ⟨rfl, q, rfl⟩
  have ho := ownsRow_sortedI (w := w) (base := B) (n := q) (os := #[]) (ss := l) (ts := l.take k ++ l.drop (k + 1) ++ List.replicate (k + 1 - k) 0) (by simp; omega) hg hh h1 h2 h3
  have hgr := grownBy_sortedI (w := w) (g := g) (n := q) (os := #[]) (l.take k ++ l.drop (k + 1) ++ List.replicate (k + 1 - k) 0).toArray
  rw [Go.Sort.grow_empty] at ho hgr
  have hp := own_pre ho (l.length - 1) (by omega)
  refine ⟨_, rfl, ?_, hgr⟩
  have e1 : l.length - (k + 1 - k) = l.length - 1 := by omega
  rw [e1, ← del_list l k hk]
  unfold ints
  rw [List.map_take]
  exact hp

/-- A matrix whose blocks are the call's own. -/
def OwnM (w : World) (B : Nat) (v : Value) (m : List (List Int)) : Prop :=
  ∃ vs, w.ownsRow B 28 1 v m.length vs ∧ ∀ (i : Nat) (x : Value) (r : List Int), vs[i]? = some x → m[i]? = some r → w.ownsRow B 3 1 x r.length (ints r)
theorem OwnM.rd {w : World} {B : Nat} {v : Value} {m : List (List Int)} (h : OwnM w B v m) : RdM w v m := by
  obtain ⟨vs, h1, h2⟩ := h
  exact ⟨vs, Rd.own h1, by simpa using h1.1, fun i x r hx hr => Rd.own (h2 i x r hx hr)⟩
theorem OwnM.below {w w' : World} {B : Nat} {v : Value} {m : List (List Int)} (h : OwnM w B v m) (hb : Below w.heap.size w w') : OwnM w' B v m := by
  obtain ⟨vs, h1, h2⟩ := h
  exact ⟨vs, own_below h1 hb, fun i x r hx hr => own_below (h2 i x r hx hr) hb⟩
theorem OwnM.nil (w : World) (B : Nat) : OwnM w B (.slice none 0 0) [] := ⟨[], World.ownsRow_nil _ _ _ _, fun i x r hx _ => by simp at hx⟩
/-- what is owned and not empty has a block of its own -/
theorem own_some {w : World} {B n : Nat} {e : TypeId} {size : Nat} {v : Value} {xs : List Value} (h : w.ownsRow B e size v n xs) (hn : 0 < n) : ∃ g c, v = .slice (some ⟨g, 0, none⟩) n c ∧ B ≤ g ∧ g < w.heap.size := by
  have := h.lt
  rcases h.2 with ⟨_, rfl⟩ | ⟨g, cap, cur, rfl, hg, _⟩
  · omega
  · exact ⟨g, cap, rfl, this g rfl⟩
/-- Blocks of two element types are two. -/
theorem own_ne {w : World} {B B' n n' s s' : Nat} {e e' : TypeId} {v v' : Value} {xs xs' : List Value} (h : w.ownsRow B e s v n xs) (h' : w.ownsRow B' e' s' v' n' xs') (hne : e ≠ e') : v.ownBlock = none ∨ v.ownBlock ≠ v'.ownBlock := by
  rcases h.2 with ⟨rfl, _⟩ | ⟨g, cap, cur, rfl, _, hg, _⟩
  · exact .inl rfl
  · refine .inr fun e => ?_
    rcases h'.2 with ⟨rfl, _⟩ | ⟨g', cap', cur', rfl, _, hg', _⟩
    · simp [Value.ownBlock] at e
    · simp [Value.ownBlock] at e
      subst e
      rw [hg] at hg'
      simp at hg'
      exact hne hg'.2
/-- One more row. -/
theorem OwnM.snoc {W w' : World} {B : Nat} {v v' x : Value} {m : List (List Int)} {r : List Int} {vs : List Value} (h1 : W.ownsRow B 28 1 v m.length vs)
    (h2 : ∀ (i : Nat) (x : Value) (r : List Int), vs[i]? = some x → m[i]? = some r → W.ownsRow B 3 1 x r.length (ints r)) (hx : W.ownsRow B 3 1 x r.length (ints r))
    (hg : W.grownBy w' v.ownBlock) (ho : w'.ownsRow B 28 1 v' (m.length + 1) (vs ++ [x])) : OwnM w' B v' (m ++ [r]) := by
  have hl : vs.length = m.length := by simpa using h1.1
  refine ⟨vs ++ [x], by rw [List.length_append]; exact ho, fun i y s hy hs => ?_⟩
  by_cases hi : i < m.length
  · rw [List.getElem?_append_left (by omega)] at hy
    rw [List.getElem?_append_left hi] at hs
    exact (h2 i y s hy hs).kept hg (own_ne (h2 i y s hy hs) h1 (by decide))
  · rw [List.getElem?_append_right (by omega)] at hy hs
    rw [hl] at hy
    obtain ⟨j, hj⟩ : ∃ j, j = i - m.length := ⟨_, rfl⟩
    rw [← hj] at hy hs
    match j, hy, hs with
    | 0, hy, hs =>
      simp at hy hs
      subst hy hs
      exact hx.kept hg (own_ne hx h1 (by decide))
    | j + 1, hy, _ => simp at hy

/-- a matrix without a row and a column -/
def wo (m : List (List Int)) (row col : Nat) : List (List Int) := (m.eraseIdx row).map fun r => r.eraseIdx col
theorem wo_take (m : List (List Int)) (row col k : Nat) (r : List Int) (h : m[k]? = some r) : wo (m.take (k + 1)) row col = if k = row then wo (m.take k) row col else wo (m.take k) row col ++ [r.eraseIdx col] := by
  have hk : k < m.length := (List.getElem?_eq_some_iff.1 h).1
  have ht : (m.take k).length = k := by rw [List.length_take]; omega
  unfold wo
  rw [List.take_add_one, h]
  show List.map _ ((m.take k ++ [r]).eraseIdx row) = _
  by_cases e : k = row
  · rw [if_pos e]
    subst e
    rw [List.eraseIdx_append_of_length_le (by omega), ht, Nat.sub_self, List.eraseIdx_of_length_le (l := m.take k) (by omega)]
    simp
  · rw [if_neg e]
    by_cases e2 : row < k
    · rw [List.eraseIdx_append_of_lt_length (by omega), List.map_append]; rfl
    · rw [List.eraseIdx_append_of_length_le (by omega), List.eraseIdx_of_length_le (l := m.take k) (by omega), ht, List.eraseIdx_of_length_le (l := [r]) (by simp; omega), List.map_append]; rfl

end Go.Proofs.Ytnaoanmkepcinaa

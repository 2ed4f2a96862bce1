/- Layout: the field holds the least costs: plain. -/
import Derived.Test.YtpakkjkjppibnaaGDist
namespace Go.Proofs.Ytpakkjkjppibnaa
open Go.RowKit

theorem beside_back (c : Int × Int) {d : Nat} (hd : d < 4) : besideP (besideP c (d + 2)) d = c := by
  obtain ⟨x, y⟩ := c
  rcases (by omega : d = 0 ∨ d = 1 ∨ d = 2 ∨ d = 3) with rfl | rfl | rfl | rfl <;> simp [besideP]
theorem beside_back' (c : Int × Int) {d : Nat} (hd : d < 4) : besideP (besideP c d) (d + 2) = c := by
  obtain ⟨x, y⟩ := c
  rcases (by omega : d = 0 ∨ d = 1 ∨ d = 2 ∨ d = 3) with rfl | rfl | rfl | rfl <;> simp [besideP]
theorem cell_on {g : Gr} (h : GrOk g) {i : Nat} (hi : i < g.w * g.h) : onP g.w g.h (cellP g i) = true := by
  have e1 : i % g.w < g.w := Nat.mod_lt _ h.w1
  have e2 : i / g.w < g.h := Nat.div_lt_of_lt_mul hi
  unfold onP cellP
  generalize i % g.w = r at *
  generalize i / g.w = q at *
  simp
  omega
theorem index_cell {g : Gr} (_h : GrOk g) (i : Nat) : indexP g (cellP g i) = i := by
  have := Nat.mod_add_div i g.w
  unfold indexP cellP
  dsimp only
  have e : ((i % g.w : Nat) : Int) + ((g.w * (i / g.w) : Nat) : Int) = i := by exact_mod_cast this
  rw [Int.natCast_mul, Int.mul_comm] at e
  omega
theorem cell_index {g : Gr} (h : GrOk g) {c : Int × Int} (hc : onP g.w g.h c = true) : cellP g (indexP g c).toNat = c := by
  have h1 := h.index hc
  have hi : (indexP g c).toNat < g.w * g.h := by have := h1.2.2.2.2; omega
  have h2 := index_cell h (indexP g c).toNat
  have h3 : indexP g c = ((indexP g c).toNat : Int) := by have := h1.2.2.2.2.1; omega
  refine index_inj (cell_on h hi) hc ?_
  change indexP g (cellP g (indexP g c).toNat) = indexP g c
  rw [h2]; exact h3.symm

/-- a way on from a cell, come to by a direction, to a place, and what it costs -/
inductive Wk (g : Gr) (to : Int × Int) : Int × Int → Nat → Int → Prop
  | base (d : Nat) (hd : d < 4) : Wk g to to d 0
  | step (c : Int × Int) (d : Nat) (v : Int) (e : Nat) (h : Wk g to c d v) (ho : openP g (besideP c (d + 2)) = true) (he : e < 4) : Wk g to (besideP c (d + 2)) e (v + stepP g e d)
theorem Wk.dir {g : Gr} {to c : Int × Int} {d : Nat} {v : Int} (h : Wk g to c d v) : d < 4 := by
  cases h <;> assumption
theorem Wk.op {g : Gr} {to c : Int × Int} {d : Nat} {v : Int} (h : Wk g to c d v) (ht : openP g to = true) : openP g c = true := by
  cases h <;> assumption
theorem Wk.nonneg {g : Gr} (hg : GrOk g) {to c : Int × Int} {d : Nat} {v : Int} (h : Wk g to c d v) : 0 ≤ v := by
  induction h with
  | base => exact Int.le_refl _
  | step c d v e h ho he ih => have := (stepP_le hg e d).1; omega

structure Snd (g : Gr) (to : Int × Int) (s : List Pl × List (List Int)) : Prop where
  hp : ∀ e ∈ s.1, Wk g to (cellP g e.1.toNat) e.2.1.toNat e.2.2
  out : ∀ i d, i < g.w * g.h → d < 4 → 0 ≤ outGet s.2 i d → Wk g to (cellP g i) d (outGet s.2 i d)
def Cov (s : List Pl × List (List Int)) (i d : Nat) (v : Int) : Prop :=
  (0 ≤ outGet s.2 i d ∧ outGet s.2 i d ≤ v) ∨ ∃ x ∈ s.1, x.1 = i ∧ x.2.1 = d ∧ x.2.2 ≤ v
structure DI (g : Gr) (to : Int × Int) (s : List Pl × List (List Int)) : Prop where
  heap : HeapTo s.1 s.1.length
  mono : ∀ i d, i < g.w * g.h → d < 4 → 0 ≤ outGet s.2 i d → ∀ e ∈ s.1, outGet s.2 i d ≤ e.2.2
  start : ∀ d, d < 4 → Cov s (indexP g to).toNat d 0
  next : ∀ i d, i < g.w * g.h → d < 4 → 0 ≤ outGet s.2 i d → openP g (besideP (cellP g i) (d + 2)) = true → ∀ e, e < 4 → Cov s (indexP g (besideP (cellP g i) (d + 2))).toNat e (outGet s.2 i d + stepP g e d)

theorem turn_di {g : Gr} (hg : GrOk g) {to : Int × Int} {s : List Pl × List (List Int)} (h : FInv g s) (hs : Snd g to s) (hd : DI g to s) (hn : 0 < s.1.length) : Snd g to (turnP g s) ∧ DI g to (turnP g s) := by
  have hx : popX s.1 ∈ s.1 := (pop_mem hn _).2 (.inl rfl)
  have hr : ∀ e ∈ popR s.1, e ∈ s.1 := fun e he => (pop_mem hn _).2 (.inr he)
  have hmin : ∀ e ∈ s.1, (popX s.1).2.2 ≤ e.2.2 := fun e he => pop_min hn hd.heap e he
  have hph := pop_heap hn hd.heap
  have hin : ∀ e ∈ s.1, e = popX s.1 ∨ e ∈ popR s.1 := fun e he => (pop_mem hn _).1 he
  have hwx := hs.hp _ hx
  obtain ⟨x1, x2, x3, x4, x5, x6⟩ := h.hp _ hx
  obtain ⟨i, hi⟩ : ∃ i : Nat, (popX s.1).1 = i := ⟨(popX s.1).1.toNat, by omega⟩
  obtain ⟨d, hd'⟩ : ∃ d : Nat, (popX s.1).2.1 = d := ⟨(popX s.1).2.1.toNat, by omega⟩
  obtain ⟨c, hc⟩ : ∃ c, (popX s.1).2.2 = c := ⟨_, rfl⟩
  rw [hc] at x5
  rw [hi, hd', hc, Int.toNat_natCast, Int.toNat_natCast] at hwx
  have hiN : i < g.w * g.h := by rw [hi] at x2; exact_mod_cast x2
  have hd4 : d < 4 := by omega
  have hrow := h.row i hiN
  unfold turnP
  simp only [hi, hd', hc, Int.toNat_natCast]
  by_cases hset : 0 ≤ outGet s.2 i d
  · rw [if_pos hset]
    have hcov : ∀ j e v, Cov s j e v → Cov (popR s.1, s.2) j e v := fun j e v hv => by
      rcases hv with hv | ⟨x, h1, h2, h3, h4⟩
      · exact .inl hv
      · rcases hin x h1 with rfl | h5
        · rw [hi] at h2; rw [hd'] at h3
          obtain rfl : i = j := by exact_mod_cast h2
          obtain rfl : d = e := by exact_mod_cast h3
          exact .inl ⟨hset, Int.le_trans (hd.mono i d hiN hd4 hset _ hx) h4⟩
        · exact .inr ⟨x, h5, h2, h3, h4⟩
    exact ⟨⟨fun e he => hs.hp e (hr e he), hs.out⟩, ⟨hph, fun j e hj he h0 x hx' => hd.mono j e hj he h0 x (hr x hx'), fun e he => hcov _ _ _ (hd.start e he), fun j e hj he h0 ho f hf => hcov _ _ _ (hd.next j e hj he h0 ho f hf)⟩⟩
  · rw [if_neg hset]
    have hget : ∀ j e, outGet (outSet s.2 i d c) j e = if j = i ∧ e = d then c else outGet s.2 j e := outSet_get (by rw [h.len]; exact hiN) (by omega)
    -- what holds for any heap that has the rest
    have main : ∀ l : List Pl, HeapTo l l.length → (∀ e ∈ popR s.1, e ∈ l) → (∀ e ∈ l, e ∈ popR s.1 ∨ (c ≤ e.2.2 ∧ Wk g to (cellP g e.1.toNat) e.2.1.toNat e.2.2)) →
        (openP g (besideP (cellP g i) (d + 2)) = true → ∀ e : Nat, e < 4 → ∃ x ∈ l, x.1 = ((indexP g (besideP (cellP g i) (d + 2))).toNat : Int) ∧ x.2.1 = (e : Int) ∧ x.2.2 ≤ c + stepP g e d) →
        Snd g to (l, outSet s.2 i d c) ∧ DI g to (l, outSet s.2 i d c) := fun l hl hsub hnew hback => by
      have hcov : ∀ j e v, Cov s j e v → Cov (l, outSet s.2 i d c) j e v := fun j e v hv => by
        rcases hv with ⟨h1, h2⟩ | ⟨x, h1, h2, h3, h4⟩
        · left
          dsimp only
          rw [hget]
          split
          · next he => obtain ⟨rfl, rfl⟩ := he; exact absurd h1 hset
          · exact ⟨h1, h2⟩
        · rcases hin x h1 with rfl | h5
          · rw [hi] at h2; rw [hd'] at h3; rw [hc] at h4
            obtain rfl : i = j := by exact_mod_cast h2
            obtain rfl : d = e := by exact_mod_cast h3
            left
            dsimp only
            rw [hget, if_pos ⟨rfl, rfl⟩]
            exact ⟨x5, h4⟩
          · exact .inr ⟨x, hsub x h5, h2, h3, h4⟩
      refine ⟨⟨fun e he => ?_, fun j e hj he h0 => ?_⟩, ⟨hl, fun j e hj he h0 x hx' => ?_, fun e he => hcov _ _ _ (hd.start e he), fun j e hj he h0 ho f hf => ?_⟩⟩
      · rcases hnew e he with h1 | h1
        · exact hs.hp e (hr e h1)
        · exact h1.2
      · dsimp only at h0 ⊢
        rw [hget] at h0 ⊢
        split
        · next he' => obtain ⟨rfl, rfl⟩ := he'; exact hwx
        · next he' => rw [if_neg he'] at h0; exact hs.out j e hj he h0
      · dsimp only at h0 hx' ⊢
        rw [hget] at h0 ⊢
        have hcx : c ≤ x.2.2 := by
          rcases hnew x hx' with h1 | h1
          · rw [← hc]; exact hmin x (hr x h1)
          · exact h1.1
        split
        · exact hcx
        · next he' =>
          rw [if_neg he'] at h0
          have := hd.mono j e hj he h0 _ hx
          rw [hc] at this
          omega
      · dsimp only at h0 ho ⊢
        rw [hget] at h0 ⊢
        split
        · next he' =>
          obtain ⟨rfl, rfl⟩ := he'
          obtain ⟨x, h1, h2, h3, h4⟩ := hback ho f hf
          exact .inr ⟨x, h1, h2, h3, h4⟩
        · next he' => rw [if_neg he'] at h0; exact hcov _ _ _ (hd.next j e hj he h0 ho f hf)
    by_cases ho : openP g (besideP (cellP g i) (d + 2)) = true
    · rw [if_pos ho]
      have hon : onP g.w g.h (besideP (cellP g i) (d + 2)) = true := openP_on ho
      have hix := hg.index hon
      change Snd g to (pushesP (popR s.1) (fun k => (indexP g (besideP (cellP g i) (d + 2)), (k : Int), c + stepP g k d)) 4, outSet s.2 i d c) ∧ DI g to (pushesP (popR s.1) (fun k => (indexP g (besideP (cellP g i) (d + 2)), (k : Int), c + stepP g k d)) 4, outSet s.2 i d c)
      refine main _ (pushesP_heap _ hph 4) (fun e he => (pushesP_mem _ _ _ _).2 (.inr he)) (fun e he => ?_) (fun _ e he => ?_)
      · rcases (pushesP_mem _ _ _ _).1 he with ⟨k, hk, rfl⟩ | he
        · right
          have := (stepP_le hg k d).1
          refine ⟨by dsimp only; omega, ?_⟩
          dsimp only
          rw [cell_index hg hon, Int.toNat_natCast]
          exact Wk.step _ _ _ k hwx ho hk
        · exact .inl he
      · refine ⟨_, (pushesP_mem _ _ _ _).2 (.inl ⟨e, he, rfl⟩), ?_, rfl, Int.le_refl _⟩
        have := hix.2.2.2.2.1
        dsimp only; omega
    · rw [if_neg ho]
      exact main _ hph (fun e he => he) (fun e he => .inl he) (fun h1 => absurd h1 ho)

theorem startP_eq (g : Gr) (to : Int × Int) : startP g to = (pushesP [] (fun d => (indexP g to, (d : Int), 0)) 4, List.replicate (g.w * g.h) [-1, -1, -1, -1]) := rfl
theorem no_start (n i d : Nat) (hi : i < n) (hd : d < 4) : ¬ 0 ≤ outGet (List.replicate n [-1, -1, -1, -1]) i d := by
  unfold outGet
  rw [List.getD_eq_getElem?_getD (l := List.replicate n [-1, -1, -1, -1]), List.getElem?_replicate, if_pos hi]
  rcases (by omega : d = 0 ∨ d = 1 ∨ d = 2 ∨ d = 3) with rfl | rfl | rfl | rfl <;> decide
theorem heap_nil : HeapTo ([] : List Pl) ([] : List Pl).length := fun _ _ h2 => absurd h2 (Nat.not_lt_zero _)
theorem start_di {g : Gr} (hg : GrOk g) {to : Int × Int} (ht : onP g.w g.h to = true) : Snd g to (startP g to) ∧ DI g to (startP g to) := by
  have hix := hg.index ht
  have hmem : ∀ y, y ∈ pushesP [] (fun d => (indexP g to, (d : Int), 0)) 4 ↔ ∃ d : Nat, d < 4 ∧ y = (indexP g to, (d : Int), 0) := fun y => by
    rw [pushesP_mem]; simp
  have hheap := pushesP_heap (fun d => (indexP g to, (d : Int), 0)) heap_nil 4
  rw [startP_eq]
  generalize pushesP [] (fun d => (indexP g to, (d : Int), 0)) 4 = l at hmem hheap
  refine ⟨⟨fun e he => ?_, fun i d hi hd h0 => absurd h0 (no_start _ i d hi hd)⟩, ⟨hheap, fun i d hi hd h0 => absurd h0 (no_start _ i d hi hd), fun d hd => ?_, fun i d hi hd h0 => absurd h0 (no_start _ i d hi hd)⟩⟩
  · obtain ⟨k, hk, rfl⟩ := (hmem e).1 he
    dsimp only
    rw [cell_index hg ht, Int.toNat_natCast]
    exact Wk.base k hk
  · right
    refine ⟨(indexP g to, (d : Int), 0), (hmem _).2 ⟨d, hd, rfl⟩, ?_, rfl, Int.le_refl _⟩
    have := hix.2.2.2.2.1
    dsimp only; omega
theorem loopP_di {g : Gr} (hg : GrOk g) {to : Int × Int} : ∀ (f : Nat) (s : List Pl × List (List Int)), FInv g s → Snd g to s → DI g to s → Snd g to (loopP g f s) ∧ DI g to (loopP g f s)
  | 0, s, _, h2, h3 => ⟨h2, h3⟩
  | f + 1, s, h1, h2, h3 => by
    unfold loopP
    by_cases h0 : s.1.length = 0
    · rw [if_pos h0]; exact ⟨h2, h3⟩
    · rw [if_neg h0]
      obtain ⟨h4, h5⟩ := turn_di hg h1 h2 h3 (by omega)
      exact loopP_di hg f _ (turn_inv hg h1 (by omega)).1 h4 h5
theorem fieldP_di {g : Gr} (hg : GrOk g) {to : Int × Int} (ht : onP g.w g.h to = true) : Snd g to ([], fieldP g to) ∧ DI g to ([], fieldP g to) := by
  obtain ⟨h1, h2⟩ := start_inv hg ht
  obtain ⟨h3, h4⟩ := loopP_inv hg _ _ h1 (Nat.le_of_eq h2)
  obtain ⟨h5, h6⟩ := start_di hg ht
  have h7 := loopP_di hg (4 + 20 * (g.w * g.h)) _ h1 h5 h6
  unfold fieldP
  rwa [← h4]

/-- each number of the field is what some way costs -/
theorem field_sound {g : Gr} (hg : GrOk g) {to : Int × Int} (ht : onP g.w g.h to = true) {c : Int × Int} (hc : onP g.w g.h c = true) {d : Nat} (hd : d < 4) (h0 : 0 ≤ outGet (fieldP g to) (indexP g c).toNat d) : Wk g to c d (outGet (fieldP g to) (indexP g c).toNat d) := by
  have h1 := hg.index hc
  have := (fieldP_di hg ht).1.out (indexP g c).toNat d (by have := h1.2.2.2.2; omega) hd h0
  rwa [cell_index hg hc] at this
/-- and no way costs less -/
theorem field_least {g : Gr} (hg : GrOk g) {to : Int × Int} (ht : openP g to = true) {c : Int × Int} {d : Nat} {v : Int} (h : Wk g to c d v) : 0 ≤ outGet (fieldP g to) (indexP g c).toNat d ∧ outGet (fieldP g to) (indexP g c).toNat d ≤ v := by
  have hd := (fieldP_di hg (openP_on ht)).2
  have hcov : ∀ i d v, Cov ([], fieldP g to) i d v → 0 ≤ outGet (fieldP g to) i d ∧ outGet (fieldP g to) i d ≤ v := fun i d v hv => by
    rcases hv with hv | ⟨x, h1, _⟩
    · exact hv
    · cases h1
  induction h with
  | base d hd4 => exact hcov _ _ _ (hd.start d hd4)
  | step c d v e h ho he ih =>
    have hon := openP_on (h.op ht)
    have hix := hg.index hon
    have h1 := hd.next (indexP g c).toNat d (by have := hix.2.2.2.2; omega) h.dir ih.1
    rw [cell_index hg hon] at h1
    have h2 := hcov _ _ _ (h1 ho e he)
    have h3 := ih.2
    dsimp only at h2
    exact ⟨h2.1, by omega⟩
end Go.Proofs.Ytpakkjkjppibnaa

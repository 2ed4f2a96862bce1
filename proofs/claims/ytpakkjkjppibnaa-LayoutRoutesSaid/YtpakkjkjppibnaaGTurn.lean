/- Layout: the shape of the field's two parts, kept by every turn of its loop: plain. -/
import Derived.Test.YtpakkjkjppibnaaGOrd
namespace Go.Proofs.Ytpakkjkjppibnaa

/-- how many entries of a table are not set -/
def unr : List Int → Nat
  | [] => 0
  | x :: r => (if x < 0 then 1 else 0) + unr r
def un : List (List Int) → Nat
  | [] => 0
  | r :: o => unr r + un o
theorem unr_le : ∀ r : List Int, unr r ≤ r.length
  | [] => Nat.le_refl _
  | x :: r => by have := unr_le r; unfold unr; simp; split <;> omega
theorem unr_set : ∀ (r : List Int) (d : Nat) (x : Int), d < r.length → r.getD d 0 < 0 → 0 ≤ x → unr (r.set d x) + 1 = unr r
  | y :: r, 0, x, _, h, hx => by
    have h' : y < 0 := by simpa using h
    have hx' : ¬ x < 0 := by omega
    simp only [List.set_cons_zero, unr]
    rw [if_neg hx', if_pos h']; omega
  | y :: r, d + 1, x, hd, h, hx => by
    simp at hd h
    have := unr_set r d x hd (by simpa using h) hx
    simp only [List.set_cons_succ, unr]; omega
theorem un_set : ∀ (o : List (List Int)) (i d : Nat) (x : Int), i < o.length → d < (o.getD i []).length → outGet o i d < 0 → 0 ≤ x → un (outSet o i d x) + 1 = un o
  | r :: o, 0, d, x, _, hd, h, hx => by
    simp [outGet] at hd h
    have := unr_set r d x hd (by simpa using h) hx
    simp only [outSet, List.set_cons_zero, un]; simp at this ⊢; omega
  | r :: o, i + 1, d, x, hi, hd, h, hx => by
    simp at hi hd
    have := un_set o i d x hi (by simpa using hd) (by simpa [outGet] using h) hx
    simp only [outSet, List.set_cons_succ, un] at this ⊢
    simp at this ⊢; omega
theorem un_le : ∀ (o : List (List Int)), (∀ i, i < o.length → (o.getD i []).length = 4) → un o ≤ 4 * o.length
  | [], _ => Nat.le_refl _
  | r :: o, h => by
    have h1 := un_le o (fun i hi => by have := h (i + 1) (by simp; omega); simpa using this)
    have h2 := unr_le r
    have h3 := h 0 (by simp)
    simp at h3
    simp only [un, List.length_cons]; omega
theorem outSet_len (o : List (List Int)) (i d : Nat) (x : Int) : (outSet o i d x).length = o.length := by simp [outSet]
theorem outSet_row {o : List (List Int)} {i d : Nat} {x : Int} (j : Nat) : ((outSet o i d x).getD j []).length = (o.getD j []).length := by
  unfold outSet
  simp only [List.getD_eq_getElem?_getD, List.getElem?_set]
  split
  · next e =>
    subst e
    split
    · simp
    · next h => rw [List.getElem?_eq_none (by omega)]
  · rfl
theorem outSet_get {o : List (List Int)} {i d : Nat} {x : Int} (hi : i < o.length) (hd : d < (o.getD i []).length) (j e : Nat) : outGet (outSet o i d x) j e = if j = i ∧ e = d then x else outGet o j e := by
  unfold outGet outSet
  by_cases h : j = i
  · subst h
    have h1 : (o.set j ((o.getD j []).set d x)).getD j [] = (o.getD j []).set d x := by
      rw [List.getD_eq_getElem?_getD, List.getElem?_set_self hi]; rfl
    rw [h1]
    by_cases h2 : e = d
    · subst h2
      rw [if_pos ⟨rfl, rfl⟩, List.getD_eq_getElem?_getD, List.getElem?_set_self hd]; rfl
    · rw [if_neg (fun k => h2 k.2), List.getD_eq_getElem?_getD, List.getElem?_set_ne (fun k => h2 k.symm), ← List.getD_eq_getElem?_getD]
  · rw [if_neg (fun k => h k.1)]
    have h1 : (o.set i ((o.getD i []).set d x)).getD j [] = o.getD j [] := by
      rw [List.getD_eq_getElem?_getD, List.getElem?_set_ne (fun k => h k.symm), ← List.getD_eq_getElem?_getD]
    rw [h1]

structure GrOk (g : Gr) : Prop where
  len : g.shut.length = g.w * g.h
  w1 : 1 ≤ g.w
  w2 : g.w ≤ 30
  h1 : 1 ≤ g.h
  h2 : g.h ≤ 30
  m1 : 1 ≤ g.move
  m2 : g.move ≤ 1000
  b1 : 0 ≤ g.bend
  b2 : g.bend ≤ 1000
theorem GrOk.cells {g : Gr} (h : GrOk g) : 1 ≤ g.w * g.h ∧ g.w * g.h ≤ 900 := ⟨Nat.mul_le_mul h.w1 h.h1, Nat.mul_le_mul h.w2 h.h2⟩
theorem GrOk.index {g : Gr} (h : GrOk g) {c : Int × Int} (hc : onP g.w g.h c = true) : 0 ≤ c.1 ∧ c.1 ≤ g.w - 1 ∧ 0 ≤ c.2 ∧ c.2 ≤ g.h - 1 ∧ 0 ≤ indexP g c ∧ indexP g c < (g.w * g.h : Nat) := by
  unfold onP at hc
  simp at hc
  obtain ⟨⟨a1, a2⟩, a3, a4⟩ := hc
  have h1 := h.w1
  have h3 := h.h1
  have e1 : 0 ≤ c.2 * (g.w : Int) := Int.mul_nonneg a3 (by omega)
  have e2 : c.2 * (g.w : Int) ≤ ((g.h : Int) - 1) * (g.w : Int) := Int.mul_le_mul_of_nonneg_right a4 (by omega)
  have e3 : ((g.h : Int) - 1) * (g.w : Int) = ((g.w * g.h : Nat) : Int) - (g.w : Int) := by rw [Int.sub_mul, Int.one_mul, Int.mul_comm]; simp
  unfold indexP
  omega
theorem stepP_le {g : Gr} (h : GrOk g) (a b : Nat) : 1 ≤ stepP g a b ∧ stepP g a b ≤ 2000 := by
  have := h.m1; have := h.m2; have := h.b1; have := h.b2
  unfold stepP; split <;> omega

/-- the four pushes of a turn -/
def pushesP (l : List Pl) (f : Nat → Pl) (k : Nat) : List Pl := (List.range k).foldl (fun l d => pushP l (f d)) l
theorem pushesP_succ (l : List Pl) (f : Nat → Pl) (k : Nat) : pushesP l f (k + 1) = pushP (pushesP l f k) (f k) := by
  unfold pushesP; rw [List.range_succ, List.foldl_append]; rfl
theorem pushesP_len (l : List Pl) (f : Nat → Pl) : ∀ k, (pushesP l f k).length = l.length + k
  | 0 => rfl
  | k + 1 => by rw [pushesP_succ, pushP_len, pushesP_len l f k]; omega
theorem pushesP_mem (l : List Pl) (f : Nat → Pl) (y : Pl) : ∀ k, y ∈ pushesP l f k ↔ (∃ d, d < k ∧ y = f d) ∨ y ∈ l
  | 0 => by simp [pushesP]
  | k + 1 => by
    rw [pushesP_succ, push_mem, pushesP_mem l f y k]
    constructor
    · rintro (h | ⟨d, h1, h2⟩ | h)
      · exact .inl ⟨k, by omega, h⟩
      · exact .inl ⟨d, by omega, h2⟩
      · exact .inr h
    · rintro (⟨d, h1, h2⟩ | h)
      · rcases (by omega : d = k ∨ d < k) with rfl | h3
        · exact .inl h2
        · exact .inr (.inl ⟨d, h3, h2⟩)
      · exact .inr (.inr h)
theorem pushesP_heap {l : List Pl} (f : Nat → Pl) (h : HeapTo l l.length) : ∀ k, HeapTo (pushesP l f k) (pushesP l f k).length
  | 0 => h
  | k + 1 => by rw [pushesP_succ]; exact push_heap _ (pushesP_heap f h k)

/-- what holds of the field's two parts ahead of each turn -/
structure FInv (g : Gr) (s : List Pl × List (List Int)) : Prop where
  len : s.2.length = g.w * g.h
  row : ∀ i, i < g.w * g.h → (s.2.getD i []).length = 4
  unl : un s.2 ≤ 4 * (g.w * g.h)
  lo : ∀ i d, -1 ≤ outGet s.2 i d
  out : ∀ i d, outGet s.2 i d ≤ 2000 * ((4 * (g.w * g.h) - un s.2 : Nat) : Int)
  hp : ∀ e ∈ s.1, 0 ≤ e.1 ∧ e.1 < (g.w * g.h : Nat) ∧ 0 ≤ e.2.1 ∧ e.2.1 < 4 ∧ 0 ≤ e.2.2 ∧ e.2.2 ≤ 2000 * ((4 * (g.w * g.h) - un s.2 : Nat) : Int)
def meas (s : List Pl × List (List Int)) : Nat := s.1.length + 5 * un s.2

theorem turn_inv {g : Gr} (hg : GrOk g) {s : List Pl × List (List Int)} (h : FInv g s) (hn : 0 < s.1.length) : FInv g (turnP g s) ∧ meas (turnP g s) < meas s := by
  have hx : popX s.1 ∈ s.1 := (pop_mem hn _).2 (.inl rfl)
  have hr : ∀ e ∈ popR s.1, e ∈ s.1 := fun e he => (pop_mem hn _).2 (.inr he)
  have hl := popR_len s.1
  obtain ⟨x1, x2, x3, x4, x5, x6⟩ := h.hp _ hx
  obtain ⟨i, hi⟩ : ∃ i : Nat, (popX s.1).1 = i := ⟨(popX s.1).1.toNat, by omega⟩
  obtain ⟨d, hd⟩ : ∃ d : Nat, (popX s.1).2.1 = d := ⟨(popX s.1).2.1.toNat, by omega⟩
  obtain ⟨c, hc⟩ : ∃ c, (popX s.1).2.2 = c := ⟨_, rfl⟩
  rw [hc] at x5 x6
  have hiN : i < g.w * g.h := by rw [hi] at x2; exact_mod_cast x2
  have hd4 : d < 4 := by omega
  unfold turnP
  simp only [hi, hd, hc, Int.toNat_natCast]
  by_cases hs : 0 ≤ outGet s.2 i d
  · rw [if_pos hs]
    exact ⟨⟨h.len, h.row, h.unl, h.lo, h.out, fun e he => h.hp e (hr e he)⟩, by unfold meas; dsimp only; omega⟩
  · rw [if_neg hs]
    have hrow := h.row i hiN
    have hu := un_set s.2 i d c (by rw [h.len]; exact hiN) (by omega) (by omega) x5
    have hun := h.unl
    have hle : (2000 : Int) * ((4 * (g.w * g.h) - un (outSet s.2 i d c) : Nat) : Int) = 2000 * ((4 * (g.w * g.h) - un s.2 : Nat) : Int) + 2000 := by omega
    have hlo : ∀ j e, -1 ≤ outGet (outSet s.2 i d c) j e := fun j e => by
      rw [outSet_get (by rw [h.len]; exact hiN) (by omega)]
      split
      · omega
      · exact h.lo j e
    have hout : ∀ j e, outGet (outSet s.2 i d c) j e ≤ 2000 * ((4 * (g.w * g.h) - un (outSet s.2 i d c) : Nat) : Int) := fun j e => by
      rw [outSet_get (by rw [h.len]; exact hiN) (by omega), hle]
      split
      · omega
      · have := h.out j e; omega
    have hlen : (outSet s.2 i d c).length = g.w * g.h := by rw [outSet_len]; exact h.len
    have hrw : ∀ j, j < g.w * g.h → ((outSet s.2 i d c).getD j []).length = 4 := fun j hj => by rw [outSet_row]; exact h.row j hj
    have hhp : ∀ e ∈ popR s.1, 0 ≤ e.1 ∧ e.1 < (g.w * g.h : Nat) ∧ 0 ≤ e.2.1 ∧ e.2.1 < 4 ∧ 0 ≤ e.2.2 ∧ e.2.2 ≤ 2000 * ((4 * (g.w * g.h) - un (outSet s.2 i d c) : Nat) : Int) := fun e he => by
      obtain ⟨a1, a2, a3, a4, a5, a6⟩ := h.hp e (hr e he)
      exact ⟨a1, a2, a3, a4, a5, by omega⟩
    by_cases ho : openP g (besideP (cellP g i) (d + 2)) = true
    · rw [if_pos ho]
      have hon : onP g.w g.h (besideP (cellP g i) (d + 2)) = true := by unfold openP at ho; simp at ho; exact ho.1
      have hix := hg.index hon
      change FInv g (pushesP (popR s.1) (fun k => (indexP g (besideP (cellP g i) (d + 2)), (k : Int), c + stepP g k d)) 4, outSet s.2 i d c) ∧ _
      refine ⟨⟨hlen, hrw, by dsimp only; omega, hlo, hout, fun e he => ?_⟩, ?_⟩
      · rcases (pushesP_mem _ _ _ _).1 he with ⟨k, hk, rfl⟩ | he
        · have := stepP_le hg k d
          exact ⟨hix.2.2.2.2.1, hix.2.2.2.2.2, by dsimp only; omega, by dsimp only; omega, by dsimp only; omega, by dsimp only; omega⟩
        · exact hhp e he
      · change meas (pushesP (popR s.1) (fun k => (indexP g (besideP (cellP g i) (d + 2)), (k : Int), c + stepP g k d)) 4, outSet s.2 i d c) < _
        unfold meas; dsimp only; rw [pushesP_len]; omega
    · rw [if_neg ho]
      exact ⟨⟨hlen, hrw, by dsimp only; omega, hlo, hout, hhp⟩, by unfold meas; dsimp only; omega⟩

theorem unr_four : unr [-1, -1, -1, -1] = 4 := rfl
theorem un_start : ∀ n, un (List.replicate n [-1, -1, -1, -1]) = 4 * n
  | 0 => rfl
  | n + 1 => by rw [List.replicate_succ, un, un_start n, unr_four]; omega
theorem outGet_start (n i d : Nat) : outGet (List.replicate n [-1, -1, -1, -1]) i d = -1 ∨ outGet (List.replicate n [-1, -1, -1, -1]) i d = 0 := by
  unfold outGet
  rw [List.getD_eq_getElem?_getD (l := List.replicate n [-1, -1, -1, -1]), List.getElem?_replicate]
  split
  · match d with
    | 0 | 1 | 2 | 3 => exact .inl rfl
    | d + 4 => exact .inr rfl
  · exact .inr rfl
theorem start_inv {g : Gr} (hg : GrOk g) {to : Int × Int} (ht : onP g.w g.h to = true) : FInv g (startP g to) ∧ meas (startP g to) = 4 + 20 * (g.w * g.h) := by
  change FInv g (pushesP [] (fun d => (indexP g to, (d : Int), 0)) 4, List.replicate (g.w * g.h) [-1, -1, -1, -1]) ∧ meas (pushesP [] (fun d => (indexP g to, (d : Int), 0)) 4, List.replicate (g.w * g.h) [-1, -1, -1, -1]) = _
  have hu := un_start (g.w * g.h)
  refine ⟨⟨by simp, fun i hi => ?_, by dsimp only; omega, fun i d => ?_, fun i d => ?_, fun e he => ?_⟩, ?_⟩
  · rw [List.getD_eq_getElem?_getD, List.getElem?_replicate, if_pos hi]; rfl
  · dsimp only; rcases outGet_start (g.w * g.h) i d with h | h <;> omega
  · dsimp only; rcases outGet_start (g.w * g.h) i d with h | h <;> omega
  · rcases (pushesP_mem _ _ _ _).1 he with ⟨k, hk, rfl⟩ | he
    · have := hg.index ht
      exact ⟨this.2.2.2.2.1, this.2.2.2.2.2, by dsimp only; omega, by dsimp only; omega, by dsimp only; omega, by dsimp only; omega⟩
    · cases he
  · unfold meas; dsimp only; rw [pushesP_len, hu]; simp; omega
theorem loopP_inv {g : Gr} (hg : GrOk g) : ∀ (f : Nat) (s : List Pl × List (List Int)), FInv g s → meas s ≤ f → FInv g (loopP g f s) ∧ (loopP g f s).1 = []
  | 0, s, h, hf => ⟨h, List.eq_nil_of_length_eq_zero (by unfold meas at hf; unfold loopP; omega)⟩
  | f + 1, s, h, hf => by
    unfold loopP
    by_cases h0 : s.1.length = 0
    · rw [if_pos h0]; exact ⟨h, List.eq_nil_of_length_eq_zero h0⟩
    · rw [if_neg h0]
      obtain ⟨h1, h2⟩ := turn_inv hg h (by omega)
      exact loopP_inv hg f _ h1 (by omega)
/-- the field of a place -/
def fieldP (g : Gr) (to : Int × Int) : List (List Int) := (loopP g (4 + 20 * (g.w * g.h)) (startP g to)).2
theorem fieldP_inv {g : Gr} (hg : GrOk g) {to : Int × Int} (ht : onP g.w g.h to = true) : FInv g ([], fieldP g to) := by
  obtain ⟨h1, h2⟩ := start_inv hg ht
  obtain ⟨h3, h4⟩ := loopP_inv hg _ _ h1 (Nat.le_of_eq h2)
  unfold fieldP
  rwa [← h4]
end Go.Proofs.Ytpakkjkjppibnaa

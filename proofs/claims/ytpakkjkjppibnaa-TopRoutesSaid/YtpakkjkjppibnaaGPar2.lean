/- Layout: how often two paths cross, and what their ends say: plain, without a program. -/
import Derived.Test.YtpakkjkjppibnaaGPar
namespace Go.Proofs.Ytpakkjkjppibnaa

theorem he_cell {X Y : Int} {s : Ce × Ce} (h : he X Y s = true) : s.1 = (X, Y) ∨ s.2 = (X, Y) := by
  obtain ⟨⟨a, b⟩, ⟨c, d⟩⟩ := s
  unfold he at h
  simp only [decide_eq_true_eq] at h
  obtain ⟨h1, h2, h3 | h3⟩ := h
  · left; rw [h3.1, h2]
  · right; rw [h3.2, ← h1, h2]
theorem vx_cell {X Y : Int} {s : Ce × Ce} (h : vx X Y s = true) : s.1 = (X, Y) ∨ s.2 = (X, Y) := by
  obtain ⟨⟨a, b⟩, ⟨c, d⟩⟩ := s
  unfold vx at h
  simp only [decide_eq_true_eq] at h
  obtain ⟨h1, h2, h3 | h3⟩ := h
  · left; rw [h1, h3.1]
  · right; rw [h2, h3.2]
theorem cross_cell {t s : Ce × Ce} (h : crossC t s = true) : s.1 = pivC t ∨ s.2 = pivC t := by
  unfold crossC at h
  split at h
  · exact vx_cell h
  · exact he_cell h
/-- a step straight on -/
def strC (u y v : Ce) : Prop := v.1 - y.1 = y.1 - u.1 ∧ v.2 - y.2 = y.2 - u.2
theorem par_at {p a b : List Ce} {u y v : Ce} (hp : p = a ++ u :: y :: v :: b) (hnd : p.Nodup) (f : Ce × Ce → Bool) (hf : ∀ s, f s = true → s.1 = y ∨ s.2 = y) : par (steps p) f = (f (u, y) ^^ f (y, v)) := by
  subst hp
  rw [steps_split, par_append, par_cons, par_cons]
  have h0 : ∀ l : List Ce, y ∉ l → par (steps l) f = false := fun l hl => par_false fun s hs => by
    rw [Bool.eq_false_iff]; intro hh
    have hm := steps_mem hs
    rcases hf s hh with e | e
    · exact hl (e ▸ hm.1)
    · exact hl (e ▸ hm.2)
  rw [List.nodup_append] at hnd
  obtain ⟨n1, n2, n3⟩ := hnd
  rw [List.nodup_cons] at n2
  obtain ⟨n4, n5⟩ := n2
  rw [List.nodup_cons] at n5
  rw [h0 (a ++ [u]) ?_, h0 (v :: b) n5.1, Bool.false_xor, Bool.xor_false]
  intro hm
  rcases List.mem_append.1 hm with h | h
  · exact n3 y h y (by simp) rfl
  · rw [List.mem_singleton] at h
    exact n4 (by rw [h]; simp)
theorem edge_right {p a b : List Ce} {u y v : Ce} (hp : p = a ++ u :: y :: v :: b) (hnd : p.Nodup) (h1 : AdjC u y) (h2 : AdjC y v) (hs : strC u y v) : par (steps p) (he y.1 y.2) = decide (u.2 = y.2) := by
  rw [par_at hp hnd _ (fun s h => he_cell h)]
  obtain ⟨u1, u2⟩ := u
  obtain ⟨y1, y2⟩ := y
  obtain ⟨v1, v2⟩ := v
  unfold AdjC at h1 h2
  unfold strC at hs
  unfold he
  dsimp only at *
  rw [xor_dec]
  apply decide_eq_decide.2
  omega
theorem edge_up {p a b : List Ce} {u y v : Ce} (hp : p = a ++ u :: y :: v :: b) (hnd : p.Nodup) (h1 : AdjC u y) (h2 : AdjC y v) (hs : strC u y v) : par (steps p) (vx y.1 y.2) = decide (u.1 = y.1) := by
  rw [par_at hp hnd _ (fun s h => vx_cell h)]
  obtain ⟨u1, u2⟩ := u
  obtain ⟨y1, y2⟩ := y
  obtain ⟨v1, v2⟩ := v
  unfold AdjC at h1 h2
  unfold strC at hs
  unfold vx
  dsimp only at *
  rw [xor_dec]
  apply decide_eq_decide.2
  omega

/-- how often a step of the other path crosses this one, at its corner -/
def rowC (p : List Ce) (t : Ce × Ce) : Bool := par (steps p) (crossC t)
theorem row_none {p : List Ce} {t : Ce × Ce} (h : pivC t ∉ p) : rowC p t = false := par_false fun s hs => by
  rw [Bool.eq_false_iff]; intro hh
  have hm := steps_mem hs
  rcases cross_cell hh with e | e
  · exact h (e ▸ hm.1)
  · exact h (e ▸ hm.2)
def innC (p : List Ce) (t : Ce × Ce) : Bool := decide (pivC t = t.2) && rowC p t
def outC (p : List Ce) (t : Ce × Ce) : Bool := decide (pivC t = t.1) && rowC p t
theorem piv_or {t : Ce × Ce} (h : AdjC t.1 t.2) : (pivC t = t.2 ∧ pivC t ≠ t.1) ∨ (pivC t = t.1 ∧ pivC t ≠ t.2) := by
  obtain ⟨⟨a, b⟩, ⟨c, d⟩⟩ := t
  unfold AdjC at h
  unfold pivC
  dsimp only at *
  simp only [Prod.mk.injEq, ne_eq]
  omega
theorem row_parts {p : List Ce} {t : Ce × Ce} (h : AdjC t.1 t.2) : rowC p t = (innC p t ^^ outC p t) := by
  unfold innC outC
  rcases piv_or h with ⟨h1, h2⟩ | ⟨h1, h2⟩
  · rw [decide_eq_true h1, decide_eq_false h2]; simp
  · rw [decide_eq_true h1, decide_eq_false h2]; simp

/-- two paths cross wherever they meet -/
def MeetC (p : List Ce) (x y z : Ce) : Prop := y ∈ p → strC x y z ∧ ∃ a u v b, p = a ++ u :: y :: v :: b ∧ strC u y v ∧ (u.1 = y.1 ↔ x.2 = y.2)
theorem meet_row {p : List Ce} (hnd : p.Nodup) (hadj : ∀ s ∈ steps p, AdjC s.1 s.2) {x y z : Ce} (h1 : AdjC x y) (h2 : AdjC y z) (hm : MeetC p x y z) : (innC p (x, y) ^^ outC p (y, z)) = decide (y ∈ p) := by
  by_cases hy : y ∈ p
  · obtain ⟨hs, a, u, v, b, hp, hs2, hper⟩ := hm hy
    rw [decide_eq_true hy]
    have a1 : AdjC u y := hadj (u, y) (by rw [hp, steps_split]; simp)
    have a2 : AdjC y v := hadj (y, v) (by rw [hp, steps_split]; simp)
    have e1 := edge_right hp hnd a1 a2 hs2
    have e2 := edge_up hp hnd a1 a2 hs2
    obtain ⟨x1, x2⟩ := x
    obtain ⟨y1, y2⟩ := y
    obtain ⟨z1, z2⟩ := z
    obtain ⟨u1, u2⟩ := u
    unfold AdjC at h1 h2 a1
    unfold strC at hs
    dsimp only at *
    unfold innC outC rowC
    rcases h1 with h1 | h1 | h1 | h1
    · have f1 : pivC ((x1, x2), (y1, y2)) = (y1, y2) := by unfold pivC; dsimp only; simp only [Prod.mk.injEq]; omega
      have f2 : pivC ((y1, y2), (z1, z2)) ≠ (y1, y2) := by unfold pivC; dsimp only; simp only [ne_eq, Prod.mk.injEq]; omega
      have f3 : crossC ((x1, x2), (y1, y2)) = vx y1 y2 := by
        funext s; unfold crossC horC; rw [f1]; dsimp only; rw [if_pos (by simp; omega)]
      dsimp only
      rw [decide_eq_true f1, decide_eq_false f2, f3, e2, decide_eq_true (hper.2 (by omega))]; rfl
    · have f1 : pivC ((x1, x2), (y1, y2)) ≠ (y1, y2) := by unfold pivC; dsimp only; simp only [ne_eq, Prod.mk.injEq]; omega
      have f2 : pivC ((y1, y2), (z1, z2)) = (y1, y2) := by unfold pivC; dsimp only; simp only [Prod.mk.injEq]; omega
      have f3 : crossC ((y1, y2), (z1, z2)) = vx y1 y2 := by
        funext s; unfold crossC horC; rw [f2]; dsimp only; rw [if_pos (by simp; omega)]
      dsimp only
      rw [decide_eq_false f1, decide_eq_true f2, f3, e2, decide_eq_true (hper.2 (by omega))]; rfl
    · have f1 : pivC ((x1, x2), (y1, y2)) = (y1, y2) := by unfold pivC; dsimp only; simp only [Prod.mk.injEq]; omega
      have f2 : pivC ((y1, y2), (z1, z2)) ≠ (y1, y2) := by unfold pivC; dsimp only; simp only [ne_eq, Prod.mk.injEq]; omega
      have f3 : crossC ((x1, x2), (y1, y2)) = he y1 y2 := by
        funext s; unfold crossC horC; rw [f1]; dsimp only; rw [if_neg (by simp; omega)]
      have hn : ¬ u1 = y1 := fun e => by have := hper.1 e; omega
      dsimp only
      rw [decide_eq_true f1, decide_eq_false f2, f3, e1, decide_eq_true (by omega)]; rfl
    · have f1 : pivC ((x1, x2), (y1, y2)) ≠ (y1, y2) := by unfold pivC; dsimp only; simp only [ne_eq, Prod.mk.injEq]; omega
      have f2 : pivC ((y1, y2), (z1, z2)) = (y1, y2) := by unfold pivC; dsimp only; simp only [Prod.mk.injEq]; omega
      have f3 : crossC ((y1, y2), (z1, z2)) = he y1 y2 := by
        funext s; unfold crossC horC; rw [f2]; dsimp only; rw [if_neg (by simp; omega)]
      have hn : ¬ u1 = y1 := fun e => by have := hper.1 e; omega
      dsimp only
      rw [decide_eq_false f1, decide_eq_true f2, f3, e1, decide_eq_true (by omega)]; rfl
  · rw [decide_eq_false hy]
    have e1 : innC p (x, y) = false := by
      unfold innC
      by_cases e : pivC (x, y) = y
      · rw [row_none (by rw [e]; exact hy), Bool.and_false]
      · dsimp only; rw [decide_eq_false e, Bool.false_and]
    have e2 : outC p (y, z) = false := by
      unfold outC
      by_cases e : pivC (y, z) = y
      · rw [row_none (by rw [e]; exact hy), Bool.and_false]
      · dsimp only; rw [decide_eq_false e, Bool.false_and]
    rw [e1, e2]; rfl

theorem rows_count {p : List Ce} (hnd : p.Nodup) (hadj : ∀ s ∈ steps p, AdjC s.1 s.2) : ∀ (x y : Ce) (r : List Ce), (∀ s ∈ steps (x :: y :: r), AdjC s.1 s.2) →
    (∀ a x' y' z' b, x :: y :: r = a ++ x' :: y' :: z' :: b → MeetC p x' y' z') → (y :: r).getLast (List.cons_ne_nil _ _) ∉ p →
    par (steps (x :: y :: r)) (rowC p) = (outC p (x, y) ^^ par (y :: r) (fun c => decide (c ∈ p)))
  | x, y, [], hq, _, hl => by
    simp only [steps, par_cons, par_nil, Bool.xor_false]
    rw [List.getLast_singleton] at hl
    rw [row_parts (hq (x, y) (by simp [steps])), decide_eq_false hl, Bool.xor_false]
    have : innC p (x, y) = false := by
      unfold innC
      by_cases e : pivC (x, y) = y
      · rw [row_none (by rw [e]; exact hl), Bool.and_false]
      · dsimp only; rw [decide_eq_false e, Bool.false_and]
    rw [this, Bool.false_xor]
  | x, y, z :: r, hq, hm, hl => by
    have ih := rows_count hnd hadj y z r (fun s hs => hq s (by rw [steps]; exact List.mem_cons_of_mem _ hs)) (fun a x' y' z' b e => hm (x :: a) x' y' z' b (by rw [e]; rfl)) (by rwa [List.getLast_cons (List.cons_ne_nil _ _)] at hl)
    have h1 := hq (x, y) (by simp [steps])
    have h2 := hq (y, z) (by simp [steps])
    have h3 := meet_row hnd hadj h1 h2 (hm [] x y z r rfl)
    rw [steps, par_cons, ih, row_parts h1, par_cons y (z :: r), ← h3]
    generalize innC p (x, y) = b1
    generalize outC p (x, y) = b2
    generalize outC p (y, z) = b3
    generalize par (z :: r) (fun c => decide (c ∈ p)) = b4
    revert b1 b2 b3 b4
    decide

/-- two paths that cross where they meet, and end at four places of the rim, cross an odd number of times exactly if they must -/
theorem parity_main (W H : Int) {p0 q0 : Ce} {p q : List Ce} (hp : PathC W H (p0 :: p)) (hq : PathC W H (q0 :: q)) (hnd : (p0 :: p).Nodup)
    (ha : rimC W H p0) (hb : rimC W H ((p0 :: p).getLast (List.cons_ne_nil _ _))) (hc : rimC W H q0) (hd : rimC W H ((q0 :: q).getLast (List.cons_ne_nil _ _)))
    (nc : q0 ∉ p0 :: p) (nd : (q0 :: q).getLast (List.cons_ne_nil _ _) ∉ p0 :: p) (na : p0 ∉ q0 :: q) (nb : (p0 :: p).getLast (List.cons_ne_nil _ _) ∉ q0 :: q)
    (hm : ∀ a x y z b, q0 :: q = a ++ x :: y :: z :: b → MeetC (p0 :: p) x y z) :
    par (q0 :: q) (fun c => decide (c ∈ p0 :: p)) =
      ((decide (posC W H p0 ≤ posC W H q0) ^^ decide (posC W H ((p0 :: p).getLast (List.cons_ne_nil _ _)) ≤ posC W H q0)) ^^
       (decide (posC W H p0 ≤ posC W H ((q0 :: q).getLast (List.cons_ne_nil _ _))) ^^ decide (posC W H ((p0 :: p).getLast (List.cons_ne_nil _ _)) ≤ posC W H ((q0 :: q).getLast (List.cons_ne_nil _ _))))) := by
  have e1 : par (q0 :: q) (fun c => decide (c ∈ p0 :: p)) = par (steps (q0 :: q)) (rowC (p0 :: p)) := by
    rw [par_cons, decide_eq_false nc, Bool.false_xor]
    cases q with
    | nil => rfl
    | cons y r =>
      rw [rows_count hnd hp.adj q0 y r hq.adj hm (by rwa [List.getLast_cons (List.cons_ne_nil _ _)] at nd)]
      have : outC (p0 :: p) (q0, y) = false := by
        unfold outC
        by_cases e : pivC (q0, y) = q0
        · rw [row_none (by rw [e]; exact nc), Bool.and_false]
        · dsimp only; rw [decide_eq_false e, Bool.false_and]
      rw [this, Bool.false_xor]
  have e2 : par (steps (q0 :: q)) (rowC (p0 :: p)) = par (steps (q0 :: q)) (fun t => (sideC W H (p0 :: p) p0 ((p0 :: p).getLast (List.cons_ne_nil _ _)) t.1 ^^ sideC W H (p0 :: p) p0 ((p0 :: p).getLast (List.cons_ne_nil _ _)) t.2)) :=
    par_congr fun t ht => by
      have h1 := steps_mem ht
      exact side_step W H hp ha hb (hq.adj t ht) (hq.on _ h1.1) (hq.on _ h1.2) (fun e => na (e ▸ h1.1)) (fun e => na (e ▸ h1.2)) (fun e => nb (e ▸ h1.1)) (fun e => nb (e ▸ h1.2))
  rw [e1, e2, par_tele (sideC W H (p0 :: p) p0 ((p0 :: p).getLast (List.cons_ne_nil _ _)))]
  obtain ⟨k1, h1⟩ := side_rim W H hp ha hb hc nc
  obtain ⟨k2, h2⟩ := side_rim W H hp ha hb hd nd
  rw [h1, h2]
  clear h1 h2
  generalize decide (posC W H p0 ≤ posC W H q0) = b1
  generalize decide (posC W H ((p0 :: p).getLast (List.cons_ne_nil _ _)) ≤ posC W H q0) = b2
  generalize decide (posC W H p0 ≤ posC W H ((q0 :: q).getLast (List.cons_ne_nil _ _))) = b3
  generalize decide (posC W H ((p0 :: p).getLast (List.cons_ne_nil _ _)) ≤ posC W H ((q0 :: q).getLast (List.cons_ne_nil _ _))) = b4
  revert k1 k2 b1 b2 b3 b4
  decide
end Go.Proofs.Ytpakkjkjppibnaa

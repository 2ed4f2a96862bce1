/- Layout: two paths between places of the rim cross as their ends say: plain, without a program. -/
import Derived.Test.YtpakkjkjppibnaaKHeap
namespace Go.Proofs.Ytpakkjkjppibnaa

abbrev Ce := Int × Int
/-- whether an odd number of a list's elements have a property -/
def par {α : Type} (l : List α) (f : α → Bool) : Bool := l.foldr (fun s b => (f s ^^ b)) false
theorem par_nil {α : Type} (f : α → Bool) : par [] f = false := rfl
theorem par_cons {α : Type} (x : α) (l : List α) (f : α → Bool) : par (x :: l) f = (f x ^^ par l f) := rfl
theorem par_append {α : Type} (l m : List α) (f : α → Bool) : par (l ++ m) f = (par l f ^^ par m f) := by
  induction l with
  | nil => simp [par_nil]
  | cons x l ih => rw [List.cons_append, par_cons, par_cons, ih, Bool.xor_assoc]
theorem par_xor {α : Type} (l : List α) (f g : α → Bool) : par l (fun s => (f s ^^ g s)) = (par l f ^^ par l g) := by
  induction l with
  | nil => rfl
  | cons x l ih =>
    rw [par_cons, par_cons, par_cons, ih]
    cases f x <;> cases g x <;> cases par l f <;> cases par l g <;> rfl
theorem par_congr {α : Type} {l : List α} {f g : α → Bool} (h : ∀ x ∈ l, f x = g x) : par l f = par l g := by
  induction l with
  | nil => rfl
  | cons x l ih => rw [par_cons, par_cons, h x (by simp), ih fun y hy => h y (by simp [hy])]
theorem par_false {α : Type} {l : List α} {f : α → Bool} (h : ∀ x ∈ l, f x = false) : par l f = false := by
  induction l with
  | nil => rfl
  | cons x l ih => rw [par_cons, h x (by simp), ih fun y hy => h y (by simp [hy])]; rfl
theorem par_count {α : Type} (l : List α) (f : α → Bool) : par l f = decide ((l.filter f).length % 2 = 1) := by
  induction l with
  | nil => rfl
  | cons x l ih =>
    rw [par_cons, ih, List.filter_cons]
    cases f x with
    | false => simp
    | true =>
      simp only [if_true, List.length_cons, Bool.true_xor]
      rcases (by omega : (List.filter f l).length % 2 = 0 ∨ (List.filter f l).length % 2 = 1) with h | h
      · rw [decide_eq_false (by omega), decide_eq_true (by omega)]; rfl
      · rw [decide_eq_true (by omega), decide_eq_false (by omega)]; rfl

/-- the steps of a path -/
def steps {α : Type} : List α → List (α × α)
  | x :: y :: l => (x, y) :: steps (y :: l)
  | _ => []
theorem steps_mem {α : Type} : ∀ {l : List α} {s : α × α}, s ∈ steps l → s.1 ∈ l ∧ s.2 ∈ l
  | [], _, h => by cases h
  | [x], _, h => by cases h
  | x :: y :: l, s, h => by
    rcases List.mem_cons.1 h with rfl | h
    · exact ⟨by simp, by simp⟩
    · have := steps_mem (l := y :: l) h
      exact ⟨by simp [this.1], List.mem_cons_of_mem _ this.2⟩
theorem par_tele {α : Type} (g : α → Bool) : ∀ (x : α) (l : List α), par (steps (x :: l)) (fun s => (g s.1 ^^ g s.2)) = (g x ^^ g ((x :: l).getLast (List.cons_ne_nil _ _)))
  | x, [] => by simp [steps, par_nil]
  | x, y :: l => by
    rw [steps, par_cons, par_tele g y l, List.getLast_cons (List.cons_ne_nil _ _)]
    cases g x <;> cases g y <;> simp
theorem steps_split {α : Type} (u y v : α) : ∀ (a b : List α), steps (a ++ u :: y :: v :: b) = steps (a ++ [u]) ++ (u, y) :: (y, v) :: steps (v :: b)
  | [], b => rfl
  | [x], b => rfl
  | x :: x' :: a, b => by
    have := steps_split u y v (x' :: a) b
    simp only [List.cons_append, steps] at this ⊢
    rw [this]

def AdjC (u v : Ce) : Prop := (v.1 = u.1 + 1 ∧ v.2 = u.2) ∨ (v.1 = u.1 - 1 ∧ v.2 = u.2) ∨ (v.1 = u.1 ∧ v.2 = u.2 + 1) ∨ (v.1 = u.1 ∧ v.2 = u.2 - 1)
/-- a step from column X to the next or back, in a row up to Y -/
def hx (X Y : Int) (s : Ce × Ce) : Bool := decide (s.1.2 = s.2.2 ∧ s.1.2 ≤ Y ∧ ((s.1.1 = X ∧ s.2.1 = X + 1) ∨ (s.1.1 = X + 1 ∧ s.2.1 = X)))
/-- .. in row Y -/
def he (X Y : Int) (s : Ce × Ce) : Bool := decide (s.1.2 = s.2.2 ∧ s.1.2 = Y ∧ ((s.1.1 = X ∧ s.2.1 = X + 1) ∨ (s.1.1 = X + 1 ∧ s.2.1 = X)))
/-- a step from row Y to the next or back, in column X -/
def vx (X Y : Int) (s : Ce × Ce) : Bool := decide (s.1.1 = X ∧ s.2.1 = X ∧ ((s.1.2 = Y ∧ s.2.2 = Y + 1) ∨ (s.1.2 = Y + 1 ∧ s.2.2 = Y)))
def inCol (X Y : Int) (c : Ce) : Bool := decide (c.1 = X ∧ c.2 ≤ Y)
theorem xor_dec {p q : Prop} [Decidable p] [Decidable q] : (decide p ^^ decide q) = decide (¬ (p ↔ q)) := by
  by_cases hp : p <;> by_cases hq : q <;> simp [hp, hq]
theorem local1 (X Y : Int) (s : Ce × Ce) (h : AdjC s.1 s.2) : ((vx (X + 1) Y s ^^ hx X Y s) ^^ hx (X + 1) Y s) = (inCol (X + 1) Y s.1 ^^ inCol (X + 1) Y s.2) := by
  obtain ⟨⟨a, b⟩, ⟨c, d⟩⟩ := s
  unfold AdjC at h
  unfold vx hx inCol
  dsimp only at h ⊢
  rw [xor_dec, xor_dec, xor_dec]
  apply decide_eq_decide.2
  rcases h with ⟨rfl, rfl⟩ | ⟨rfl, rfl⟩ | ⟨rfl, rfl⟩ | ⟨rfl, rfl⟩ <;> omega
theorem local2 (X Y : Int) (s : Ce × Ce) : he X (Y + 1) s = (hx X Y s ^^ hx X (Y + 1) s) := by
  obtain ⟨⟨a, b⟩, ⟨c, d⟩⟩ := s
  unfold he hx
  dsimp only
  rw [xor_dec]
  apply decide_eq_decide.2
  omega

/-- the corner of a step at which it is counted -/
def pivC (t : Ce × Ce) : Ce := (max t.1.1 t.2.1, max t.1.2 t.2.2)
def horC (t : Ce × Ce) : Bool := decide (t.1.2 = t.2.2)
/-- whether a step crosses another that is moved a little -/
def crossC (t s : Ce × Ce) : Bool := if horC t then vx (pivC t).1 (pivC t).2 s else he (pivC t).1 (pivC t).2 s

section
variable (W H : Int)
def onC (c : Ce) : Prop := 0 ≤ c.1 ∧ c.1 < W ∧ 0 ≤ c.2 ∧ c.2 < H
def rimC (c : Ce) : Prop := onC W H c ∧ (c.1 = 0 ∨ c.1 = W - 1 ∨ c.2 = 0 ∨ c.2 = H - 1)
def corrC (e : Ce) (X Y : Int) : Bool :=
  if e.2 = 0 then decide (e.1 ≤ X) else if e.2 = H - 1 then false else if e.1 = W - 1 then decide (W - 1 ≤ X ∧ e.2 ≤ Y) else false
/-- on which side of a path with ends a and b a corner lies -/
def sideC (p : List Ce) (a b : Ce) (c : Ce) : Bool := ((par (steps p) (hx c.1 c.2) ^^ corrC W H a c.1 c.2) ^^ corrC W H b c.1 c.2)

theorem corr_hor {e : Ce} {x y : Int} (he : rimC W H e) (h1 : onC W H (x, y)) (h2 : onC W H (x + 1, y)) (hne : e ≠ (x + 1, y)) : (corrC W H e x y ^^ corrC W H e (x + 1) y) = inCol (x + 1) y e := by
  obtain ⟨e1, e2⟩ := e
  unfold rimC onC at he
  unfold onC at h1 h2
  have hne' : ¬ (e1 = x + 1 ∧ e2 = y) := fun h => hne (by rw [h.1, h.2])
  unfold corrC inCol
  dsimp only at *
  split
  · rw [xor_dec]; apply decide_eq_decide.2; omega
  · split
    · rw [Bool.xor_false]; symm; apply decide_eq_false; omega
    · split
      · rw [xor_dec]; apply decide_eq_decide.2; omega
      · rw [Bool.xor_false]; symm; apply decide_eq_false; omega
theorem corr_ver {e : Ce} {x y : Int} (he : rimC W H e) (h1 : onC W H (x, y)) (h2 : onC W H (x, y + 1)) (hne : e ≠ (x, y + 1)) : corrC W H e x y = corrC W H e x (y + 1) := by
  obtain ⟨e1, e2⟩ := e
  unfold rimC onC at he
  unfold onC at h1 h2
  have hne' : ¬ (e1 = x ∧ e2 = y + 1) := fun h => hne (by rw [h.1, h.2])
  unfold corrC
  dsimp only at *
  split
  · rfl
  · split
    · rfl
    · split
      · apply decide_eq_decide.2; omega
      · rfl

/-- a path of the grid: neighbours, all on it -/
structure PathC (p : List Ce) : Prop where
  adj : ∀ s ∈ steps p, AdjC s.1 s.2
  on : ∀ c ∈ p, onC W H c

theorem side_step {p0 : Ce} {p : List Ce} (hp : PathC W H (p0 :: p)) (ha : rimC W H p0) (hb : rimC W H ((p0 :: p).getLast (List.cons_ne_nil _ _))) {t : Ce × Ce} (ht : AdjC t.1 t.2) (h1 : onC W H t.1) (h2 : onC W H t.2)
    (n1 : t.1 ≠ p0) (n2 : t.2 ≠ p0) (n3 : t.1 ≠ (p0 :: p).getLast (List.cons_ne_nil _ _)) (n4 : t.2 ≠ (p0 :: p).getLast (List.cons_ne_nil _ _)) :
    par (steps (p0 :: p)) (crossC t) = (sideC W H (p0 :: p) p0 ((p0 :: p).getLast (List.cons_ne_nil _ _)) t.1 ^^ sideC W H (p0 :: p) p0 ((p0 :: p).getLast (List.cons_ne_nil _ _)) t.2) := by
  have htele := fun g => par_tele g p0 p
  generalize (p0 :: p).getLast (List.cons_ne_nil _ _) = b at *
  generalize p0 :: p = l at *
  generalize p0 = a at *
  have hor : ∀ x y, onC W H (x, y) → onC W H (x + 1, y) → a ≠ (x + 1, y) → b ≠ (x + 1, y) → par (steps l) (vx (x + 1) y) = (sideC W H l a b (x, y) ^^ sideC W H l a b (x + 1, y)) := fun x y h1 h2 h3 h4 => by
    have e1 := htele (inCol (x + 1) y)
    rw [← par_congr (fun s hs => local1 x y s (hp.adj s hs)), par_xor, par_xor] at e1
    have e2 := corr_hor W H ha h1 h2 h3
    have e3 := corr_hor W H hb h1 h2 h4
    unfold sideC
    dsimp only
    rw [← e2, ← e3] at e1
    revert e1
    generalize par (steps l) (vx (x + 1) y) = b1
    generalize par (steps l) (hx x y) = b2
    generalize par (steps l) (hx (x + 1) y) = b3
    generalize corrC W H a x y = b4
    generalize corrC W H a (x + 1) y = b5
    generalize corrC W H b x y = b6
    generalize corrC W H b (x + 1) y = b7
    revert b1 b2 b3 b4 b5 b6 b7
    decide
  have ver : ∀ x y, onC W H (x, y) → onC W H (x, y + 1) → a ≠ (x, y + 1) → b ≠ (x, y + 1) → par (steps l) (he x (y + 1)) = (sideC W H l a b (x, y) ^^ sideC W H l a b (x, y + 1)) := fun x y h1 h2 h3 h4 => by
    have e1 : par (steps l) (he x (y + 1)) = (par (steps l) (hx x y) ^^ par (steps l) (hx x (y + 1))) := by
      rw [← par_xor]; exact par_congr fun s _ => local2 x y s
    have e2 := corr_ver W H ha h1 h2 h3
    have e3 := corr_ver W H hb h1 h2 h4
    unfold sideC
    dsimp only
    rw [e1, e2, e3]
    generalize par (steps l) (hx x y) = b2
    generalize par (steps l) (hx x (y + 1)) = b3
    generalize corrC W H a x (y + 1) = b5
    generalize corrC W H b x (y + 1) = b7
    revert b2 b3 b5 b7
    decide
  obtain ⟨⟨x, y⟩, ⟨x', y'⟩⟩ := t
  unfold AdjC at ht
  dsimp only at ht h1 h2 n1 n2 n3 n4 ⊢
  rcases ht with ⟨rfl, rfl⟩ | ⟨rfl, rfl⟩ | ⟨rfl, rfl⟩ | ⟨rfl, rfl⟩
  · have e : crossC ((x, y'), (x + 1, y')) = vx (x + 1) y' := by
      funext s; unfold crossC horC pivC; dsimp only
      rw [if_pos (by simp), show max x (x + 1) = x + 1 by omega, show max y' y' = y' by omega]
    rw [e]; exact hor x y' h1 h2 n2.symm n4.symm
  · have e : crossC ((x, y'), (x - 1, y')) = vx (x - 1 + 1) y' := by
      funext s; unfold crossC horC pivC; dsimp only
      rw [if_pos (by simp), show max x (x - 1) = x - 1 + 1 by omega, show max y' y' = y' by omega]
    have hx1 : x - 1 + 1 = x := by omega
    rw [e, hor (x - 1) y' h2 (by rw [hx1]; exact h1) (by rw [hx1]; exact n1.symm) (by rw [hx1]; exact n3.symm), hx1, Bool.xor_comm]
  · have e : crossC ((x', y), (x', y + 1)) = he x' (y + 1) := by
      funext s; unfold crossC horC pivC; dsimp only
      rw [if_neg (by simp; omega), show max x' x' = x' by omega, show max y (y + 1) = y + 1 by omega]
    rw [e]; exact ver x' y h1 h2 n2.symm n4.symm
  · have e : crossC ((x', y), (x', y - 1)) = he x' (y - 1 + 1) := by
      funext s; unfold crossC horC pivC; dsimp only
      rw [if_neg (by simp; omega), show max x' x' = x' by omega, show max y (y - 1) = y - 1 + 1 by omega]
    have hx1 : y - 1 + 1 = y := by omega
    rw [e, ver x' (y - 1) h2 (by rw [hx1]; exact h1) (by rw [hx1]; exact n1.symm) (by rw [hx1]; exact n3.symm), hx1, Bool.xor_comm]

/-- the place of a cell of the rim -/
def posC (c : Ce) : Int := if c.2 = 0 then c.1 else if c.1 = W - 1 then W - 1 + c.2 else if c.2 = H - 1 then (W - 1) + (H - 1) + (W - 1 - c.1) else 2 * (W - 1) + (H - 1) + (H - 1 - c.2)
theorem side_rim {p0 : Ce} {p : List Ce} (hp : PathC W H (p0 :: p)) (ha : rimC W H p0) (hb : rimC W H ((p0 :: p).getLast (List.cons_ne_nil _ _))) {c : Ce} (hc : rimC W H c) (hn : c ∉ p0 :: p) :
    ∃ k : Bool, sideC W H (p0 :: p) p0 ((p0 :: p).getLast (List.cons_ne_nil _ _)) c = ((decide (posC W H p0 ≤ posC W H c) ^^ k) ^^ (decide (posC W H ((p0 :: p).getLast (List.cons_ne_nil _ _)) ≤ posC W H c) ^^ k)) := by
  have htele := fun g => par_tele g p0 p
  have na : c ≠ p0 := fun e => hn (by rw [e]; simp)
  have nb : c ≠ (p0 :: p).getLast (List.cons_ne_nil _ _) := fun e => hn (by rw [e]; exact List.getLast_mem _)
  generalize (p0 :: p).getLast (List.cons_ne_nil _ _) = b at *
  generalize p0 :: p = l at *
  generalize p0 = a at *
  obtain ⟨x, y⟩ := c
  have hs : ∀ s ∈ steps l, AdjC s.1 s.2 ∧ onC W H s.1 ∧ onC W H s.2 ∧ ¬ (s.1.1 = x ∧ s.1.2 = y) ∧ ¬ (s.2.1 = x ∧ s.2.2 = y) := fun s hs => by
    have h1 := steps_mem hs
    refine ⟨hp.adj s hs, hp.on _ h1.1, hp.on _ h1.2, fun e => hn ?_, fun e => hn ?_⟩
    · rw [show (x, y) = s.1 from Prod.ext e.1.symm e.2.symm]; exact h1.1
    · rw [show (x, y) = s.2 from Prod.ext e.1.symm e.2.symm]; exact h1.2
  -- what is left to show of each end
  have fin : ∀ (k : Bool) (hh : Ce → Bool), par (steps l) (hx x y) = (hh a ^^ hh b) → (∀ e, rimC W H e → (x, y) ≠ e → (hh e ^^ corrC W H e x y) = (decide (posC W H e ≤ posC W H (x, y)) ^^ k)) →
      ∃ k : Bool, sideC W H l a b (x, y) = ((decide (posC W H a ≤ posC W H (x, y)) ^^ k) ^^ (decide (posC W H b ≤ posC W H (x, y)) ^^ k)) := fun k hh e1 e2 => ⟨k, by
    rw [← e2 a ha na, ← e2 b hb nb]
    unfold sideC
    dsimp only
    rw [e1]
    generalize hh a = b2
    generalize hh b = b3
    generalize corrC W H a x y = b5
    generalize corrC W H b x y = b7
    revert b2 b3 b5 b7
    decide⟩
  by_cases h1 : y = 0
  · refine fin false (fun _ => false) (par_false fun s h => ?_) fun e he hne => ?_
    · obtain ⟨q1, q2, q3, q4, q5⟩ := hs s h
      obtain ⟨⟨s1, s2⟩, ⟨s3, s4⟩⟩ := s
      unfold AdjC at q1
      unfold onC at q2 q3
      unfold hx
      apply decide_eq_false
      dsimp only at *
      omega
    · obtain ⟨e1, e2⟩ := e
      have hne' : ¬ (x = e1 ∧ y = e2) := fun h => hne (by rw [h.1, h.2])
      unfold rimC onC at he hc
      unfold corrC posC
      dsimp only at *
      rw [Bool.false_xor, Bool.xor_false]
      split
      · apply decide_eq_decide.2; (repeat' split) <;> omega
      · split
        · symm; apply decide_eq_false; (repeat' split) <;> omega
        · split
          · apply decide_eq_decide.2; (repeat' split) <;> omega
          · symm; apply decide_eq_false; (repeat' split) <;> omega
  · by_cases h2 : x = W - 1
    · refine fin false (fun _ => false) (par_false fun s h => ?_) fun e he hne => ?_
      · obtain ⟨q1, q2, q3, q4, q5⟩ := hs s h
        obtain ⟨⟨s1, s2⟩, ⟨s3, s4⟩⟩ := s
        unfold onC at q2 q3
        unfold hx
        apply decide_eq_false
        dsimp only at *
        omega
      · obtain ⟨e1, e2⟩ := e
        have hne' : ¬ (x = e1 ∧ y = e2) := fun h => hne (by rw [h.1, h.2])
        unfold rimC onC at he hc
        unfold corrC posC
        dsimp only at *
        rw [Bool.false_xor, Bool.xor_false]
        split
        · apply decide_eq_decide.2; (repeat' split) <;> omega
        · split
          · symm; apply decide_eq_false; (repeat' split) <;> omega
          · split
            · apply decide_eq_decide.2; (repeat' split) <;> omega
            · symm; apply decide_eq_false; (repeat' split) <;> omega
    · by_cases h3 : y = H - 1
      · refine fin true (fun e => decide (e.1 ≤ x)) ?_ fun e he hne => ?_
        · rw [← htele (fun e => decide (e.1 ≤ x))]
          refine par_congr fun s h => ?_
          obtain ⟨q1, q2, q3, q4, q5⟩ := hs s h
          obtain ⟨⟨s1, s2⟩, ⟨s3, s4⟩⟩ := s
          unfold AdjC at q1
          unfold onC at q2 q3
          unfold hx
          dsimp only at *
          rw [xor_dec]; apply decide_eq_decide.2
          omega
        · obtain ⟨e1, e2⟩ := e
          have hne' : ¬ (x = e1 ∧ y = e2) := fun h => hne (by rw [h.1, h.2])
          unfold rimC onC at he hc
          unfold corrC posC
          dsimp only at *
          rw [Bool.xor_true]
          split
          · rw [Bool.xor_self]; symm; rw [Bool.not_eq_false']; apply decide_eq_true; (repeat' split) <;> omega
          · split
            · rw [Bool.xor_false, ← decide_not]; apply decide_eq_decide.2; (repeat' split) <;> omega
            · split
              · rw [xor_dec, ← decide_not]; apply decide_eq_decide.2; (repeat' split) <;> omega
              · rw [Bool.xor_false, ← decide_not]; apply decide_eq_decide.2; (repeat' split) <;> omega
      · have hx0 : x = 0 := by unfold rimC at hc; dsimp only at hc; omega
        subst hx0
        refine fin true (inCol 0 y) ?_ fun e he hne => ?_
        · rw [← htele (inCol 0 y)]
          refine par_congr fun s h => ?_
          obtain ⟨q1, q2, q3, q4, q5⟩ := hs s h
          have e1 := local1 (-1) y s q1
          have e2 : vx (-1 + 1) y s = false := by
            obtain ⟨⟨s1, s2⟩, ⟨s3, s4⟩⟩ := s
            unfold vx
            apply decide_eq_false
            dsimp only at *
            omega
          have e3 : hx (-1) y s = false := by
            obtain ⟨⟨s1, s2⟩, ⟨s3, s4⟩⟩ := s
            unfold onC at q2 q3
            unfold hx
            apply decide_eq_false
            dsimp only at *
            omega
          rw [e2, e3] at e1
          simpa using e1
        · obtain ⟨e1, e2⟩ := e
          have hne' : ¬ (0 = e1 ∧ y = e2) := fun h => hne (by rw [← h.1, h.2])
          unfold rimC onC at he hc
          unfold corrC posC inCol
          dsimp only at *
          rw [Bool.xor_true]
          split
          · rw [xor_dec, ← decide_not]; apply decide_eq_decide.2; (repeat' split) <;> omega
          · split
            · rw [Bool.xor_false, ← decide_not]; apply decide_eq_decide.2; (repeat' split) <;> omega
            · split
              · rw [xor_dec, ← decide_not]; apply decide_eq_decide.2; (repeat' split) <;> omega
              · rw [Bool.xor_false, ← decide_not]; apply decide_eq_decide.2; (repeat' split) <;> omega
end
end Go.Proofs.Ytpakkjkjppibnaa

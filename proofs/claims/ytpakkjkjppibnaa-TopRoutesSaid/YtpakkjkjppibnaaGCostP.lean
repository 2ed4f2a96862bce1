/- Layout: what a path costs, from either end: plain, without a program. -/
import Derived.Test.YtpakkjkjppibnaaGNodup
import Derived.Test.YtpakkjkjppibnaaGPar
namespace Go.Proofs.Ytpakkjkjppibnaa
open Go.RowKit

/-- the direction from a cell to a neighbour -/
def towD (a b : Ce) : Nat := if a.2 = b.2 then (if a.1 < b.1 then 0 else 2) else if a.2 < b.2 then 1 else 3
def adjB (a b : Ce) : Bool := decide (b = besideP a (towD a b))
theorem towD_lt (a b : Ce) : towD a b < 4 := by unfold towD; split <;> split <;> decide
theorem tow_beside (a : Ce) {d : Nat} (hd : d < 4) : towD a (besideP a d) = d := by
  obtain ⟨x, y⟩ := a
  rcases (by omega : d = 0 ∨ d = 1 ∨ d = 2 ∨ d = 3) with rfl | rfl | rfl | rfl
  · show (if y = y then (if x < x + 1 then 0 else 2) else if y < y then 1 else 3) = 0
    rw [if_pos rfl, if_pos (by omega)]
  · show (if y = y + 1 then (if x < x then 0 else 2) else if y < y + 1 then 1 else 3) = 1
    rw [if_neg (by omega), if_pos (by omega)]
  · show (if y = y then (if x < x - 1 then 0 else 2) else if y < y then 1 else 3) = 2
    rw [if_pos rfl, if_neg (by omega)]
  · show (if y = y - 1 then (if x < x then 0 else 2) else if y < y - 1 then 1 else 3) = 3
    rw [if_neg (by omega), if_neg (by omega)]
theorem adj_beside (a : Ce) {d : Nat} (hd : d < 4) : adjB a (besideP a d) = true := by
  unfold adjB; rw [tow_beside a hd]; simp
theorem adj_iff {a b : Ce} : adjB a b = true ↔ b = besideP a (towD a b) := by unfold adjB; simp
theorem adj_adjC {a b : Ce} (h : adjB a b = true) : AdjC a b := by
  have h' := adj_iff.1 h
  have hl := towD_lt a b
  generalize towD a b = d at *
  subst h'
  obtain ⟨x, y⟩ := a
  unfold AdjC
  rcases (by omega : d = 0 ∨ d = 1 ∨ d = 2 ∨ d = 3) with rfl | rfl | rfl | rfl <;> simp [besideP]

/-- the directions of a path's steps -/
def dirsL : List Ce → List Nat
  | a :: b :: l => towD a b :: dirsL (b :: l)
  | _ => []
def adjL : List Ce → Bool
  | a :: b :: l => adjB a b && adjL (b :: l)
  | _ => true
theorem dirsL_len : ∀ (l : List Ce), (dirsL l).length = l.length - 1
  | [] => rfl
  | [_] => rfl
  | a :: b :: l => by simp only [dirsL, List.length_cons, dirsL_len (b :: l)]; omega
theorem dirsL_get : ∀ (l : List Ce) (i : Nat), i + 1 < l.length → (dirsL l).getD i 0 = towD (l.getD i (0, 0)) (l.getD (i + 1) (0, 0))
  | [], i, h => by simp at h
  | [_], i, h => by simp at h
  | a :: b :: l, 0, h => rfl
  | a :: b :: l, i + 1, h => by
    have := dirsL_get (b :: l) i (by simpa using h)
    simpa [dirsL] using this
theorem adjL_iff : ∀ (l : List Ce), adjL l = true ↔ ∀ i, i + 1 < l.length → adjB (l.getD i (0, 0)) (l.getD (i + 1) (0, 0)) = true
  | [] => by simp [adjL]
  | [_] => by simp [adjL]
  | a :: b :: l => by
    simp only [adjL, Bool.and_eq_true, adjL_iff (b :: l)]
    constructor
    · rintro ⟨h0, h⟩ i hi
      cases i with
      | zero => exact h0
      | succ i => have := h i (by simpa using hi); simpa using this
    · intro h
      refine ⟨h 0 (by simp), fun i hi => ?_⟩
      have := h (i + 1) (by simpa using hi)
      simpa using this
theorem dirsL_lt : ∀ (l : List Ce), ∀ d ∈ dirsL l, d < 4
  | [], d, h => by cases h
  | [_], d, h => by cases h
  | a :: b :: l, d, h => by
    rcases List.mem_cons.1 h with rfl | h
    · exact towD_lt _ _
    · exact dirsL_lt (b :: l) d h
theorem dirsL_snoc : ∀ (l : List Ce) (a b : Ce), dirsL (l ++ [a, b]) = dirsL (l ++ [a]) ++ [towD a b]
  | [], a, b => rfl
  | [x], a, b => rfl
  | x :: y :: l, a, b => by
    have := dirsL_snoc (y :: l) a b
    simp only [List.cons_append, dirsL] at this ⊢
    rw [this]

/-- how often a list of directions turns -/
def bendsL : List Nat → Nat
  | d :: e :: l => (if d = e then 0 else 1) + bendsL (e :: l)
  | _ => 0
theorem bendsL_snoc : ∀ (l : List Nat) (d e : Nat), bendsL (l ++ [d, e]) = bendsL (l ++ [d]) + (if d = e then 0 else 1)
  | [], d, e => by simp [bendsL]
  | [x], d, e => by simp [bendsL]
  | x :: y :: l, d, e => by
    have := bendsL_snoc (y :: l) d e
    simp only [List.cons_append, bendsL] at this ⊢
    omega
theorem bendsL_reverse : ∀ (l : List Nat), bendsL l.reverse = bendsL l
  | [] => rfl
  | [_] => rfl
  | d :: e :: l => by
    have ih := bendsL_reverse (e :: l)
    rw [List.reverse_cons] at ih
    rw [List.reverse_cons, List.reverse_cons, List.append_assoc, List.cons_append, List.nil_append, bendsL_snoc, ih, bendsL]
    by_cases h : d = e
    · rw [if_pos h, if_pos h.symm]; omega
    · rw [if_neg h, if_neg fun e => h e.symm]; omega
theorem bendsL_map {f : Nat → Nat} : ∀ {l : List Nat}, (∀ x ∈ l, ∀ y ∈ l, f x = f y → x = y) → bendsL (l.map f) = bendsL l
  | [], _ => rfl
  | [_], _ => rfl
  | d :: e :: l, h => by
    have ih := bendsL_map (f := f) (l := e :: l) fun x hx y hy => h x (List.mem_cons_of_mem _ hx) y (List.mem_cons_of_mem _ hy)
    simp only [List.map_cons, bendsL] at ih ⊢
    rw [ih]
    by_cases he : d = e
    · rw [if_pos he, if_pos (by rw [he])]
    · rw [if_neg he, if_neg fun hh => he (h d (by simp) e (by simp) hh)]
theorem bendsL_le : ∀ (l : List Nat), bendsL l ≤ l.length
  | [] => Nat.le_refl _
  | [_] => Nat.zero_le _
  | d :: e :: l => by
    have := bendsL_le (e :: l)
    simp only [bendsL, List.length_cons] at this ⊢
    split <;> omega

/-- what a list of directions costs -/
def costD (g : Gr) (ds : List Nat) : Int := (ds.length : Int) * g.move + (bendsL ds : Int) * g.bend
theorem costD_cons (g : Gr) (d e : Nat) (l : List Nat) : costD g (d :: e :: l) = stepP g d e + costD g (e :: l) := by
  unfold costD stepP
  simp only [List.length_cons, bendsL]
  by_cases h : d = e
  · rw [if_pos h, if_pos h]; simp only [Nat.zero_add, Int.natCast_add, Int.add_mul]; omega
  · rw [if_neg h, if_neg h]; simp only [Int.natCast_add, Int.add_mul]; omega
theorem costD_one (g : Gr) (d : Nat) : costD g [d] = g.move := by unfold costD bendsL; simp

/-- the cells that one comes to -/
def along : Ce → List Nat → List Ce
  | _, [] => []
  | c, d :: ds => besideP c d :: along (besideP c d) ds
def endOf : Ce → List Nat → Ce
  | c, [] => c
  | c, d :: ds => endOf (besideP c d) ds
theorem along_snoc : ∀ (c : Ce) (ds : List Nat) (d : Nat), along c (ds ++ [d]) = along c ds ++ [besideP (endOf c ds) d]
  | c, [], d => rfl
  | c, x :: ds, d => by simp only [List.cons_append, along, endOf, along_snoc]
theorem endOf_snoc : ∀ (c : Ce) (ds : List Nat) (d : Nat), endOf c (ds ++ [d]) = besideP (endOf c ds) d
  | c, [], d => rfl
  | c, x :: ds, d => by simp only [List.cons_append, endOf, endOf_snoc]
theorem along_dirs : ∀ (c : Ce) (r : List Ce), adjL (c :: r) = true → r = along c (dirsL (c :: r))
  | c, [], _ => rfl
  | c, x :: r, h => by
    simp only [adjL, Bool.and_eq_true] at h
    have e := adj_iff.1 h.1
    have ih := along_dirs x r h.2
    simp only [dirsL, along]
    rw [← e, ← ih]
theorem endOf_last : ∀ (c : Ce) (ds : List Nat), endOf c ds = (c :: along c ds).getLast (List.cons_ne_nil _ _)
  | c, [] => rfl
  | c, d :: ds => by
    rw [endOf, endOf_last, along]
    exact (List.getLast_cons (List.cons_ne_nil _ _)).symm

/-- a way on is a list of directions -/
theorem wk_of {g : Gr} {to : Ce} : ∀ (ds : List Nat) (c : Ce) (d : Nat), d < 4 → openP g c = true → (∀ e ∈ ds, e < 4) → (∀ x ∈ along c ds, openP g x = true) → endOf c ds = to →
    Wk g to c d (costD g (d :: ds) - g.move)
  | [], c, d, hd, _, _, _, he => by
    rw [endOf] at he
    subst he
    rw [costD_one, Int.sub_self]
    exact Wk.base d hd
  | e :: ds, c, d, hd, ho, hds, hop, he => by
    have he4 := hds e (by simp)
    rw [endOf] at he
    have ih := wk_of ds (besideP c e) e he4 (hop _ (by simp [along])) (fun x hx => hds x (by simp [hx])) (fun x hx => hop x (by simp [along, hx])) he
    have := Wk.step _ _ _ d ih (by rw [beside_back' c he4]; exact ho) hd
    rw [beside_back' c he4] at this
    rw [costD_cons]
    have e2 : stepP g d e + costD g (e :: ds) - g.move = costD g (e :: ds) - g.move + stepP g d e := by omega
    rw [e2]
    exact this
theorem way_of {g : Gr} {to c : Ce} {ds : List Nat} (hn : ds ≠ []) (hds : ∀ e ∈ ds, e < 4) (hop : ∀ x ∈ along c ds, openP g x = true) (he : endOf c ds = to) : Way g to c (costD g ds) := by
  cases ds with
  | nil => exact absurd rfl hn
  | cons d ds =>
    have hd := hds d (by simp)
    have ho := hop (besideP c d) (by simp [along])
    refine ⟨d, _, hd, ho, wk_of ds (besideP c d) d hd ho (fun x hx => hds x (by simp [hx])) (fun x hx => hop x (by simp [along, hx])) he, ?_⟩
    omega
theorem of_wk {g : Gr} {to c : Ce} {d : Nat} {v : Int} (ht : openP g to = true) (h : Wk g to c d v) : ∃ ds, (∀ e ∈ ds, e < 4) ∧ (∀ x ∈ along c ds, openP g x = true) ∧ endOf c ds = to ∧ v = costD g (d :: ds) - g.move := by
  induction h with
  | base d hd => exact ⟨[], fun _ h => (by cases h), fun _ h => (by cases h), rfl, by rw [costD_one]; omega⟩
  | step c d v e h ho he ih =>
    obtain ⟨ds, h1, h2, h3, h4⟩ := ih
    have hd := h.dir
    have hb := beside_back c hd
    refine ⟨d :: ds, fun x hx => ?_, fun x hx => ?_, ?_, ?_⟩
    · rcases List.mem_cons.1 hx with rfl | hx
      · exact hd
      · exact h1 x hx
    · rw [along, hb] at hx
      rcases List.mem_cons.1 hx with rfl | hx
      · exact h.op ht
      · exact h2 x hx
    · rw [endOf, hb]; exact h3
    · rw [costD_cons, h4]; omega
theorem of_way {g : Gr} {to c : Ce} {v : Int} (ht : openP g to = true) (h : Way g to c v) : ∃ ds, ds ≠ [] ∧ (∀ e ∈ ds, e < 4) ∧ (∀ x ∈ along c ds, openP g x = true) ∧ endOf c ds = to ∧ v = costD g ds := by
  obtain ⟨d, u, hd, ho, hw, rfl⟩ := h
  obtain ⟨ds, h1, h2, h3, h4⟩ := of_wk ht hw
  refine ⟨d :: ds, List.cons_ne_nil _ _, fun x hx => ?_, fun x hx => ?_, by rw [endOf]; exact h3, by omega⟩
  · rcases List.mem_cons.1 hx with rfl | hx
    · exact hd
    · exact h1 x hx
  · rw [along] at hx
    rcases List.mem_cons.1 hx with rfl | hx
    · exact ho
    · exact h2 x hx

/-- .. turned round -/
def opp (d : Nat) : Nat := (d + 2) % 4
theorem beside_opp (c : Ce) {d : Nat} (hd : d < 4) : besideP (besideP c d) (opp d) = c := by
  obtain ⟨x, y⟩ := c
  rcases (by omega : d = 0 ∨ d = 1 ∨ d = 2 ∨ d = 3) with rfl | rfl | rfl | rfl <;> simp [besideP, opp]
def backL (ds : List Nat) : List Nat := (ds.map opp).reverse
theorem backL_cons (d : Nat) (ds : List Nat) : backL (d :: ds) = backL ds ++ [opp d] := by unfold backL; simp
theorem back_end : ∀ (c : Ce) (ds : List Nat), (∀ e ∈ ds, e < 4) → endOf (endOf c ds) (backL ds) = c ∧ ∀ x ∈ along (endOf c ds) (backL ds), x ∈ c :: along c ds
  | c, [], _ => ⟨rfl, fun x h => (by cases h)⟩
  | c, d :: ds, h => by
    obtain ⟨h1, h2⟩ := back_end (besideP c d) ds fun e he => h e (by simp [he])
    have hd := h d (by simp)
    rw [backL_cons, endOf, endOf_snoc, along_snoc, h1, beside_opp c hd]
    refine ⟨rfl, fun x hx => ?_⟩
    rcases List.mem_append.1 hx with hx | hx
    · rw [along]; exact List.mem_cons_of_mem _ (h2 x hx)
    · rw [List.mem_singleton] at hx; rw [hx]; simp
theorem cost_back (g : Gr) {ds : List Nat} (h : ∀ e ∈ ds, e < 4) : costD g (backL ds) = costD g ds := by
  unfold costD backL
  rw [bendsL_reverse, bendsL_map, List.length_reverse, List.length_map]
  intro x hx y hy e
  have := h x hx
  have := h y hy
  unfold opp at e
  omega
theorem way_back {g : Gr} {a b : Ce} {v : Int} (ha : openP g a = true) (hb : openP g b = true) (h : Way g b a v) : Way g a b v := by
  obtain ⟨ds, hn, h1, h2, h3, rfl⟩ := of_way hb h
  have hbk := back_end a ds h1
  rw [h3] at hbk
  rw [← cost_back g h1]
  refine way_of ?_ ?_ ?_ hbk.1
  · intro e
    apply hn
    have := congrArg List.length e
    unfold backL at this
    simpa using this
  · intro e he
    unfold backL at he
    rw [List.mem_reverse] at he
    obtain ⟨x, _, rfl⟩ := List.mem_map.1 he
    unfold opp; omega
  · intro x hx
    rcases List.mem_cons.1 (hbk.2 x hx) with rfl | hx
    · exact ha
    · exact h2 x hx

/-- what a path costs -/
def costP (g : Gr) (p : List Ce) : Int := costD g (dirsL p)
theorem way_path {g : Gr} {c to : Ce} {r : List Ce} (hr : r ≠ []) (ha : adjL (c :: r) = true) (ho : ∀ x ∈ r, openP g x = true) (hl : (c :: r).getLast (List.cons_ne_nil _ _) = to) : Way g to c (costP g (c :: r)) := by
  have e := along_dirs c r ha
  refine way_of ?_ (dirsL_lt _) (fun x hx => ho x (by rw [e]; exact hx)) ?_
  · cases r with
    | nil => exact absurd rfl hr
    | cons x r => simp [dirsL]
  · rw [endOf_last, ← hl]
    congr 1
    rw [← e]

/-- the path that Route walks -/
theorem gw_path {g : Gr} (hg : GrOk g) {to : Ce} (ht : openP g to = true) {c : Ce} {d : Nat} {r : List Ce} (h : Gw g to c d r) : d < 4 → openP g c = true →
    adjL (c :: r) = true ∧ (c :: r).getLast (List.cons_ne_nil _ _) = to ∧ fAt g to c d = costD g (d :: dirsL (c :: r)) - g.move := by
  induction h with
  | done d =>
    intro hd _
    refine ⟨rfl, rfl, ?_⟩
    have := fAt_le hg ht (Wk.base (g := g) (to := to) d hd)
    show fAt g to to d = costD g [d] - g.move
    rw [costD_one]
    omega
  | go c d e r hne hf h ih =>
    intro hd hc
    obtain ⟨h4, h5, h6, h7⟩ := gw_step hf
    obtain ⟨i1, i2, i3⟩ := ih h4 h5
    refine ⟨by simp only [adjL, adj_beside c h4, Bool.true_and]; exact i1, by rw [List.getLast_cons (List.cons_ne_nil _ _)]; exact i2, ?_⟩
    simp only [dirsL, tow_beside c h4]
    rw [costD_cons, ← h7, i3]
    omega
theorem fst_path {g : Gr} (hg : GrOk g) {to fr : Ce} (ht : openP g to = true) {n : Int} {d0 : Nat} {r : List Ce} (h : Fst g to fr n d0 r) :
    adjL (fr :: besideP fr d0 :: r) = true ∧ (fr :: besideP fr d0 :: r).getLast (List.cons_ne_nil _ _) = to ∧ costP g (fr :: besideP fr d0 :: r) = n := by
  obtain ⟨h1, h2, h3⟩ := gw_path hg ht h.gw h.d4 h.op
  refine ⟨by simp only [adjL, adj_beside fr h.d4, Bool.true_and]; exact h1, by rw [List.getLast_cons (List.cons_ne_nil _ _)]; exact h2, ?_⟩
  have := h.val
  unfold costP
  simp only [dirsL, tow_beside fr h.d4]
  omega
theorem last_inj {α : Type} {c : α} {r : List α} (hr : r ≠ []) (hn : (c :: r).Nodup) : c ≠ (c :: r).getLast (List.cons_ne_nil _ _) := by
  intro e
  rw [List.getLast_cons hr] at e
  rw [List.nodup_cons] at hn
  exact hn.1 (e ▸ List.getLast_mem hr)

/-- a route between the ends of a path: no dearer, as dear as it says, and as Far says from either end -/
theorem cheap_main {g : Gr} (hg : GrOk g) {fr to : Ce} {r : List Ce} (hr : r ≠ []) (hn : (fr :: r).Nodup) (ha : adjL (fr :: r) = true) (ho : ∀ x ∈ fr :: r, openP g x = true) (hl : (fr :: r).getLast (List.cons_ne_nil _ _) = to) :
    fr ≠ to ∧ openP g to = true ∧ ∃ n d0 rr, Fst g to fr n d0 rr ∧ n ≤ costP g (fr :: r) ∧ farCell g (fieldP g to) to (indexP g fr).toNat = n ∧ farCell g (fieldP g fr) fr (indexP g to).toNat = n := by
  have hne : fr ≠ to := hl ▸ last_inj hr hn
  have hf := ho fr (by simp)
  have ht : openP g to = true := ho to (by rw [← hl]; exact List.getLast_mem _)
  have hw := way_path hr ha (fun x hx => ho x (by simp [hx])) hl
  have key : ∀ a b : Ce, openP g a = true → openP g b = true → a ≠ b → (∃ v, Way g b a v) → 0 ≤ (beginsP g (fieldP g b) a 4).1 ∧ Way g b a (beginsP g (fieldP g b) a 4).1 ∧ ∀ v, Way g b a v → (beginsP g (fieldP g b) a 4).1 ≤ v := by
    intro a b h1 h2 h3 ⟨v, h4⟩
    rcases begins_way hg h2 a with ⟨_, h5⟩ | ⟨h5, h6⟩
    · exact absurd h4 (h5 v)
    · have := h5.pos hg; exact ⟨by omega, h5, h6⟩
  obtain ⟨k1, k2, k3⟩ := key fr to hf ht hne ⟨_, hw⟩
  obtain ⟨l1, l2, l3⟩ := key to fr ht hf (Ne.symm hne) ⟨_, way_back hf ht hw⟩
  obtain ⟨n, d0, rr, hF⟩ := fst_exists hg ht hne k1
  have hb := hF.beg
  refine ⟨hne, ht, n, d0, rr, hF, ?_, ?_, ?_⟩
  · have := k3 _ hw; rw [hb] at this; exact this
  · unfold farCell
    rw [cell_index hg (openP_on hf), if_neg hne, if_pos hf, hb]
  · unfold farCell
    rw [cell_index hg (openP_on ht), if_neg (Ne.symm hne), if_pos ht]
    have a1 := l3 _ (way_back hf ht k2)
    have a2 := k3 _ (way_back ht hf l2)
    rw [hb] at a1 a2
    dsimp only at a1 a2
    omega
theorem far_self {g : Gr} (hg : GrOk g) {to : Ce} (ht : openP g to = true) : farCell g (fieldP g to) to (indexP g to).toNat = 0 := by
  unfold farCell
  rw [cell_index hg (openP_on ht), if_pos rfl]
end Go.Proofs.Ytpakkjkjppibnaa

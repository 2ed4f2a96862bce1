/- Layout: the library's heap over a list of places, plain: a twin of its own steps.
   Layout: the heap's list stays a heap, and the popped place is a least one: plain.
   Layout: the shape of the field's two parts, kept by every turn of its loop: plain. -/
import Derived.Test.YtpakkjkjppibnaaBase
namespace Go.Proofs.Ytpakkjkjppibnaa

/-- a place: a cell, the direction by which a path has come, the cost that is left -/
abbrev Pl := Int × Int × Int
def plc (x : Pl) : List Value := [.int .i64 x.1, .int .i64 x.2.1, .int .i64 x.2.2]
def plcs (l : List Pl) : List Value := l.flatMap plc
theorem plcs_len (l : List Pl) : (plcs l).length = l.length * 3 := by
  induction l with
  | nil => rfl
  | cons x l ih => simp only [plcs, List.flatMap_cons, List.length_append] at ih ⊢; rw [ih]; simp [plc]; omega
theorem plcs_append (l r : List Pl) : plcs (l ++ r) = plcs l ++ plcs r := by simp [plcs]
theorem plcs_cell (l : List Pl) : ∀ u ∈ plcs l, u.oneCell' = true := fun u hu => by
  obtain ⟨x, _, h⟩ := List.mem_flatMap.1 hu
  simp [plc] at h
  rcases h with rfl | rfl | rfl <;> rfl

def plD : Pl := (0, 0, 0)
def lessP (l : List Pl) (i j : Nat) : Bool := decide ((l.getD i plD).2.2 < (l.getD j plD).2.2)
def swapP (l : List Pl) (i j : Nat) : List Pl := (l.set i (l.getD j plD)).set j (l.getD i plD)
def upP : Nat → List Pl → Nat → List Pl
  | 0, l, _ => l
  | f + 1, l, j => if j = 0 then l else if lessP l j ((j - 1) / 2) then upP f (swapP l ((j - 1) / 2) j) ((j - 1) / 2) else l
def kid (l : List Pl) (i n : Nat) : Nat := if 2 * i + 2 < n ∧ lessP l (2 * i + 2) (2 * i + 1) = true then 2 * i + 2 else 2 * i + 1
def downP : Nat → List Pl → Nat → Nat → List Pl
  | 0, l, _, _ => l
  | f + 1, l, i, n => if n ≤ 2 * i + 1 then l else if lessP l (kid l i n) i then downP f (swapP l i (kid l i n)) (kid l i n) n else l
def pushP (l : List Pl) (x : Pl) : List Pl := upP (l.length + 1) (l ++ [x]) l.length
def popL (l : List Pl) : List Pl := downP l.length (swapP l 0 (l.length - 1)) 0 (l.length - 1)
def popX (l : List Pl) : Pl := (popL l).getD (l.length - 1) plD
def popR (l : List Pl) : List Pl := (popL l).take (l.length - 1)
theorem swapP_len (l : List Pl) (i j : Nat) : (swapP l i j).length = l.length := by simp [swapP]
theorem upP_len : ∀ f l j, (upP f l j).length = l.length
  | 0, _, _ => rfl
  | f + 1, l, j => by
    unfold upP
    split
    · rfl
    · split
      · rw [upP_len, swapP_len]
      · rfl
theorem downP_len : ∀ f l i n, (downP f l i n).length = l.length
  | 0, _, _, _ => rfl
  | f + 1, l, i, n => by
    unfold downP
    split
    · rfl
    · split
      · rw [downP_len, swapP_len]
      · rfl
theorem pushP_len (l : List Pl) (x : Pl) : (pushP l x).length = l.length + 1 := by unfold pushP; rw [upP_len]; simp
theorem popL_len (l : List Pl) : (popL l).length = l.length := by unfold popL; rw [downP_len, swapP_len]
theorem popR_len (l : List Pl) : (popR l).length = l.length - 1 := by unfold popR; rw [List.length_take, popL_len]; omega
theorem kid_lt {l : List Pl} {i n : Nat} (h : ¬ n ≤ 2 * i + 1) : i < kid l i n ∧ kid l i n < n := by
  unfold kid
  split <;> omega

/-! ### the field -/
/-- the neighbour of a cell -/
def besideP (c : Int × Int) (d : Nat) : Int × Int := match d % 4 with | 0 => (c.1 + 1, c.2) | 1 => (c.1, c.2 + 1) | 2 => (c.1 - 1, c.2) | _ => (c.1, c.2 - 1)
structure Gr where
  w : Nat
  h : Nat
  move : Int
  bend : Int
  shut : List Bool
def onP (w h : Int) (c : Int × Int) : Bool := decide (0 ≤ c.1) && decide (c.1 ≤ w - 1) && (decide (0 ≤ c.2) && decide (c.2 ≤ h - 1))
def indexP (g : Gr) (c : Int × Int) : Int := c.2 * g.w + c.1
def cellP (g : Gr) (i : Nat) : Int × Int := (((i % g.w : Nat) : Int), ((i / g.w : Nat) : Int))
def openP (g : Gr) (c : Int × Int) : Bool := onP g.w g.h c && !(g.shut.getD (indexP g c).toNat false)
def stepP (g : Gr) (b d : Nat) : Int := if b = d then g.move else g.move + g.bend
def quad := List Int
def outGet (o : List (List Int)) (i d : Nat) : Int := (o.getD i []).getD d 0
def outSet (o : List (List Int)) (i d : Nat) (x : Int) : List (List Int) := o.set i ((o.getD i []).set d x)
/-- one turn of the field's loop -/
def turnP (g : Gr) (s : List Pl × List (List Int)) : List Pl × List (List Int) :=
  let p := popX s.1
  let l := popR s.1
  if 0 ≤ outGet s.2 p.1.toNat p.2.1.toNat then (l, s.2)
  else
    let o := outSet s.2 p.1.toNat p.2.1.toNat p.2.2
    let back := besideP (cellP g p.1.toNat) (p.2.1.toNat + 2)
    if openP g back then ((List.range 4).foldl (fun l (d : Nat) => pushP l (indexP g back, (d : Int), p.2.2 + stepP g d p.2.1.toNat)) l, o)
    else (l, o)
def loopP (g : Gr) : Nat → List Pl × List (List Int) → List Pl × List (List Int)
  | 0, s => s
  | f + 1, s => if s.1.length = 0 then s else loopP g f (turnP g s)
def startP (g : Gr) (to : Int × Int) : List Pl × List (List Int) := ((List.range 4).foldl (fun l (d : Nat) => pushP l (indexP g to, (d : Int), 0)) [], List.replicate (g.w * g.h) [-1, -1, -1, -1])
end Go.Proofs.Ytpakkjkjppibnaa

namespace Go.Proofs.Ytpakkjkjppibnaa

def kf (l : List Pl) (i : Nat) : Int := (l.getD i plD).2.2
theorem lessP_iff (l : List Pl) (i j : Nat) : lessP l i j = decide (kf l i < kf l j) := rfl
theorem swapP_get {l : List Pl} {i j : Nat} (hi : i < l.length) (hj : j < l.length) (k : Nat) :
    (swapP l i j).getD k plD = if k = j then l.getD i plD else if k = i then l.getD j plD else l.getD k plD := by
  unfold swapP
  simp only [List.getD_eq_getElem?_getD, List.getElem?_set, List.length_set]
  by_cases h1 : k = j
  · subst h1; simp [hj]
  · have h1' : ¬ j = k := fun e => h1 e.symm
    rw [if_neg h1', if_neg h1]
    by_cases h2 : k = i
    · subst h2; simp [hi]
    · have h2' : ¬ i = k := fun e => h2 e.symm
      rw [if_neg h2', if_neg h2]
theorem swapP_kf {l : List Pl} {i j : Nat} (hi : i < l.length) (hj : j < l.length) (k : Nat) :
    kf (swapP l i j) k = if k = j then kf l i else if k = i then kf l j else kf l k := by
  unfold kf
  rw [swapP_get hi hj]
  split
  · rfl
  · split <;> rfl

/-- every place but c is not less than its parent's -/
def HeapBut (l : List Pl) (n j : Nat) : Prop :=
  (∀ i, 0 < i → i < n → i ≠ j → kf l ((i - 1) / 2) ≤ kf l i) ∧ (0 < j → ∀ i, 0 < i → i < n → (i - 1) / 2 = j → kf l ((j - 1) / 2) ≤ kf l i)
def HeapTo (l : List Pl) (n : Nat) : Prop := ∀ i, 0 < i → i < n → kf l ((i - 1) / 2) ≤ kf l i

theorem up_heap : ∀ (f : Nat) (l : List Pl) (j n : Nat), j < f → j < n → n = l.length → HeapBut l n j → HeapTo (upP f l j) n
  | 0, _, _, _, h, _, _, _ => by omega
  | f + 1, l, j, n, hf, hj, hn, ⟨h1, h2⟩ => by
    unfold upP
    split
    · next h0 => subst h0; exact fun i a b => h1 i a b (by omega)
    · next h0 =>
      have hp : (j - 1) / 2 < j := by omega
      rw [lessP_iff]
      split
      · next hl =>
        have hl : kf l j < kf l ((j - 1) / 2) := by simpa using hl
        obtain ⟨p, hpe⟩ : ∃ p, (j - 1) / 2 = p := ⟨_, rfl⟩
        rw [hpe] at hp hl ⊢
        have hpl : p < l.length := by omega
        have hjl : j < l.length := by omega
        refine up_heap f _ p n (by omega) (by omega) (by rw [swapP_len]; exact hn) ⟨fun i a b c => ?_, fun a i b c d => ?_⟩
        · rw [swapP_kf hpl hjl, swapP_kf hpl hjl]
          by_cases e1 : i = j
          · subst e1
            rw [hpe, if_pos rfl, if_neg (by omega), if_pos rfl]
            omega
          · rw [if_neg e1, if_neg c]
            by_cases e2 : (i - 1) / 2 = j
            · rw [if_pos e2]
              have := h2 (by omega) i a b e2
              rwa [hpe] at this
            · rw [if_neg e2]
              have h3 := h1 i a b e1
              by_cases e3 : (i - 1) / 2 = p
              · rw [if_pos e3]; rw [e3] at h3; omega
              · rw [if_neg e3]; exact h3
        · rw [swapP_kf hpl hjl, swapP_kf hpl hjl, if_neg (by omega), if_neg (by omega)]
          have h3 := h1 p a (by omega) (by omega)
          by_cases e1 : i = j
          · subst e1; rw [if_pos rfl]; exact h3
          · rw [if_neg e1, if_neg (by omega)]
            have h4 := h1 i b c e1
            rw [d] at h4
            omega
      · next hl =>
        have hl : ¬ kf l j < kf l ((j - 1) / 2) := by simpa using hl
        intro i a b
        by_cases e : i = j
        · subst e; omega
        · exact h1 i a b e

def HeapSub (l : List Pl) (n j : Nat) : Prop :=
  (∀ i, 0 < i → i < n → (i - 1) / 2 ≠ j → kf l ((i - 1) / 2) ≤ kf l i) ∧ (0 < j → ∀ i, 0 < i → i < n → (i - 1) / 2 = j → kf l ((j - 1) / 2) ≤ kf l i)

theorem kid_par {l : List Pl} {i n : Nat} (_h : ¬ n ≤ 2 * i + 1) : (kid l i n - 1) / 2 = i ∧ 0 < kid l i n := by
  unfold kid; split <;> omega
theorem kid_min {l : List Pl} {i n c : Nat} (h0 : 0 < c) (hc : c < n) (hp : (c - 1) / 2 = i) : kf l (kid l i n) ≤ kf l c := by
  unfold kid
  by_cases h : 2 * i + 2 < n ∧ lessP l (2 * i + 2) (2 * i + 1) = true
  · rw [if_pos h]
    have := h.2
    rw [lessP_iff] at this
    have h' : kf l (2 * i + 2) < kf l (2 * i + 1) := by simpa using this
    rcases (by omega : c = 2 * i + 1 ∨ c = 2 * i + 2) with rfl | rfl <;> omega
  · rw [if_neg h]
    rcases (by omega : c = 2 * i + 1 ∨ c = 2 * i + 2) with rfl | rfl
    · omega
    · have h' : ¬ kf l (2 * i + 2) < kf l (2 * i + 1) := by
        intro hh; exact h ⟨hc, by rw [lessP_iff]; simpa using hh⟩
      omega

theorem down_heap : ∀ (f : Nat) (l : List Pl) (i n : Nat), n < i + f → i < n → n ≤ l.length → HeapSub l n i → HeapTo (downP f l i n) n
  | 0, _, _, _, _, h, _, _ => by omega
  | f + 1, l, i, n, hf, hi, hn, ⟨h1, h2⟩ => by
    unfold downP
    split
    · next h0 => exact fun c a b => h1 c a b (by omega)
    · next h0 =>
      have hk := kid_lt (l := l) h0
      have hkp := kid_par (l := l) h0
      have hkm : ∀ c, 0 < c → c < n → (c - 1) / 2 = i → kf l (kid l i n) ≤ kf l c := fun c a b d => kid_min a b d
      obtain ⟨m, hm⟩ : ∃ m, kid l i n = m := ⟨_, rfl⟩
      rw [hm] at hk hkp hkm ⊢
      rw [lessP_iff]
      have hil : i < l.length := by omega
      have hml : m < l.length := by omega
      split
      · next hl =>
        have hl : kf l m < kf l i := by simpa using hl
        refine down_heap f _ m n (by omega) hk.2 (by rw [swapP_len]; exact hn) ⟨fun c a b d => ?_, fun a c b d e => ?_⟩
        · rw [swapP_kf hil hml, swapP_kf hil hml, if_neg d]
          by_cases e1 : (c - 1) / 2 = i
          · rw [if_pos e1]
            by_cases e2 : c = m
            · rw [if_pos e2]; omega
            · rw [if_neg e2, if_neg (by omega)]
              exact hkm c a b e1
          · rw [if_neg e1]
            have e2 : c ≠ m := by intro e; subst e; exact e1 hkp.1
            rw [if_neg e2]
            have h3 := h1 c a b e1
            by_cases e3 : c = i
            · subst e3
              rw [if_pos rfl]
              exact h2 a m hkp.2 hk.2 hkp.1
            · rw [if_neg e3]; exact h3
        · rw [swapP_kf hil hml, swapP_kf hil hml, hkp.1, if_neg (by omega), if_pos rfl, if_neg (by omega), if_neg (by omega)]
          have := h1 c b d (by omega)
          rwa [e] at this
      · next hl =>
        have hl : ¬ kf l m < kf l i := by simpa using hl
        intro c a b
        by_cases e : (c - 1) / 2 = i
        · have := hkm c a b e; rw [e]; omega
        · exact h1 c a b e

theorem heap_root {l : List Pl} {n : Nat} (h : HeapTo l n) : ∀ (f i : Nat), i < f → i < n → kf l 0 ≤ kf l i
  | 0, _, a, _ => by omega
  | f + 1, i, a, b => by
    rcases Nat.eq_zero_or_pos i with rfl | h0
    · exact Int.le_refl _
    · exact Int.le_trans (heap_root h f ((i - 1) / 2) (by omega) (by omega)) (h i h0 b)

theorem getD_mem {l : List Pl} {i : Nat} (h : i < l.length) : l.getD i plD ∈ l := by
  rw [List.getD_eq_getElem?_getD, List.getElem?_eq_getElem h]; exact List.getElem_mem h
theorem mem_getD {l : List Pl} {y : Pl} (h : y ∈ l) : ∃ i, i < l.length ∧ l.getD i plD = y := by
  obtain ⟨i, hi, rfl⟩ := List.getElem_of_mem h
  exact ⟨i, hi, by rw [List.getD_eq_getElem?_getD, List.getElem?_eq_getElem hi]; rfl⟩
theorem swapP_mem {l : List Pl} {i j : Nat} (hi : i < l.length) (hj : j < l.length) (y : Pl) : y ∈ swapP l i j ↔ y ∈ l := by
  constructor
  · intro h
    obtain ⟨k, hk, rfl⟩ := mem_getD h
    rw [swapP_len] at hk
    rw [swapP_get hi hj]
    split
    · exact getD_mem hi
    · split
      · exact getD_mem hj
      · exact getD_mem hk
  · intro h
    obtain ⟨k, hk, rfl⟩ := mem_getD h
    by_cases e1 : k = i
    · subst e1
      have := getD_mem (l := swapP l k j) (i := j) (by rw [swapP_len]; exact hj)
      rwa [swapP_get hi hj, if_pos rfl] at this
    · by_cases e2 : k = j
      · subst e2
        have := getD_mem (l := swapP l i k) (i := i) (by rw [swapP_len]; exact hi)
        rw [swapP_get hi hj] at this
        split at this
        · next e => exact absurd e.symm e1
        · rwa [if_pos rfl] at this
      · have := getD_mem (l := swapP l i j) (i := k) (by rw [swapP_len]; exact hk)
        rwa [swapP_get hi hj, if_neg e2, if_neg e1] at this
theorem upP_mem (y : Pl) : ∀ (f : Nat) (l : List Pl) (j : Nat), j < l.length → (y ∈ upP f l j ↔ y ∈ l)
  | 0, _, _, _ => by simp [upP]
  | f + 1, l, j, hj => by
    unfold upP
    split
    · exact Iff.rfl
    · split
      · rw [upP_mem y f _ _ (by rw [swapP_len]; omega), swapP_mem (by omega) hj]
      · exact Iff.rfl
theorem downP_mem (y : Pl) : ∀ (f : Nat) (l : List Pl) (i n : Nat), i < n → n ≤ l.length → (y ∈ downP f l i n ↔ y ∈ l)
  | 0, _, _, _, _, _ => by simp [downP]
  | f + 1, l, i, n, hi, hn => by
    unfold downP
    split
    · exact Iff.rfl
    · next h0 =>
      have hk := kid_lt (l := l) h0
      split
      · rw [downP_mem y f _ _ _ hk.2 (by rw [swapP_len]; exact hn), swapP_mem (by omega) (by omega)]
      · exact Iff.rfl
theorem downP_far (k : Nat) : ∀ (f : Nat) (l : List Pl) (i n : Nat), i < n → n ≤ l.length → n ≤ k → (downP f l i n).getD k plD = l.getD k plD
  | 0, _, _, _, _, _, _ => by simp [downP]
  | f + 1, l, i, n, hi, hn, hk => by
    unfold downP
    split
    · rfl
    · next h0 =>
      have hkd := kid_lt (l := l) h0
      split
      · rw [downP_far k f _ _ _ hkd.2 (by rw [swapP_len]; exact hn) hk, swapP_get (by omega) (by omega), if_neg (by omega), if_neg (by omega)]
      · rfl

/-! ### push and pop -/
theorem push_mem (l : List Pl) (x y : Pl) : y ∈ pushP l x ↔ y = x ∨ y ∈ l := by
  unfold pushP
  rw [upP_mem y _ _ _ (by simp)]
  simp [or_comm]
theorem append_kf {l : List Pl} {x : Pl} {i : Nat} (h : i < l.length) : kf (l ++ [x]) i = kf l i := by
  unfold kf; rw [List.getD_eq_getElem?_getD, List.getD_eq_getElem?_getD, List.getElem?_append_left h]
theorem push_heap {l : List Pl} (x : Pl) (h : HeapTo l l.length) : HeapTo (pushP l x) (pushP l x).length := by
  rw [pushP_len]
  unfold pushP
  refine up_heap _ _ _ _ (by omega) (by omega) (by simp) ⟨fun i a b c => ?_, fun a i b c d => by omega⟩
  rw [append_kf (by omega), append_kf (by omega)]
  exact h i a (by omega)
theorem popL_mem {l : List Pl} (h : 0 < l.length) (y : Pl) : y ∈ popL l ↔ y ∈ l := by
  unfold popL
  by_cases h1 : l.length = 1
  · rw [h1]
    have : downP 1 (swapP l 0 (1 - 1)) 0 (1 - 1) = swapP l 0 0 := by unfold downP; rw [if_pos (by omega)]
    rw [this, swapP_mem h h]
  · rw [downP_mem y _ _ _ _ (by omega) (by rw [swapP_len]; omega), swapP_mem h (by omega)]
theorem popX_eq {l : List Pl} (h : 0 < l.length) : popX l = l.getD 0 plD := by
  unfold popX popL
  by_cases h1 : l.length = 1
  · rw [h1]
    have : downP 1 (swapP l 0 (1 - 1)) 0 (1 - 1) = swapP l 0 0 := by unfold downP; rw [if_pos (by omega)]
    rw [this, swapP_get h h]
    simp
  · rw [downP_far _ _ _ _ _ (by omega) (by rw [swapP_len]; omega) (Nat.le_refl _), swapP_get h (by omega), if_pos rfl]
theorem pop_mem {l : List Pl} (h : 0 < l.length) (y : Pl) : y ∈ l ↔ y = popX l ∨ y ∈ popR l := by
  rw [← popL_mem h y]
  have hl := popL_len l
  have e : popL l = popR l ++ [popX l] := by
    unfold popR
    have h2 : (popL l).drop (l.length - 1) = [popX l] := by
      have hlt : l.length - 1 < (popL l).length := by omega
      rw [List.drop_eq_getElem_cons hlt, List.drop_eq_nil_of_le (by omega)]
      unfold popX
      rw [List.getD_eq_getElem?_getD, List.getElem?_eq_getElem hlt]
      rfl
    rw [← h2, List.take_append_drop]
  rw [e]
  simp [or_comm]
theorem pop_min {l : List Pl} (h : 0 < l.length) (hh : HeapTo l l.length) (y : Pl) (hy : y ∈ l) : (popX l).2.2 ≤ y.2.2 := by
  obtain ⟨i, hi, rfl⟩ := mem_getD hy
  rw [popX_eq h]
  exact heap_root hh (i + 1) i (by omega) hi
theorem pop_heap {l : List Pl} (h : 0 < l.length) (hh : HeapTo l l.length) : HeapTo (popR l) (popR l).length := by
  rw [popR_len]
  have hp : HeapTo (popL l) (l.length - 1) := by
    unfold popL
    by_cases h1 : l.length = 1
    · rw [h1]; intro i a b; omega
    · refine down_heap _ _ _ _ (by omega) (by omega) (by rw [swapP_len]; omega) ⟨fun i a b c => ?_, fun a => by omega⟩
      rw [swapP_kf h (by omega), swapP_kf h (by omega), if_neg (by omega), if_neg (by omega), if_neg (by omega), if_neg (by omega)]
      exact hh i a (by omega)
  intro i a b
  have e : ∀ k, k < l.length - 1 → kf (popR l) k = kf (popL l) k := by
    intro k hk
    unfold kf popR
    rw [List.getD_eq_getElem?_getD, List.getD_eq_getElem?_getD, List.getElem?_take, if_pos hk]
  rw [e _ (by omega), e _ b]
  exact hp i a b
end Go.Proofs.Ytpakkjkjppibnaa

namespace Go.Proofs.Ytpakkjkjppibnaa

/-- how many entries of a table are not set -/
def unr : List Int → Nat
  | [] => 0
  | x :: r => (if x < 0 then 1 else 0) + unr r
def un : List (List Int) → Nat
  | [] => 0
  | r :: o => unr r + un o
theorem unr_le : ∀ r : List Int, unr r ≤ r.length
  | [] => Nat.le_refl _
  | x :: r => by have := unr_le r; unfold unr; simp; split <;> omega
theorem unr_set : ∀ (r : List Int) (d : Nat) (x : Int), d < r.length → r.getD d 0 < 0 → 0 ≤ x → unr (r.set d x) + 1 = unr r
  | y :: r, 0, x, _, h, hx => by
    have h' : y < 0 := by simpa using h
    have hx' : ¬ x < 0 := by omega
    simp only [List.set_cons_zero, unr]
    rw [if_neg hx', if_pos h']; omega
  | y :: r, d + 1, x, hd, h, hx => by
    simp at hd h
    have := unr_set r d x hd (by simpa using h) hx
    simp only [List.set_cons_succ, unr]; omega
theorem un_set : ∀ (o : List (List Int)) (i d : Nat) (x : Int), i < o.length → d < (o.getD i []).length → outGet o i d < 0 → 0 ≤ x → un (outSet o i d x) + 1 = un o
  | r :: o, 0, d, x, _, hd, h, hx => by
    simp [outGet] at hd h
    have := unr_set r d x hd (by simpa using h) hx
    simp only [outSet, List.set_cons_zero, un]; simp at this ⊢; omega
  | r :: o, i + 1, d, x, hi, hd, h, hx => by
    simp at hi hd
    have := un_set o i d x hi (by simpa using hd) (by simpa [outGet] using h) hx
    simp only [outSet, List.set_cons_succ, un] at this ⊢
    simp at this ⊢; omega
theorem un_le : ∀ (o : List (List Int)), (∀ i, i < o.length → (o.getD i []).length = 4) → un o ≤ 4 * o.length
  | [], _ => Nat.le_refl _
  | r :: o, h => by
    have h1 := un_le o (fun i hi => by have := h (i + 1) (by simp; omega); simpa using this)
    have h2 := unr_le r
    have h3 := h 0 (by simp)
    simp at h3
    simp only [un, List.length_cons]; omega
theorem outSet_len (o : List (List Int)) (i d : Nat) (x : Int) : (outSet o i d x).length = o.length := by simp [outSet]
theorem outSet_row {o : List (List Int)} {i d : Nat} {x : Int} (j : Nat) : ((outSet o i d x).getD j []).length = (o.getD j []).length := by
  unfold outSet
  simp only [List.getD_eq_getElem?_getD, List.getElem?_set]
  split
  · next e =>
    subst e
    split
    · simp
    · next h => rw [List.getElem?_eq_none (by omega)]
  · rfl
theorem outSet_get {o : List (List Int)} {i d : Nat} {x : Int} (hi : i < o.length) (hd : d < (o.getD i []).length) (j e : Nat) : outGet (outSet o i d x) j e = if j = i ∧ e = d then x else outGet o j e := by
  unfold outGet outSet
  by_cases h : j = i
  · subst h
    have h1 : (o.set j ((o.getD j []).set d x)).getD j [] = (o.getD j []).set d x := by
      rw [List.getD_eq_getElem?_getD, List.getElem?_set_self hi]; rfl
    rw [h1]
    by_cases h2 : e = d
    · subst h2
      rw [if_pos ⟨rfl, rfl⟩, List.getD_eq_getElem?_getD, List.getElem?_set_self hd]; rfl
    · rw [if_neg (fun k => h2 k.2), List.getD_eq_getElem?_getD, List.getElem?_set_ne (fun k => h2 k.symm), ← List.getD_eq_getElem?_getD]
  · rw [if_neg (fun k => h k.1)]
    have h1 : (o.set i ((o.getD i []).set d x)).getD j [] = o.getD j [] := by
      rw [List.getD_eq_getElem?_getD, List.getElem?_set_ne (fun k => h k.symm), ← List.getD_eq_getElem?_getD]
    rw [h1]

structure GrOk (g : Gr) : Prop where
  len : g.shut.length = g.w * g.h
  w1 : 1 ≤ g.w
  w2 : g.w ≤ 30
  h1 : 1 ≤ g.h
  h2 : g.h ≤ 30
  m1 : 1 ≤ g.move
  m2 : g.move ≤ 1000
  b1 : 0 ≤ g.bend
  b2 : g.bend ≤ 1000
theorem GrOk.cells {g : Gr} (h : GrOk g) : 1 ≤ g.w * g.h ∧ g.w * g.h ≤ 900 := ⟨Nat.mul_le_mul h.w1 h.h1, Nat.mul_le_mul h.w2 h.h2⟩
theorem GrOk.index {g : Gr} (h : GrOk g) {c : Int × Int} (hc : onP g.w g.h c = true) : 0 ≤ c.1 ∧ c.1 ≤ g.w - 1 ∧ 0 ≤ c.2 ∧ c.2 ≤ g.h - 1 ∧ 0 ≤ indexP g c ∧ indexP g c < (g.w * g.h : Nat) := by
  unfold onP at hc
  simp at hc
  obtain ⟨⟨a1, a2⟩, a3, a4⟩ := hc
  have h1 := h.w1
  have h3 := h.h1
  have e1 : 0 ≤ c.2 * (g.w : Int) := Int.mul_nonneg a3 (by omega)
  have e2 : c.2 * (g.w : Int) ≤ ((g.h : Int) - 1) * (g.w : Int) := Int.mul_le_mul_of_nonneg_right a4 (by omega)
  have e3 : ((g.h : Int) - 1) * (g.w : Int) = ((g.w * g.h : Nat) : Int) - (g.w : Int) := by rw [Int.sub_mul, Int.one_mul, Int.mul_comm]; simp
  unfold indexP
  omega
theorem stepP_le {g : Gr} (h : GrOk g) (a b : Nat) : 1 ≤ stepP g a b ∧ stepP g a b ≤ 2000 := by
  have := h.m1; have := h.m2; have := h.b1; have := h.b2
  unfold stepP; split <;> omega

/-- the four pushes of a turn -/
def pushesP (l : List Pl) (f : Nat → Pl) (k : Nat) : List Pl := (List.range k).foldl (fun l d => pushP l (f d)) l
theorem pushesP_succ (l : List Pl) (f : Nat → Pl) (k : Nat) : pushesP l f (k + 1) = pushP (pushesP l f k) (f k) := by
  unfold pushesP; rw [List.range_succ, List.foldl_append]; rfl
theorem pushesP_len (l : List Pl) (f : Nat → Pl) : ∀ k, (pushesP l f k).length = l.length + k
  | 0 => rfl
  | k + 1 => by rw [pushesP_succ, pushP_len, pushesP_len l f k]; omega
theorem pushesP_mem (l : List Pl) (f : Nat → Pl) (y : Pl) : ∀ k, y ∈ pushesP l f k ↔ (∃ d, d < k ∧ y = f d) ∨ y ∈ l
  | 0 => by simp [pushesP]
  | k + 1 => by
    rw [pushesP_succ, push_mem, pushesP_mem l f y k]
    constructor
    · rintro (h | ⟨d, h1, h2⟩ | h)
      · exact .inl ⟨k, by omega, h⟩
      · exact .inl ⟨d, by omega, h2⟩
      · exact .inr h
    · rintro (⟨d, h1, h2⟩ | h)
      · rcases (by omega : d = k ∨ d < k) with rfl | h3
        · exact .inl h2
        · exact .inr (.inl ⟨d, h3, h2⟩)
      · exact .inr (.inr h)
theorem pushesP_heap {l : List Pl} (f : Nat → Pl) (h : HeapTo l l.length) : ∀ k, HeapTo (pushesP l f k) (pushesP l f k).length
  | 0 => h
  | k + 1 => by rw [pushesP_succ]; exact push_heap _ (pushesP_heap f h k)

/-- what holds of the field's two parts ahead of each turn -/
structure FInv (g : Gr) (s : List Pl × List (List Int)) : Prop where
  len : s.2.length = g.w * g.h
  row : ∀ i, i < g.w * g.h → (s.2.getD i []).length = 4
  unl : un s.2 ≤ 4 * (g.w * g.h)
  lo : ∀ i d, -1 ≤ outGet s.2 i d
  out : ∀ i d, outGet s.2 i d ≤ 2000 * ((4 * (g.w * g.h) - un s.2 : Nat) : Int)
  hp : ∀ e ∈ s.1, 0 ≤ e.1 ∧ e.1 < (g.w * g.h : Nat) ∧ 0 ≤ e.2.1 ∧ e.2.1 < 4 ∧ 0 ≤ e.2.2 ∧ e.2.2 ≤ 2000 * ((4 * (g.w * g.h) - un s.2 : Nat) : Int)
def meas (s : List Pl × List (List Int)) : Nat := s.1.length + 5 * un s.2

theorem turn_inv {g : Gr} (hg : GrOk g) {s : List Pl × List (List Int)} (h : FInv g s) (hn : 0 < s.1.length) : FInv g (turnP g s) ∧ meas (turnP g s) < meas s := by
  have hx : popX s.1 ∈ s.1 := (pop_mem hn _).2 (.inl rfl)
  have hr : ∀ e ∈ popR s.1, e ∈ s.1 := fun e he => (pop_mem hn _).2 (.inr he)
  have hl := popR_len s.1
  obtain ⟨x1, x2, x3, x4, x5, x6⟩ := h.hp _ hx
  obtain ⟨i, hi⟩ : ∃ i : Nat, (popX s.1).1 = i := ⟨(popX s.1).1.toNat, by omega⟩
  obtain ⟨d, hd⟩ : ∃ d : Nat, (popX s.1).2.1 = d := ⟨(popX s.1).2.1.toNat, by omega⟩
  obtain ⟨c, hc⟩ : ∃ c, (popX s.1).2.2 = c := ⟨_, rfl⟩
  rw [hc] at x5 x6
  have hiN : i < g.w * g.h := by rw [hi] at x2; exact_mod_cast x2
  have hd4 : d < 4 := by omega
  unfold turnP
  simp only [hi, hd, hc, Int.toNat_natCast]
  by_cases hs : 0 ≤ outGet s.2 i d
  · rw [if_pos hs]
    exact ⟨⟨h.len, h.row, h.unl, h.lo, h.out, fun e he => h.hp e (hr e he)⟩, by unfold meas; dsimp only; omega⟩
  · rw [if_neg hs]
    have hrow := h.row i hiN
    have hu := un_set s.2 i d c (by rw [h.len]; exact hiN) (by omega) (by omega) x5
    have hun := h.unl
    have hle : (2000 : Int) * ((4 * (g.w * g.h) - un (outSet s.2 i d c) : Nat) : Int) = 2000 * ((4 * (g.w * g.h) - un s.2 : Nat) : Int) + 2000 := by omega
    have hlo : ∀ j e, -1 ≤ outGet (outSet s.2 i d c) j e := fun j e => by
      rw [outSet_get (by rw [h.len]; exact hiN) (by omega)]
      split
      · omega
      · exact h.lo j e
    have hout : ∀ j e, outGet (outSet s.2 i d c) j e ≤ 2000 * ((4 * (g.w * g.h) - un (outSet s.2 i d c) : Nat) : Int) := fun j e => by
      rw [outSet_get (by rw [h.len]; exact hiN) (by omega), hle]
      split
      · omega
      · have := h.out j e; omega
    have hlen : (outSet s.2 i d c).length = g.w * g.h := by rw [outSet_len]; exact h.len
    have hrw : ∀ j, j < g.w * g.h → ((outSet s.2 i d c).getD j []).length = 4 := fun j hj => by rw [outSet_row]; exact h.row j hj
    have hhp : ∀ e ∈ popR s.1, 0 ≤ e.1 ∧ e.1 < (g.w * g.h : Nat) ∧ 0 ≤ e.2.1 ∧ e.2.1 < 4 ∧ 0 ≤ e.2.2 ∧ e.2.2 ≤ 2000 * ((4 * (g.w * g.h) - un (outSet s.2 i d c) : Nat) : Int) := fun e he => by
      obtain ⟨a1, a2, a3, a4, a5, a6⟩ := h.hp e (hr e he)
      exact ⟨a1, a2, a3, a4, a5, by omega⟩
    by_cases ho : openP g (besideP (cellP g i) (d + 2)) = true
    · rw [if_pos ho]
      have hon : onP g.w g.h (besideP (cellP g i) (d + 2)) = true := by unfold openP at ho; simp at ho; exact ho.1
      have hix := hg.index hon
      change FInv g (pushesP (popR s.1) (fun k => (indexP g (besideP (cellP g i) (d + 2)), (k : Int), c + stepP g k d)) 4, outSet s.2 i d c) ∧ _
      refine ⟨⟨hlen, hrw, by dsimp only; omega, hlo, hout, fun e he => ?_⟩, ?_⟩
      · rcases (pushesP_mem _ _ _ _).1 he with ⟨k, hk, rfl⟩ | he
        · have := stepP_le hg k d
          exact ⟨hix.2.2.2.2.1, hix.2.2.2.2.2, by dsimp only; omega, by dsimp only; omega, by dsimp only; omega, by dsimp only; omega⟩
        · exact hhp e he
      · change meas (pushesP (popR s.1) (fun k => (indexP g (besideP (cellP g i) (d + 2)), (k : Int), c + stepP g k d)) 4, outSet s.2 i d c) < _
        unfold meas; dsimp only; rw [pushesP_len]; omega
    · rw [if_neg ho]
      exact ⟨⟨hlen, hrw, by dsimp only; omega, hlo, hout, hhp⟩, by unfold meas; dsimp only; omega⟩

theorem unr_four : unr [-1, -1, -1, -1] = 4 := rfl
theorem un_start : ∀ n, un (List.replicate n [-1, -1, -1, -1]) = 4 * n
  | 0 => rfl
  | n + 1 => by rw [List.replicate_succ, un, un_start n, unr_four]; omega
theorem outGet_start (n i d : Nat) : outGet (List.replicate n [-1, -1, -1, -1]) i d = -1 ∨ outGet (List.replicate n [-1, -1, -1, -1]) i d = 0 := by
  unfold outGet
  rw [List.getD_eq_getElem?_getD (l := List.replicate n [-1, -1, -1, -1]), List.getElem?_replicate]
  split
  · match d with
    | 0 | 1 | 2 | 3 => exact .inl rfl
    | d + 4 => exact .inr rfl
  · exact .inr rfl
theorem start_inv {g : Gr} (hg : GrOk g) {to : Int × Int} (ht : onP g.w g.h to = true) : FInv g (startP g to) ∧ meas (startP g to) = 4 + 20 * (g.w * g.h) := by
  change FInv g (pushesP [] (fun d => (indexP g to, (d : Int), 0)) 4, List.replicate (g.w * g.h) [-1, -1, -1, -1]) ∧ meas (pushesP [] (fun d => (indexP g to, (d : Int), 0)) 4, List.replicate (g.w * g.h) [-1, -1, -1, -1]) = _
  have hu := un_start (g.w * g.h)
  refine ⟨⟨by simp, fun i hi => ?_, by dsimp only; omega, fun i d => ?_, fun i d => ?_, fun e he => ?_⟩, ?_⟩
  · rw [List.getD_eq_getElem?_getD, List.getElem?_replicate, if_pos hi]; rfl
  · dsimp only; rcases outGet_start (g.w * g.h) i d with h | h <;> omega
  · dsimp only; rcases outGet_start (g.w * g.h) i d with h | h <;> omega
  · rcases (pushesP_mem _ _ _ _).1 he with ⟨k, hk, rfl⟩ | he
    · have := hg.index ht
      exact ⟨this.2.2.2.2.1, this.2.2.2.2.2, by dsimp only; omega, by dsimp only; omega, by dsimp only; omega, by dsimp only; omega⟩
    · cases he
  · unfold meas; dsimp only; rw [pushesP_len, hu]; simp; omega
theorem loopP_inv {g : Gr} (hg : GrOk g) : ∀ (f : Nat) (s : List Pl × List (List Int)), FInv g s → meas s ≤ f → FInv g (loopP g f s) ∧ (loopP g f s).1 = []
  | 0, s, h, hf => ⟨h, List.eq_nil_of_length_eq_zero (by unfold meas at hf; unfold loopP; omega)⟩
  | f + 1, s, h, hf => by
    unfold loopP
    by_cases h0 : s.1.length = 0
    · rw [if_pos h0]; exact ⟨h, List.eq_nil_of_length_eq_zero h0⟩
    · rw [if_neg h0]
      obtain ⟨h1, h2⟩ := turn_inv hg h (by omega)
      exact loopP_inv hg f _ h1 (by omega)
/-- the field of a place -/
def fieldP (g : Gr) (to : Int × Int) : List (List Int) := (loopP g (4 + 20 * (g.w * g.h)) (startP g to)).2
theorem fieldP_inv {g : Gr} (hg : GrOk g) {to : Int × Int} (ht : onP g.w g.h to = true) : FInv g ([], fieldP g to) := by
  obtain ⟨h1, h2⟩ := start_inv hg ht
  obtain ⟨h3, h4⟩ := loopP_inv hg _ _ h1 (Nat.le_of_eq h2)
  unfold fieldP
  rwa [← h4]
end Go.Proofs.Ytpakkjkjppibnaa

/- Plain: a determinant under an exchange of rows; one with a unit column. -/
import Derived.Test.YtnaoanmkepcinaaDetPlain
namespace Go.Proofs.Ytnaoanmkepcinaa

theorem si_neg (n : Nat) (f : Nat → Int) : si n (fun i => -f i) = -si n f := by
  induction n with
  | zero => rfl
  | succ n ih => simp only [si]; rw [ih]; omega
theorem si_add (n : Nat) (f g : Nat → Int) : si n (fun i => f i + g i) = si n f + si n g := by
  induction n with
  | zero => rfl
  | succ n ih => simp only [si]; rw [ih]; omega
theorem si_zero (n : Nat) : si n (fun _ => 0) = 0 := by
  induction n with
  | zero => rfl
  | succ n ih => simp only [si]; rw [ih]; rfl
theorem si_mul (n : Nat) (x : Int) (f : Nat → Int) : si n (fun i => x * f i) = x * si n f := by
  induction n with
  | zero => simp [si]
  | succ n ih => simp only [si]; rw [ih, Int.mul_add]
theorem si_swap (n m : Nat) (f : Nat → Nat → Int) : si n (fun i => si m fun j => f i j) = si m (fun j => si n fun i => f i j) := by
  induction n with
  | zero => simp only [si]; rw [si_zero]
  | succ n ih =>
    simp only [si]
    rw [ih, ← si_add]
theorem si_one {n c : Nat} (h : c < n) (f : Nat → Int) (hz : ∀ i, i < n → i ≠ c → f i = 0) : si n f = f c := by
  induction n with
  | zero => omega
  | succ n ih =>
    simp only [si]
    by_cases e : c = n
    · subst e
      rw [si_congr (g := fun _ => 0) fun i hi => hz i (by omega) (by omega), si_zero]; omega
    · rw [ih (by omega) fun i hi hne => hz i (by omega) hne, hz n (by omega) (by omega)]; omega

/-- a place with one place left out -/
def sk (k j : Nat) : Nat := if j < k then j else j + 1
theorem si_skip (n k : Nat) (hk : k ≤ n) (g : Nat → Int) : si n (fun l => g (sk k l)) = si (n + 1) (fun c => if c = k then 0 else g c) := by
  induction n with
  | zero =>
    obtain rfl : k = 0 := by omega
    simp [si]
  | succ n ih =>
    by_cases e : k = n + 1
    · subst e
      rw [si_congr (g := g) fun l hl => by unfold sk; rw [if_pos hl]]
      show _ = si (n + 1) _ + (if n + 1 = n + 1 then 0 else g (n + 1))
      rw [if_pos rfl, si_congr (g := g) (f := fun c => if c = n + 1 then 0 else g c) fun l hl => if_neg (by omega)]; omega
    · show si n _ + g (sk k n) = si (n + 1) _ + (if n + 1 = k then 0 else g (n + 1))
      rw [ih (by omega), if_neg (by omega)]
      unfold sk
      rw [if_neg (by omega)]

/-- a matrix without a row and a column -/
def mi (a : Nat → Nat → Int) (r c : Nat) : Nat → Nat → Int := fun i j => a (sk r i) (sk c j)
/-- a determinant -/
def D : Nat → (Nat → Nat → Int) → Int
  | 0, _ => 1
  | n + 1, a => si (n + 1) fun k => alt k * a 0 k * D n (mi a 0 k)
theorem at2_wo (m : List (List Int)) (r c : Nat) : at2 (wo m r c) = mi (at2 m) r c := by
  funext i j
  unfold at2 wo mi
  simp only [List.getD_eq_getElem?_getD, List.getElem?_map, List.getElem?_eraseIdx]
  have e : (if i < r then m[i]? else m[i + 1]?) = m[sk r i]? := by unfold sk; split <;> rfl
  rw [e]
  cases m[sk r i]? with
  | none => simp
  | some l =>
    simp only [Option.map_some, Option.getD_some, List.getElem?_eraseIdx]
    unfold sk; split <;> rfl
theorem dt_D (n : Nat) : ∀ m, dt n m = D n (at2 m) := by
  induction n with
  | zero => intro m; rfl
  | succ n ih => intro m; simp only [dt, D]; exact si_congr fun k _ => by rw [ih, at2_wo]
/-- only the numbers within count -/
theorem D_congr (n : Nat) : ∀ (a b : Nat → Nat → Int), (∀ i j, i < n → j < n → a i j = b i j) → D n a = D n b := by
  induction n with
  | zero => intro a b _; rfl
  | succ n ih =>
    intro a b h
    simp only [D]
    refine si_congr fun k hk => ?_
    rw [h 0 k (by omega) hk, ih (mi a 0 k) (mi b 0 k) fun i j hi hj => h _ _ (by unfold sk; split <;> omega) (by unfold sk; split <;> omega)]

/-- two places left out -/
def sk2 (k c j : Nat) : Nat := if j < min k c then j else if j + 1 < max k c then j + 1 else j + 2
theorem sk_sk (k l j : Nat) : sk k (sk l j) = sk2 k (sk k l) j := by
  unfold sk2 sk
  repeat' split
  all_goals omega
theorem sk2_comm (k c j : Nat) : sk2 k c j = sk2 c k j := by unfold sk2; rw [Nat.min_comm, Nat.max_comm]
def sg (k c : Nat) : Int := if c < k then alt c else -alt c
/-- one product of two numbers of the first two rows -/
def tw (n : Nat) (a : Nat → Nat → Int) (k c : Nat) : Int := if c = k then 0 else alt k * a 0 k * (sg k c * a 1 c * D n (fun i j => a (i + 2) (sk2 k c j)))
theorem D_two (n : Nat) (a : Nat → Nat → Int) : D (n + 2) a = si (n + 2) fun k => si (n + 2) fun c => tw n a k c := by
  show si (n + 2) _ = _
  refine si_congr fun k hk => ?_
  have h1 : D (n + 1) (mi a 0 k) = si (n + 1) fun l => (fun c => sg k c * a 1 c * D n (fun i j => a (i + 2) (sk2 k c j))) (sk k l) := by
    show si (n + 1) _ = _
    refine si_congr fun l hl => ?_
    have e1 : alt l = sg k (sk k l) := by
      unfold sg sk
      by_cases h : l < k
      · rw [if_pos h, if_pos h]
      · rw [if_neg h, if_neg (by omega), alt_succ]; omega
    have e2 : mi a 0 k 0 l = a 1 (sk k l) := rfl
    have e3 : mi (mi a 0 k) 0 l = fun i j => a (i + 2) (sk2 k (sk k l) j) := by
      funext i j
      show a (sk 0 (sk 0 i)) (sk k (sk l j)) = _
      rw [sk_sk k l j]
      rfl
    simp only
    rw [e1, e2, e3]
  rw [h1, si_skip (n + 1) k (by omega) (fun c => sg k c * a 1 c * D n (fun i j => a (i + 2) (sk2 k c j))), ← si_mul]
  refine si_congr fun c hc => ?_
  unfold tw
  split
  · exact Int.mul_zero _
  · rfl

/-- rows exchanged -/
def sw (i k : Nat) (a : Nat → Nat → Int) : Nat → Nat → Int := fun r => if r = i then a k else if r = k then a i else a r
theorem D_sw0 (n : Nat) (a : Nat → Nat → Int) : D (n + 2) (sw 0 1 a) = -D (n + 2) a := by
  rw [D_two, D_two, si_swap (n + 2) (n + 2) (fun k c => tw n a k c), ← si_neg]
  refine si_congr fun k _ => ?_
  rw [← si_neg]
  refine si_congr fun c _ => ?_
  unfold tw
  by_cases e : c = k
  · rw [if_pos e, if_pos e.symm]; rfl
  · rw [if_neg e, if_neg fun h => e h.symm]
    have e0 : sw 0 1 a 0 = a 1 := rfl
    have e1 : sw 0 1 a 1 = a 0 := rfl
    have e2 : (fun i j => sw 0 1 a (i + 2) (sk2 k c j)) = fun i j => a (i + 2) (sk2 c k j) := by
      funext i j
      rw [sk2_comm]
      unfold sw
      rw [if_neg (by omega), if_neg (by omega)]
    rw [e0, e1, e2]
    generalize D n _ = d
    unfold sg
    by_cases h : c < k
    · rw [if_pos h, if_neg (by omega)]
      grind
    · rw [if_neg h, if_pos (by omega)]
      grind
/-- two rows that stand together -/
theorem D_sw1 (n : Nat) : ∀ (i : Nat) (a : Nat → Nat → Int), i + 1 < n → D n (sw i (i + 1) a) = -D n a := by
  induction n with
  | zero => intro i a h; omega
  | succ n ih =>
    intro i a h
    match i with
    | 0 =>
      obtain ⟨n, rfl⟩ : ∃ x, n = x + 1 := ⟨n - 1, by omega⟩
      exact D_sw0 n a
    | i + 1 =>
      simp only [D]
      rw [← si_neg]
      refine si_congr fun k hk => ?_
      have e1 : sw (i + 1) (i + 1 + 1) a 0 = a 0 := rfl
      have e2 : mi (sw (i + 1) (i + 1 + 1) a) 0 k = sw i (i + 1) (mi a 0 k) := by
        funext r j
        show sw (i + 1) (i + 1 + 1) a (r + 1) (sk k j) = sw i (i + 1) (mi a 0 k) r j
        unfold sw
        by_cases h1 : r = i
        · subst h1; rw [if_pos rfl, if_pos rfl]; rfl
        · by_cases h2 : r = i + 1
          · subst h2; rw [if_neg (by omega), if_pos rfl, if_neg (by omega), if_pos rfl]; rfl
          · rw [if_neg (by omega), if_neg (by omega), if_neg h1, if_neg h2]; rfl
      rw [e1, e2, ih i _ (by omega)]
      grind
theorem D_sw (n d : Nat) : ∀ (i : Nat) (a : Nat → Nat → Int), i + d + 1 < n → D n (sw i (i + d + 1) a) = -D n a := by
  induction d with
  | zero => intro i a h; exact D_sw1 n i a h
  | succ d ih =>
    intro i a h
    have e : sw i (i + (d + 1) + 1) a = sw (i + d + 1) (i + d + 1 + 1) (sw i (i + d + 1) (sw (i + d + 1) (i + d + 1 + 1) a)) := by
      funext r
      unfold sw
      repeat' split
      all_goals first | rfl | omega | (congr 1 <;> omega)
    rw [e, D_sw1 n _ _ (by omega), ih i _ (by omega), D_sw1 n _ _ (by omega)]
    omega
theorem sw_comm (i k : Nat) (a : Nat → Nat → Int) : sw i k a = sw k i a := by
  funext r
  unfold sw
  repeat' split
  all_goals first | rfl | (congr 1 <;> omega)
theorem D_swap {n i k : Nat} (hi : i < n) (hk : k < n) (hne : i ≠ k) (a : Nat → Nat → Int) : D n (sw i k a) = -D n a := by
  rcases Nat.lt_or_ge i k with h | h
  · obtain ⟨d, rfl⟩ : ∃ d, k = i + d + 1 := ⟨k - i - 1, by omega⟩
    exact D_sw n d i a (by omega)
  · obtain ⟨d, rfl⟩ : ∃ d, i = k + d + 1 := ⟨i - k - 1, by omega⟩
    rw [sw_comm]
    exact D_sw n d k a (by omega)
theorem D_twice {n i k : Nat} (hi : i < n) (hk : k < n) (hne : i ≠ k) (a : Nat → Nat → Int) (h : a i = a k) : D n a = 0 := by
  have h1 := D_swap hi hk hne a
  have e : sw i k a = a := by
    funext r
    unfold sw
    split
    · rename_i h1; rw [h1, h]
    · split
      · rename_i h1; rw [h1, h]
      · rfl
  rw [e] at h1
  omega

/-- a column of zeros -/
theorem D_col0 (n : Nat) : ∀ (c : Nat) (a : Nat → Nat → Int), c < n → (∀ i, i < n → a i c = 0) → D n a = 0 := by
  induction n with
  | zero => intro c a h; omega
  | succ n ih =>
    intro c a hc h
    simp only [D]
    rw [si_congr (g := fun _ => 0) fun k hk => ?_, si_zero]
    by_cases e : k = c
    · subst e; rw [h 0 (by omega)]; simp
    · have : D n (mi a 0 k) = 0 := by
        refine ih (if c < k then c else c - 1) _ (by split <;> omega) fun i hi => ?_
        unfold mi sk
        have : (if (if c < k then c else c - 1) < k then (if c < k then c else c - 1) else (if c < k then c else c - 1) + 1) = c := by
          repeat' split
          all_goals omega
        rw [this]
        exact h _ (by split <;> omega)
      rw [this]; simp
/-- a column that is a unit at the top -/
theorem D_unit0 (n c : Nat) (a : Nat → Nat → Int) (hc : c < n + 1) (h0 : a 0 c = 1) (h : ∀ i, i < n → a (i + 1) c = 0) : D (n + 1) a = alt c * D n (mi a 0 c) := by
  simp only [D]
  rw [si_one hc]
  · rw [h0]; simp
  · intro k hk hne
    have : D n (mi a 0 k) = 0 := by
      refine D_col0 n (if c < k then c else c - 1) _ (by split <;> omega) fun i hi => ?_
      unfold mi sk
      have : (if (if c < k then c else c - 1) < k then (if c < k then c else c - 1) else (if c < k then c else c - 1) + 1) = c := by
        repeat' split
        all_goals omega
      rw [this]
      exact h i hi
    rw [this]; simp
/-- a row brought to the top -/
def tp (r : Nat) (a : Nat → Nat → Int) : Nat → Nat → Int := fun i => if i = 0 then a r else a (sk r (i - 1))
theorem D_tp (n r : Nat) : ∀ (a : Nat → Nat → Int), r < n → D n (tp r a) = alt r * D n a := by
  induction r with
  | zero =>
    intro a h
    have e : tp 0 a = a := by
      funext i
      unfold tp sk
      split
      · rename_i h; rw [h]
      · rw [if_neg (by omega)]; congr 1; omega
    rw [e]; simp [alt]
  | succ r ih =>
    intro a h
    have e : tp (r + 1) a = tp r (sw r (r + 1) a) := by
      funext i
      unfold tp sk sw
      repeat' split
      all_goals first | rfl | omega | (congr 1 <;> omega)
    rw [e, ih _ (by omega), D_sw1 n r a h, alt_succ]
    grind
theorem D_unit (n r c : Nat) (a : Nat → Nat → Int) (hr : r < n + 1) (hc : c < n + 1) (h1 : a r c = 1) (h : ∀ i, i < n + 1 → i ≠ r → a i c = 0) : D (n + 1) a = alt (r + c) * D n (mi a r c) := by
  have e1 := D_tp (n + 1) r a hr
  have e2 := D_unit0 n c (tp r a) hc (by unfold tp; simpa using h1) fun i hi => by
    unfold tp
    rw [if_neg (by omega)]
    exact h _ (by unfold sk; split <;> omega) (by unfold sk; split <;> omega)
  have e3 : mi (tp r a) 0 c = mi a r c := by
    funext i j
    unfold mi tp
    have : sk 0 i = i + 1 := rfl
    rw [this, if_neg (by omega), Nat.add_sub_cancel]
  rw [e1, e3] at e2
  have e4 : alt (r + c) = alt r * alt c := by
    unfold alt
    repeat' split
    all_goals omega
  rw [e4]
  rcases alt_cases r with h | h <;> rw [h] at e2 ⊢ <;> grind

theorem at2_ext {m : List (List Int)} {a : Nat → Nat → Int} {n : Nat} (h : ∀ i j, i < n → j < n → at2 m i j = a i j) : dt n m = D n a := by
  rw [dt_D]; exact D_congr n _ _ h

end Go.Proofs.Ytnaoanmkepcinaa

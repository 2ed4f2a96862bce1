/- Plain law: the light of all inputs meets every switch twice. -/
import Derived.Test.YtelnlmhelkcliaaDoorTrace
namespace Go.Proofs.YtelnlmhelkcliaaDoor

/-- a sum over the numbers below n -/
def su : Nat → (Nat → Nat) → Nat
  | 0, _ => 0
  | n + 1, f => su n f + f n
theorem su_congr {n : Nat} {f g : Nat → Nat} (h : ∀ i, i < n → f i = g i) : su n f = su n g := by
  induction n with
  | zero => rfl
  | succ n ih => simp only [su]; rw [ih fun i hi => h i (by omega), h n (by omega)]
theorem su_add (n : Nat) (f g : Nat → Nat) : su n (fun i => f i + g i) = su n f + su n g := by
  induction n with
  | zero => rfl
  | succ n ih => simp only [su]; omega
theorem su_pair (n : Nat) (f : Nat → Nat) : su (2 * n) f = su n (fun q => f (2 * q) + f (2 * q + 1)) := by
  induction n with
  | zero => rfl
  | succ n ih => rw [show 2 * (n + 1) = 2 * n + 1 + 1 by omega]; simp only [su]; omega
theorem su_zero (n : Nat) : su n (fun _ => 0) = 0 := by
  induction n with
  | zero => rfl
  | succ n ih => simp only [su]; omega
theorem su_le {n : Nat} {f : Nat → Nat} {b : Nat} (h : ∀ i, i < n → f i ≤ b) : su n f ≤ n * b := by
  induction n with
  | zero => simp [su]
  | succ n ih => have := ih fun i hi => h i (by omega); have := h n (by omega); simp only [su, Nat.succ_mul]; omega

/-- 1 where two numbers are one -/
def d1 (x y : Nat) : Nat := if x = y then 1 else 0
theorem su_d1 (n c x : Nat) : su n (fun q => d1 (c + q) x) = if c ≤ x ∧ x < c + n then 1 else 0 := by
  induction n with
  | zero => simp only [su]; split <;> omega
  | succ n ih => simp only [su]; rw [ih]; unfold d1; repeat' split
                 all_goals omega

/-- the outputs are a permutation -/
theorem tro_su (k : Nat) : ∀ (S : List Bool) (b y : Nat), su (pw k) (fun i => d1 (tro k S i b) y) = if y < pw k then 1 else 0 := by
  induction k with
  | zero =>
    intro S b y
    show 0 + d1 (sd S b 0) y + d1 (sd S b 1) y = if y < 2 then 1 else 0
    have e : sd S b 0 = 0 ∧ sd S b 1 = 1 ∨ sd S b 0 = 1 ∧ sd S b 1 = 0 := by unfold sd; split <;> omega
    rcases e with ⟨e0, e1⟩ | ⟨e0, e1⟩
    all_goals
      rw [e0, e1]
      unfold d1
      repeat' split
      all_goals omega
  | succ k ih =>
    intro S b y
    rw [show pw (k + 1) = 2 * pw k from rfl, su_pair]
    have hp : su (pw k) (fun q => d1 (tro (k + 1) S (2 * q) b) y + d1 (tro (k + 1) S (2 * q + 1) b) y) =
        su (pw k) (fun q => d1 (2 * tro k S q (b + pw (k + 1)) + sd S (b + pw k + tro k S q (b + pw (k + 1))) 0) y + d1 (2 * tro k S q (b + pw (k + 1) + cnt k) + sd S (b + pw k + tro k S q (b + pw (k + 1) + cnt k)) 1) y) := by
      refine su_congr fun q _ => ?_
      simp only [tro]
      rw [show 2 * q / 2 = q by omega, show (2 * q + 1) / 2 = q by omega, show 2 * q % 2 = 0 by omega, show (2 * q + 1) % 2 = 1 by omega]
      generalize hS : S.getD (b + q) false = t
      have e0 : sd S (b + q) 0 = if t then 1 else 0 := by unfold sd; rw [hS]
      have e1 : sd S (b + q) 1 = if t then 0 else 1 := by unfold sd; rw [hS]
      rw [e0, e1]
      cases t
      · simp
      · simp; omega
    rw [hp, su_add]
    -- one of the two sides gives y
    have key : ∀ (c s : Nat), s ≤ 1 → su (pw k) (fun q => d1 (2 * tro k S q c + sd S (b + pw k + tro k S q c) s) y) = if sd S (b + pw k + y / 2) s = y % 2 then (if y / 2 < pw k then 1 else 0) else 0 := by
      intro c s hs
      by_cases hy : sd S (b + pw k + y / 2) s = y % 2
      · rw [if_pos hy, ← ih S c (y / 2)]
        refine su_congr fun q _ => ?_
        have hlt := sd_lt S (b + pw k + tro k S q c) s hs
        unfold d1
        by_cases e : tro k S q c = y / 2
        · rw [if_pos e, if_pos (by rw [e, hy]; omega)]
        · rw [if_neg e, if_neg (by omega)]
      · rw [if_neg hy, ← su_zero (pw k)]
        refine su_congr fun q _ => ?_
        have hlt := sd_lt S (b + pw k + tro k S q c) s hs
        unfold d1
        by_cases e : tro k S q c = y / 2
        · rw [if_neg]; rw [e]; intro h; exact hy (by omega)
        · rw [if_neg (by omega)]
    rw [key _ 0 (by omega), key _ 1 (by omega)]
    have e01 : sd S (b + pw k + y / 2) 0 = y % 2 ∧ ¬ sd S (b + pw k + y / 2) 1 = y % 2 ∨ ¬ sd S (b + pw k + y / 2) 0 = y % 2 ∧ sd S (b + pw k + y / 2) 1 = y % 2 := by
      unfold sd; split <;> omega
    rcases e01 with ⟨a1, a2⟩ | ⟨a1, a2⟩
    · rw [if_pos a1, if_neg a2]; split <;> (split <;> omega)
    · rw [if_neg a1, if_pos a2]; split <;> (split <;> omega)

theorem cnt_app (A B : List Int) (x : Int) : (A ++ B).count x = A.count x + B.count x := List.count_append
theorem cnt_one (a x : Nat) : [((a : Nat) : Int)].count ((x : Nat) : Int) = d1 a x := by
  unfold d1
  rw [List.count_cons, List.count_nil]
  by_cases h : a = x
  · simp [h]
  · rw [if_neg h, if_neg (by simp; omega)]

/-- every switch is met twice -/
theorem meets (k : Nat) : ∀ (S : List Bool) (b x : Nat), su (pw k) (fun i => (trm k S i b).count (x : Int)) = if b ≤ x ∧ x < b + cnt k then 2 else 0 := by
  induction k with
  | zero =>
    intro S b x
    have : su (pw 0) (fun i => (trm 0 S i b).count (x : Int)) = d1 b x + d1 b x := by
      simp only [pw, su, trm]; rw [cnt_one]; omega
    rw [this]
    have e1 : cnt 0 = 1 := rfl
    unfold d1
    by_cases h : b = x
    · rw [if_pos h, if_pos (by omega)]
    · rw [if_neg h, if_neg (by omega)]
  | succ k ih =>
    intro S b x
    have hp : su (pw (k + 1)) (fun i => (trm (k + 1) S i b).count (x : Int)) =
        su (pw k) (fun q => (((d1 (b + q) x + d1 (b + q) x) + ((trm k S q (b + pw (k + 1))).count (x : Int) + (trm k S q (b + pw (k + 1) + cnt k)).count (x : Int))) + (d1 (b + pw k + tro k S q (b + pw (k + 1))) x + d1 (b + pw k + tro k S q (b + pw (k + 1) + cnt k)) x))) := by
      rw [show pw (k + 1) = 2 * pw k from rfl, su_pair]
      refine su_congr fun q _ => ?_
      simp only [trm]
      rw [show 2 * q / 2 = q by omega, show (2 * q + 1) / 2 = q by omega, show 2 * q % 2 = 0 by omega, show (2 * q + 1) % 2 = 1 by omega]
      rw [show 2 * pw k = pw (k + 1) from rfl]
      simp only [cnt_app, cnt_one]
      generalize hS : S.getD (b + q) false = t
      have e0 : sd S (b + q) 0 = if t then 1 else 0 := by unfold sd; rw [hS]
      have e1 : sd S (b + q) 1 = if t then 0 else 1 := by unfold sd; rw [hS]
      rw [e0, e1]
      cases t
      · simp only [Bool.false_eq_true, if_false, Nat.zero_mul, Nat.one_mul, Nat.add_zero]; omega
      · simp only [if_true, Nat.zero_mul, Nat.one_mul, Nat.add_zero]; omega
    rw [hp, su_add, su_add, su_add, su_add, su_add, su_d1, ih, ih]
    have key : ∀ c, su (pw k) (fun q => d1 (b + pw k + tro k S q c) x) = if b + pw k ≤ x ∧ x < b + pw k + pw k then 1 else 0 := by
      intro c
      by_cases h : b + pw k ≤ x
      · have := tro_su k S c (x - (b + pw k))
        rw [show su (pw k) (fun q => d1 (b + pw k + tro k S q c) x) = su (pw k) (fun i => d1 (tro k S i c) (x - (b + pw k))) from su_congr fun q _ => by unfold d1; split <;> split <;> omega, this]
        split <;> split <;> omega
      · rw [if_neg (by omega), ← su_zero (pw k)]
        refine su_congr fun q _ => ?_
        unfold d1; rw [if_neg (by omega)]
    rw [key, key]
    have e1 : pw (k + 1) = 2 * pw k := rfl
    have e2 : cnt (k + 1) = pw (k + 1) + 2 * cnt k := rfl
    rw [e2, e1]
    repeat' split
    all_goals omega

/-- every switch met is one of the network's -/
theorem trm_bd (k : Nat) : ∀ (S : List Bool) (i b : Nat), i < pw k → ∀ z ∈ trm k S i b, (b : Int) ≤ z ∧ z < ((b + cnt k : Nat) : Int) := by
  induction k with
  | zero => intro S i b _ z hz; simp only [trm, List.mem_singleton] at hz; subst hz; simp only [cnt]; omega
  | succ k ih =>
    intro S i b hi z hz
    have e1 : pw (k + 1) = 2 * pw k := rfl
    have e2 : cnt (k + 1) = pw (k + 1) + 2 * cnt k := rfl
    have hil : i / 2 < pw k := by omega
    simp only [trm] at hz
    have hs := sd_lt S (b + i / 2) (i % 2) (by omega)
    generalize sd S (b + i / 2) (i % 2) = s at *
    have hs2 : s = 0 ∨ s = 1 := by omega
    rw [List.mem_append, List.mem_append, List.mem_singleton, List.mem_singleton] at hz
    rcases hz with (rfl | hz) | rfl
    · omega
    · have := ih _ _ _ hil z hz
      rcases hs2 with rfl | rfl <;> omega
    · have := tro_lt k S (i / 2) (b + pw (k + 1) + s * cnt k) hil
      omega

/-- how often switch x was met behind i inputs and kk switches -/
def met (k : Nat) (S : List Bool) (i kk x : Nat) : Nat := su i (fun j => (trm k S j 0).count (x : Int)) + ((trm k S i 0).take kk).count (x : Int)
def metL (k : Nat) (S : List Bool) (i kk : Nat) : List Int := (List.range (cnt k)).map fun x => ((met k S i kk x : Nat) : Int)
theorem metL_len (k : Nat) (S : List Bool) (i kk : Nat) : (metL k S i kk).length = cnt k := by simp [metL]
theorem metL_get {k : Nat} {S : List Bool} {i kk x : Nat} (h : x < cnt k) : (metL k S i kk)[x]? = some ((met k S i kk x : Nat) : Int) := by
  simp [metL, h]
theorem metL_zero (k : Nat) (S : List Bool) : metL k S 0 0 = List.replicate (cnt k) 0 := by
  apply List.ext_getElem
  · simp [metL]
  · intro j h1 h2; simp [metL, met, su]
theorem metL_next (k : Nat) (S : List Bool) (i : Nat) : metL k S i (2 * k + 1) = metL k S (i + 1) 0 := by
  unfold metL
  congr 1
  funext x
  unfold met
  rw [List.take_of_length_le (by rw [trm_len]; omega), List.take_zero, List.count_nil]
  rfl
theorem metL_step (k : Nat) (S : List Bool) (i kk y : Nat) (h : (trm k S i 0)[kk]? = some (y : Int)) :
    (metL k S i kk).set y (((met k S i kk y : Nat) : Int) + 1) = metL k S i (kk + 1) := by
  have hs : ∀ x : Nat, met k S i (kk + 1) x = met k S i kk x + d1 y x := by
    intro x
    unfold met
    rw [List.take_add_one, h, cnt_app]
    show _ + (_ + List.count (x : Int) [(y : Int)]) = _
    rw [cnt_one]; omega
  apply List.ext_getElem
  · simp [metL]
  · intro j h1 h2
    rw [List.getElem_set]
    simp only [metL, List.getElem_map, List.getElem_range]
    rw [hs]
    unfold d1
    split <;> simp_all
theorem met_le (k : Nat) (S : List Bool) (i kk x : Nat) (hi : i < 16) (hk : k ≤ 3) : met k S i kk x ≤ 1000 := by
  unfold met
  have h1 : su i (fun j => (trm k S j 0).count (x : Int)) ≤ i * (2 * k + 1) := su_le fun j _ => by
    have := List.count_le_length (a := (x : Int)) (l := trm k S j 0); rw [trm_len] at this; exact this
  have h2 := List.count_le_length (a := (x : Int)) (l := (trm k S i 0).take kk)
  have h3 : ((trm k S i 0).take kk).length ≤ (trm k S i 0).length := by rw [List.length_take]; omega
  rw [trm_len] at h3
  have h4 : i * (2 * k + 1) ≤ 16 * 7 := Nat.mul_le_mul (by omega) (by omega)
  omega
theorem metL_end (k : Nat) (S : List Bool) : metL k S (pw k) 0 = List.replicate (cnt k) 2 := by
  apply List.ext_getElem
  · simp [metL]
  · intro j h1 h2
    have hj : j < cnt k := by simpa [metL] using h1
    simp only [metL, List.getElem_map, List.getElem_range, List.getElem_replicate, met, List.take_zero, List.count_nil]
    rw [meets, if_pos (by omega)]; rfl

end Go.Proofs.YtelnlmhelkcliaaDoor

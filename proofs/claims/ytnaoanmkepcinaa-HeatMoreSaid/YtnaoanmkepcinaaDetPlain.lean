/- Plain: determinants by their first rows; their bounds. -/
import Derived.Test.YtnaoanmkepcinaaHDel
namespace Go.Proofs.Ytnaoanmkepcinaa

/-- a sum over the numbers below n -/
def si : Nat → (Nat → Int) → Int
  | 0, _ => 0
  | n + 1, f => si n f + f n
theorem si_congr {n : Nat} {f g : Nat → Int} (h : ∀ i, i < n → f i = g i) : si n f = si n g := by
  induction n with
  | zero => rfl
  | succ n ih => simp only [si]; rw [ih fun i hi => h i (by omega), h n (by omega)]
/-- the sign of a column -/
def alt (k : Nat) : Int := if k % 2 = 0 then 1 else -1
theorem alt_succ (k : Nat) : alt (k + 1) = -alt k := by unfold alt; split <;> split <;> omega
theorem alt_cases (k : Nat) : alt k = 1 ∨ alt k = -1 := by unfold alt; split <;> simp
/-- the number in a row and a column -/
def at2 (m : List (List Int)) (i k : Nat) : Int := (m.getD i []).getD k 0
/-- a determinant -/
def dt : Nat → List (List Int) → Int
  | 0, _ => 1
  | n + 1, m => si (n + 1) fun k => alt k * at2 m 0 k * dt n (wo m 0 k)
/-- a product, a factorial -/
def pr : List Nat → Nat
  | [] => 1
  | c :: l => c * pr l
def fac : Nat → Nat
  | 0 => 1
  | n + 1 => (n + 1) * fac n
theorem pr_erase : ∀ (l : List Nat) (k c : Nat), l[k]? = some c → c * pr (l.eraseIdx k) = pr l
  | [], k, c, h => by simp at h
  | a :: l, 0, c, h => by simp at h; subst h; rfl
  | a :: l, k + 1, c, h => by
    simp at h
    simp only [List.eraseIdx_cons_succ, pr]
    rw [← pr_erase l k c h, Nat.mul_left_comm]

/-- A square matrix whose columns are bounded. -/
def Bd (m : List (List Int)) (cw : List Nat) : Prop := ∀ r ∈ m, r.length = cw.length ∧ ∀ (k : Nat) (x : Int) (c : Nat), r[k]? = some x → cw[k]? = some c → x.natAbs ≤ c
theorem Bd.wo {m : List (List Int)} {cw : List Nat} (h : Bd m cw) (row k : Nat) (hk : k < cw.length) : Bd (wo m row k) (cw.eraseIdx k) := by
  intro s hs
  unfold Go.Proofs.Ytnaoanmkepcinaa.wo at hs
  obtain ⟨r, hr, rfl⟩ := List.mem_map.1 hs
  obtain ⟨h1, h2⟩ := h r (List.mem_of_mem_eraseIdx hr)
  refine ⟨by rw [List.length_eraseIdx_of_lt (by omega), List.length_eraseIdx_of_lt hk, h1], fun j x c hx hc => ?_⟩
  rw [List.getElem?_eraseIdx] at hx hc
  split at hx
  · rw [if_pos (by assumption)] at hc; exact h2 j x c hx hc
  · rw [if_neg (by assumption)] at hc; exact h2 _ x c hx hc
theorem wo_len {m : List (List Int)} {row k : Nat} (h : row < m.length) : (wo m row k).length = m.length - 1 := by
  unfold wo; rw [List.length_map, List.length_eraseIdx_of_lt h]

theorem si_bd (n : Nat) (f : Nat → Int) (B : Nat) (h : ∀ k, k < n → (f k).natAbs ≤ B) : (si n f).natAbs ≤ n * B := by
  induction n with
  | zero => simp [si]
  | succ n ih =>
    have h1 := ih fun k hk => h k (by omega)
    have h2 := h n (by omega)
    simp only [si, Nat.succ_mul]
    omega
theorem at2_get {m : List (List Int)} {i k : Nat} {r : List Int} {x : Int} (h1 : m[i]? = some r) (h2 : r[k]? = some x) : at2 m i k = x := by
  unfold at2
  rw [List.getD_eq_getElem?_getD, List.getD_eq_getElem?_getD, h1]
  simp [h2]
theorem alt_abs (k : Nat) : (alt k).natAbs = 1 := by rcases alt_cases k with h | h <;> rw [h] <;> rfl

theorem dt_bd (n : Nat) : ∀ (m : List (List Int)) (cw : List Nat), m.length = n → cw.length = n → Bd m cw →
    (dt n m).natAbs ≤ fac n * pr cw ∧ ∀ j k, n = j + 1 → k < n → (alt k * at2 m 0 k * dt j (wo m 0 k)).natAbs ≤ fac j * pr cw := by
  induction n with
  | zero =>
    intro m cw _ hc _
    obtain rfl := List.eq_nil_of_length_eq_zero hc
    exact ⟨by simp [dt, fac, pr], fun j k h => by omega⟩
  | succ n ih =>
    intro m cw hm hc hb
    have key : ∀ k, k < n + 1 → (alt k * at2 m 0 k * dt n (wo m 0 k)).natAbs ≤ fac n * pr cw := by
      intro k hk
      obtain ⟨r, hr⟩ : ∃ r, m[0]? = some r := ⟨_, List.getElem?_eq_getElem (by omega)⟩
      obtain ⟨h1, h2⟩ := hb r (List.mem_of_getElem? hr)
      obtain ⟨x, hx⟩ : ∃ x, r[k]? = some x := ⟨_, List.getElem?_eq_getElem (by omega)⟩
      obtain ⟨c, hcc⟩ : ∃ c, cw[k]? = some c := ⟨_, List.getElem?_eq_getElem (by omega)⟩
      have h3 := h2 k x c hx hcc
      have h4 := (ih (wo m 0 k) (cw.eraseIdx k) (by rw [wo_len (by omega)]; omega) (by rw [List.length_eraseIdx_of_lt (by omega)]; omega) (hb.wo 0 k (by omega))).1
      rw [at2_get hr hx, Int.natAbs_mul, Int.natAbs_mul, alt_abs, Nat.one_mul, ← pr_erase cw k c hcc]
      calc x.natAbs * (dt n (wo m 0 k)).natAbs ≤ c * (fac n * pr (cw.eraseIdx k)) := Nat.mul_le_mul h3 h4
        _ = fac n * (c * pr (cw.eraseIdx k)) := Nat.mul_left_comm _ _ _
    refine ⟨?_, fun j k h hk => by obtain rfl : j = n := by omega
                                   exact key k hk⟩
    show (si (n + 1) _).natAbs ≤ (n + 1) * fac n * pr cw
    rw [Nat.mul_assoc]
    exact si_bd _ _ _ key
theorem si_dt_bd (n k : Nat) (m : List (List Int)) (cw : List Nat) (hm : m.length = n + 1) (hc : cw.length = n + 1) (hb : Bd m cw) (hk : k ≤ n + 1) :
    (si k fun k => alt k * at2 m 0 k * dt n (wo m 0 k)).natAbs ≤ fac (n + 1) * pr cw := by
  have h := si_bd k (fun k => alt k * at2 m 0 k * dt n (wo m 0 k)) (fac n * pr cw) fun i hi => (dt_bd (n + 1) m cw hm hc hb).2 n i rfl (by omega)
  have h2 : k * (fac n * pr cw) ≤ (n + 1) * (fac n * pr cw) := Nat.mul_le_mul_right _ hk
  show _ ≤ (n + 1) * fac n * pr cw
  rw [Nat.mul_assoc]
  omega

end Go.Proofs.Ytnaoanmkepcinaa

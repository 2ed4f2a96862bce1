/- Layout: the rim, plain: both texts' rims are one list. -/
import Derived.Test.YtpakkjkjppibnaaGPar2
namespace Go.Proofs.Ytpakkjkjppibnaa

def putL (acc : List Ce) (c : Ce) : List Ce := if c ∈ acc then acc else acc ++ [c]
def ddL (l : List Ce) : List Ce := l.foldl putL []
theorem ddL_snoc (l : List Ce) (c : Ce) : ddL (l ++ [c]) = putL (ddL l) c := by unfold ddL; rw [List.foldl_append]; rfl
theorem fold_mem (c : Ce) : ∀ (l acc : List Ce), c ∈ l.foldl putL acc ↔ c ∈ acc ∨ c ∈ l
  | [], acc => by simp
  | x :: l, acc => by
    rw [List.foldl_cons, fold_mem c l]
    unfold putL
    split
    · rename_i h
      constructor
      · rintro (h1 | h1)
        · exact .inl h1
        · exact .inr (List.mem_cons_of_mem _ h1)
      · rintro (h1 | h1)
        · exact .inl h1
        · rcases List.mem_cons.1 h1 with rfl | h1
          · exact .inl h
          · exact .inr h1
    · simp only [List.mem_append, List.mem_cons, List.not_mem_nil, or_false]
      rw [or_assoc]
theorem ddL_mem (l : List Ce) (c : Ce) : c ∈ ddL l ↔ c ∈ l := by unfold ddL; rw [fold_mem]; simp
theorem fold_absorb : ∀ (l acc : List Ce), (∀ c ∈ l, c ∈ acc) → l.foldl putL acc = acc
  | [], acc, _ => rfl
  | x :: l, acc, h => by
    rw [List.foldl_cons, show putL acc x = acc by unfold putL; rw [if_pos (h x (by simp))], fold_absorb l acc fun c hc => h c (List.mem_cons_of_mem _ hc)]
theorem fold_new : ∀ (l acc : List Ce), (∀ c ∈ l, c ∉ acc) → l.Nodup → l.foldl putL acc = acc ++ l
  | [], acc, _, _ => by simp
  | x :: l, acc, h, hn => by
    have hn' := List.nodup_cons.1 hn
    rw [List.foldl_cons, show putL acc x = acc ++ [x] by unfold putL; rw [if_neg (h x (by simp))], fold_new l (acc ++ [x]) (fun c hc => by
      simp only [List.mem_append, List.mem_singleton, not_or]
      exact ⟨h c (List.mem_cons_of_mem _ hc), fun e => hn'.1 (e ▸ hc)⟩) hn'.2]
    simp
theorem fold_len : ∀ (l acc : List Ce), (l.foldl putL acc).length ≤ acc.length + l.length
  | [], acc => by simp
  | x :: l, acc => by
    rw [List.foldl_cons]
    have := fold_len l (putL acc x)
    have h2 : (putL acc x).length ≤ acc.length + 1 := by unfold putL; split <;> simp
    simp only [List.length_cons]
    omega
theorem ddL_len (l : List Ce) : (ddL l).length ≤ l.length := by have := fold_len l []; simpa [ddL] using this
theorem putL_nodup {acc : List Ce} (h : acc.Nodup) (c : Ce) : (putL acc c).Nodup := by
  unfold putL
  split
  · exact h
  · rename_i hc
    exact List.nodup_append.2 ⟨h, by simp, fun a ha b hb => by rw [List.mem_singleton] at hb; subst hb; exact fun e => hc (e ▸ ha)⟩
theorem fold_nodup : ∀ (l acc : List Ce), acc.Nodup → (l.foldl putL acc).Nodup
  | [], _, h => h
  | x :: l, acc, h => by rw [List.foldl_cons]; exact fold_nodup l _ (putL_nodup h x)
theorem ddL_nodup (l : List Ce) : (ddL l).Nodup := fold_nodup l [] List.nodup_nil
theorem ddL_self {l : List Ce} (h : l.Nodup) : ddL l = l := by unfold ddL; rw [fold_new l [] (by simp) h]; rfl

def rimA (w : Nat) : List Ce := (List.range w).map fun (x : Nat) => ((x : Int), (0 : Int))
def rimB (w h : Nat) : List Ce := (List.range (h - 1)).map fun (y : Nat) => ((w : Int) - 1, (y : Int) + 1)
def rimC' (w h : Nat) : List Ce := (List.range (w - 1)).map fun (k : Nat) => ((w : Int) - 2 - k, (h : Int) - 1)
def rimD (h : Nat) : List Ce := (List.range (h - 2)).map fun (k : Nat) => ((0 : Int), (h : Int) - 2 - k)
def rawR (w h : Nat) : List Ce := rimA w ++ rimB w h ++ rimC' w h ++ rimD h
def rimB2 (w h : Nat) : List Ce := (List.range h).map fun (y : Nat) => ((w : Int) - 1, (y : Int))
def rimC2 (w h : Nat) : List Ce := (List.range w).map fun (k : Nat) => ((w : Int) - 1 - k, (h : Int) - 1)
def rimD2 (h : Nat) : List Ce := (List.range h).map fun (k : Nat) => ((0 : Int), (h : Int) - 1 - k)
def rawS (w h : Nat) : List Ce := rimA w ++ rimB2 w h ++ rimC2 w h ++ rimD2 h
def rimL (w h : Nat) : List Ce := ddL (rawR w h)
theorem rawR_len (w h : Nat) (hw : 1 ≤ w ∧ w ≤ 30) (hh : 1 ≤ h ∧ h ≤ 30) : (rawR w h).length ≤ 120 ∧ 1 ≤ (rawR w h).length := by
  unfold rawR rimA rimB rimC' rimD
  simp only [List.length_append, List.length_map, List.length_range]
  omega
theorem rimB2_eq (w n : Nat) : rimB2 w (n + 1) = ((w : Int) - 1, 0) :: rimB w (n + 1) := by
  unfold rimB2 rimB
  rw [List.range_succ_eq_map]
  simp
theorem rimC2_eq (n h : Nat) : rimC2 (n + 1) h = ((n : Int), (h : Int) - 1) :: rimC' (n + 1) h := by
  unfold rimC2 rimC'
  rw [List.range_succ_eq_map, List.map_cons, List.map_map, show n + 1 - 1 = n by omega]
  congr 1
  · simp
  · apply List.map_congr_left
    intro k _
    simp only [Function.comp]
    exact Prod.ext (by push_cast; omega) rfl
theorem rimD2_eq (n : Nat) : rimD2 (n + 2) = ((0 : Int), (n : Int) + 1) :: (rimD (n + 2) ++ [((0 : Int), (0 : Int))]) := by
  unfold rimD2 rimD
  rw [List.range_succ_eq_map, List.map_cons, List.map_map, show n + 2 - 2 = n by omega, List.range_succ, List.map_append]
  congr 1
  · exact Prod.ext rfl (by push_cast; omega)
  · congr 1
    · apply List.map_congr_left
      intro k _
      simp only [Function.comp]
      exact Prod.ext rfl (by push_cast; omega)
    · simp only [List.map_cons, List.map_nil, Function.comp, List.cons.injEq, and_true]
      exact Prod.ext rfl (by push_cast; omega)
theorem rim_same (w h : Nat) (hw : 1 ≤ w) (hh : 1 ≤ h) : ddL (rawS w h) = rimL w h := by
  unfold rimL ddL rawS rawR
  simp only [List.foldl_append]
  obtain ⟨m, rfl⟩ : ∃ m, w = m + 1 := ⟨w - 1, by omega⟩
  obtain ⟨n, rfl⟩ : ∃ n, h = n + 1 := ⟨h - 1, by omega⟩
  obtain ⟨a, ha⟩ : ∃ a, (rimA (m + 1)).foldl putL [] = a := ⟨_, rfl⟩
  have m1 : ∀ x : Nat, x < m + 1 → ((x : Int), (0 : Int)) ∈ a := fun x hx => by
    rw [← ha, fold_mem]; exact .inr (List.mem_map.2 ⟨x, List.mem_range.2 hx, rfl⟩)
  have put_in : ∀ (acc : List Ce) c (l : List Ce), c ∈ acc → (c :: l).foldl putL acc = l.foldl putL acc := fun acc c l hc => by
    rw [List.foldl_cons, show putL acc c = acc by unfold putL; rw [if_pos hc]]
  rw [ha, rimB2_eq, put_in a _ _ (by have := m1 m (by omega); rwa [show ((m + 1 : Nat) : Int) - 1 = (m : Int) by omega])]
  obtain ⟨b, hb⟩ : ∃ b, (rimB (m + 1) (n + 1)).foldl putL a = b := ⟨_, rfl⟩
  have ab : ∀ c, c ∈ a → c ∈ b := fun c hc => by rw [← hb, fold_mem]; exact .inl hc
  have m2 : ((m : Int), ((n + 1 : Nat) : Int) - 1) ∈ b := by
    by_cases e : n = 0
    · subst e; exact ab _ (m1 m (by omega))
    · rw [← hb, fold_mem]
      exact .inr (List.mem_map.2 ⟨n - 1, List.mem_range.2 (by omega), by simp only [Prod.mk.injEq]; omega⟩)
  rw [hb, rimC2_eq, put_in b _ _ m2]
  obtain ⟨c, hc⟩ : ∃ c, (rimC' (m + 1) (n + 1)).foldl putL b = c := ⟨_, rfl⟩
  have bc : ∀ x, x ∈ b → x ∈ c := fun x hx => by rw [← hc, fold_mem]; exact .inl hx
  have m3 : ((0 : Int), (n : Int)) ∈ c := by
    by_cases e : m = 0
    · subst e; have := bc _ m2; rwa [show ((n + 1 : Nat) : Int) - 1 = (n : Int) by omega] at this
    · rw [← hc, fold_mem]
      exact .inr (List.mem_map.2 ⟨m - 1, List.mem_range.2 (by omega), by simp only [Prod.mk.injEq]; omega⟩)
  have m4 : ((0 : Int), (0 : Int)) ∈ c := bc _ (ab _ (m1 0 (by omega)))
  rw [hc]
  cases n with
  | zero =>
    have e1 : rimD2 (0 + 1) = [((0 : Int), (0 : Int))] := rfl
    have e2 : rimD (0 + 1) = [] := rfl
    rw [e1, e2, put_in c _ _ m4]
  | succ n =>
    rw [rimD2_eq, put_in c _ _ (by have := m3; push_cast at this; exact this), List.foldl_append]
    exact put_in _ _ [] (by rw [fold_mem]; exact .inl m4)
theorem rimL_mem_raw (w h : Nat) (c : Ce) : c ∈ rimL w h ↔ c ∈ rawR w h := ddL_mem _ _
theorem rawR_small (w h : Nat) (hw : 1 ≤ w ∧ w ≤ 30) (hh : 1 ≤ h ∧ h ≤ 30) (c : Ce) (hc : c ∈ rawR w h) : (0 ≤ c.1 ∧ c.1 < w) ∧ 0 ≤ c.2 ∧ c.2 < h := by
  unfold rawR rimA rimB rimC' rimD at hc
  simp only [List.mem_append, List.mem_map, List.mem_range] at hc
  rcases hc with ((⟨x, h1, rfl⟩ | ⟨x, h1, rfl⟩) | ⟨x, h1, rfl⟩) | ⟨x, h1, rfl⟩ <;> dsimp only <;> omega
end Go.Proofs.Ytpakkjkjppibnaa

/- Benes: a switch that works adds the ways of its being stuck in both ways. Plain. -/
import Derived.Test.YtelnlmhelkcliaaBWk1
namespace Go.Proofs.Ytelnlmhelkcliaa
open Go.RowKit

def upd1 (st : Nat → Int) (i : Nat) (v : Int) : Nat → Int := fun j => if j = i then v else st j
theorem upd1_same (st : Nat → Int) (i : Nat) (v : Int) : upd1 st i v i = v := if_pos rfl
theorem upd1_other (st : Nat → Int) {i j : Nat} (v : Int) (h : j ≠ i) : upd1 st i v j = st j := if_neg h
theorem upd1_none {st : Nat → Int} {i : Nat} {v : Int} (h : st i = v) : upd1 st i v = st := by
  funext j
  unfold upd1
  split
  · rename_i e; rw [e, h]
  · rfl
theorem mayB_zero (b : Bool) : mayB 0 b = true := by cases b <;> rfl
theorem mayB_two (b : Bool) : mayB 1 b = !b ∧ mayB 2 b = b := by cases b <;> exact ⟨rfl, rfl⟩
theorem okR_upd {p : List Int} {st : Nat → Int} {m i : Nat} (s : Nat → Bool) (hi : i < 2 * m) (h0 : st i = 0) (v : Int) :
    okR p (upd1 st i v) m s = (okR p st m s && mayB v (if i < m then s i else sideB s (rhoL p (2 * (i - m))))) := by
  rw [Bool.eq_iff_iff]
  unfold okR
  simp only [Bool.and_eq_true, List.all_eq_true, List.mem_range]
  constructor
  · rintro ⟨h1, h2⟩
    refine ⟨⟨fun j hj => ?_, fun j hj => ⟨(h2 j hj).1, ?_⟩⟩, ?_⟩
    · by_cases e : j = i
      · subst e; rw [h0]; exact mayB_zero _
      · have := h1 j hj; rwa [upd1_other st v e] at this
    · by_cases e : m + j = i
      · subst e; rw [h0]; exact mayB_zero _
      · have := (h2 j hj).2; rwa [upd1_other st v e] at this
    · by_cases hm : i < m
      · rw [if_pos hm]
        have := h1 i hm
        rwa [upd1_same] at this
      · rw [if_neg hm]
        have := (h2 (i - m) (by omega)).2
        rwa [show m + (i - m) = i by omega, upd1_same] at this
  · rintro ⟨⟨h1, h2⟩, h3⟩
    refine ⟨fun j hj => ?_, fun j hj => ⟨(h2 j hj).1, ?_⟩⟩
    · by_cases e : j = i
      · subst e; rw [if_pos hj] at h3; rw [upd1_same]; exact h3
      · rw [upd1_other st v e]; exact h1 j hj
    · by_cases e : m + j = i
      · subst e
        rw [if_neg (by omega), show m + j - m = j by omega] at h3
        rw [upd1_same]; exact h3
      · rw [upd1_other st v e]; exact (h2 j hj).2
theorem shift_out (st : Nat → Int) {i a : Nat} (v : Int) (h : i < a) : (fun k => upd1 st i v (a + k)) = fun k => st (a + k) := by
  funext k; exact upd1_other st v (by omega)
theorem shift_in (st : Nat → Int) {i a : Nat} (v : Int) (h : a ≤ i) : (fun k => upd1 st i v (a + k)) = upd1 (fun k => st (a + k)) (i - a) v := by
  funext k
  unfold upd1
  by_cases e : a + k = i
  · rw [if_pos e, if_pos (by omega)]
  · rw [if_neg e, if_neg (by omega)]
theorem waysR_add : ∀ (h : Nat) (p : List Int) (st : Nat → Int) (i : Nat), PermP p → p.length = pw h → i < cnt h → st i = 0 → waysR h p st = waysR h p (upd1 st i 1) + waysR h p (upd1 st i 2)
  | 0, p, st, i, _, _, hi, h0 => by
    obtain rfl : i = 0 := by have : cnt 0 = 1 := rfl; omega
    unfold waysR
    rw [upd1_same, upd1_same, h0, mayB_zero, (mayB_two _).1, (mayB_two _).2]
    cases (p.getD 0 0 == 1) <;> rfl
  | h + 1, p, st, i, hp, hl, hi, h0 => by
    have hP := permN_of (m := pw h) hp (by rw [hl]; rfl)
    have hl2 : p.length = 2 * pw h := hl
    have hw : pw (h + 1) = 2 * pw h := rfl
    have hc : cnt (h + 1) = pw (h + 1) + 2 * cnt h := rfl
    simp only [waysR]
    rw [← sumN_add]
    refine sumN_congr fun first _ => ?_
    obtain ⟨s, hs⟩ : ∃ s : Nat → Bool, (fun j => first.testBit j) = s := ⟨_, rfl⟩
    rw [hs]
    by_cases h1 : i < pw (h + 1)
    · rw [okR_upd s (by omega) h0 1, okR_upd s (by omega) h0 2, shift_out st 1 h1, shift_out st 2 h1, shift_out st 1 (show i < pw (h + 1) + cnt h by omega), shift_out st 2 (show i < pw (h + 1) + cnt h by omega), (mayB_two _).1, (mayB_two _).2]
      generalize (if i < pw h then s i else sideB s (rhoL p (2 * (i - pw h)))) = b
      cases okR p st (pw h) s <;> cases b <;> simp
    · have hok : ∀ v, okR p (upd1 st i v) (pw h) s = okR p st (pw h) s := fun v => okR_congr (fun x hx => hP.rlt x hx) (fun j hj => upd1_other st v (by omega)) fun _ _ => rfl
      rw [hok, hok]
      cases ho : okR p st (pw h) s with
      | false => simp
      | true =>
        have hcons := ((okR_iff hP s).1 ho).2.1
        rw [if_pos rfl, if_pos rfl, if_pos rfl]
        by_cases h2 : i < pw (h + 1) + cnt h
        · rw [shift_in st 1 (by omega), shift_in st 2 (by omega), shift_out st 1 h2, shift_out st 2 h2]
          rw [waysR_add h (upL p s (pw h)) (fun k => st (pw (h + 1) + k)) (i - pw (h + 1)) (up_perm hp hl2 hcons) (upL_len _ _ _) (by omega) (by rw [show pw (h + 1) + (i - pw (h + 1)) = i by omega]; exact h0), Nat.add_mul]
        · have hu : ∀ v, waysR h (upL p s (pw h)) (fun k => upd1 st i v (pw (h + 1) + k)) = waysR h (upL p s (pw h)) (fun k => st (pw (h + 1) + k)) := fun v =>
            waysR_congr h _ _ _ (up_perm hp hl2 hcons) (upL_len _ _ _) fun k hk => upd1_other st v (by omega)
          rw [hu, hu, shift_in st 1 (by omega), shift_in st 2 (by omega)]
          rw [waysR_add h (lowL p s (pw h)) (fun k => st (pw (h + 1) + cnt h + k)) (i - (pw (h + 1) + cnt h)) (low_perm hp hl2 hcons) (lowL_len _ _ _) (by omega) (by rw [show pw (h + 1) + cnt h + (i - (pw (h + 1) + cnt h)) = i by omega]; exact h0), Nat.mul_add]
end Go.Proofs.Ytelnlmhelkcliaa

/- Heat: Steps, the program's. -/
import Derived.Test.YtnaoanmkepcinaaHPeak3
import Derived.Test.YtnaoanmkepcinaaHPairEq
namespace Go.Proofs.Ytnaoanmkepcinaa
open Go.RowKit

theorem el_stp : ElemK Try.prog 33 36 (.agg #[.int .i64 0, .int .i64 0]) 2 16 :=
  ⟨by kernel_rfl, info_parts (by kernel_rfl), by rfl, by decide, by decide⟩
theorem pairs_cell (l : List (Int × Int)) (u : Value) (h : u ∈ pairs l) : u.oneCell' = true := by
  unfold pairs at h
  obtain ⟨x, _, hx⟩ := List.mem_flatMap.1 h
  simp at hx
  rcases hx with rfl | rfl <;> rfl

/-- the changes that a test takes -/
def sel (p : Int → Int → Bool) (a b : List Int) (k : Nat) : List (Int × Int) := (List.range k).filterMap fun j => if p (a.getD j 0) (b.getD j 0) then some ((j : Int), b.getD j 0) else none
theorem sel_succ (p : Int → Int → Bool) (a b : List Int) (k : Nat) : sel p a b (k + 1) = sel p a b k ++ (if p (a.getD k 0) (b.getD k 0) then [((k : Int), b.getD k 0)] else []) := by
  unfold sel
  rw [List.range_succ, List.filterMap_append]
  congr 1
  simp only [List.filterMap_cons, List.filterMap_nil]
  split <;> simp_all
theorem sel_len (p : Int → Int → Bool) (a b : List Int) (k : Nat) : (sel p a b k).length ≤ k := by
  unfold sel
  have := List.length_filterMap_le (fun j => if p (a.getD j 0) (b.getD j 0) then some ((j : Int), b.getD j 0) else none) (List.range k)
  rwa [List.length_range] at this
def lt2 (x y : Int) : Bool := decide (y < x)
def gt2 (x y : Int) : Bool := decide (x < y)
def stE (a b : List Int) (B : Int) : Int := if drv a && drv b && decide (a.length = b.length) && inB 0 B 5000 then (if max a.sum b.sum > B then 62 else 0) else 2
def stL (a b : List Int) (B : Int) : List (Int × Int) := if stE a b B = 0 then sel lt2 a b a.length ++ sel gt2 a b a.length else []
theorem stL_no {a b : List Int} {B : Int} {E : Int} (h : stE a b B = E) (hE : E ≠ 0) : stL a b B = [] := by
  unfold stL; rw [if_neg (by rw [h]; exact hE)]
theorem stE_arg {a b : List Int} {B : Int} (h : (drv a && drv b && decide (a.length = b.length) && inB 0 B 5000) = false) : stE a b B = 2 := by
  unfold stE; rw [h]; rfl
theorem stE_ok {a b : List Int} {B : Int} (h : (drv a && drv b && decide (a.length = b.length) && inB 0 B 5000) = true) : stE a b B = if max a.sum b.sum > B then 62 else 0 := by
  unfold stE; rw [h]; rfl

/-- what cmp.Compare says -/
def cmpI (x y : Int) : Int := if x < y then -1 else if y < x then 1 else 0
theorem isNaN_any (x : Int) (w : World) : Calls Try.prog 88 #[.int .i64 x] w fun e w' => e = .returned (.bool false) ∧ w = w' := by
  have h : (x != x) = false := by simp
  go_enter Try.func88, Try.ntmps88
  go_wp2_with fail
  go_ret
  exact ⟨rfl, rfl⟩
theorem compare_any (x y : Int) (w : World) : Calls Try.prog 77 #[.int .i64 x, .int .i64 y] w fun e w' => e = .returned (.int .i64 (cmpI x y)) ∧ w = w' := by
  have HC : Hid (cmpI x y = if x < y then -1 else if y < x then 1 else 0) := Lib.hid rfl
  generalize cmpI x y = c at *
  by_cases h1 : x < y
  · rw [if_pos h1] at HC
    obtain rfl := HC.out
    go_enter Try.func77, Try.ntmps77
    go_wp2_with (first | (go_at_call 88; (with_reducible refine (isNaN_any _ _).mono ?_); rintro e w' ⟨rfl, rfl⟩))
    go_ret
    exact ⟨rfl, rfl⟩
  · rw [if_neg h1] at HC
    by_cases h2 : y < x
    · rw [if_pos h2] at HC
      obtain rfl := HC.out
      go_enter Try.func77, Try.ntmps77
      go_wp2_with (first | (go_at_call 88; (with_reducible refine (isNaN_any _ _).mono ?_); rintro e w' ⟨rfl, rfl⟩))
      go_ret
      exact ⟨rfl, rfl⟩
    · rw [if_neg h2] at HC
      obtain rfl := HC.out
      go_enter Try.func77, Try.ntmps77
      go_wp2_with (first | (go_at_call 88; (with_reducible refine (isNaN_any _ _).mono ?_); rintro e w' ⟨rfl, rfl⟩))
      go_ret
      exact ⟨rfl, rfl⟩
theorem cmp_lt (x y : Int) : (cmpI y x == -1) = lt2 x y := by
  unfold cmpI lt2
  by_cases h1 : y < x
  · rw [if_pos h1]; simp [h1]
  · rw [if_neg h1]
    by_cases h2 : x < y
    · rw [if_pos h2]; simp [h1]
    · rw [if_neg h2]; simp [h1]
theorem cmp_gt (x y : Int) : (cmpI y x == 1) = gt2 x y := by
  unfold cmpI gt2
  by_cases h1 : y < x
  · rw [if_pos h1]; have : ¬ x < y := by omega
    simp [this]
  · rw [if_neg h1]
    by_cases h2 : x < y
    · rw [if_pos h2]; simp [h2]
    · rw [if_neg h2]; simp [h2]

end Go.Proofs.Ytnaoanmkepcinaa

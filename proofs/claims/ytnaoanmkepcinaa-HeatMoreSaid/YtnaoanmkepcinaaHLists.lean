/- Heat: size of a bank, phases, powers; isPhases, isPowers; absolute values. -/
import Derived.Test.YtnaoanmkepcinaaHOpen
namespace Go.Proofs.Ytnaoanmkepcinaa
open Go.RowKit

theorem bsize_any (a : Option Addr) (n cap : Nat) (w : World) :
    Calls Try.prog 63 #[.agg #[.slice a n cap]] w fun e w' => e = .returned (.int .i64 n) ∧ Below w.heap.size w w' := by
  have hb0 : Hid (Below w.heap.size w (w.alloc (.cells #[.slice a n cap] 71))) := Lib.hid ((Below.refl _ _).alloc (Nat.le_refl _) _)
  go_enter Try.func63, Try.ntmps63
  go_wp2
  go_ret
  exact ⟨rfl, hb0.out⟩

/-- whether a list is one of n numbers in a range -/
def lstB (l : List Int) (n : Nat) (lo hi : Int) : Bool := decide (l.length = n) && allB l lo hi
theorem lstB_bd {l : List Int} {n : Nat} {lo hi : Int} (h : lstB l n lo hi = true) : l.length = n ∧ ∀ x ∈ l, lo ≤ x ∧ x ≤ hi := by
  unfold lstB allB at h
  rw [Bool.and_eq_true, decide_eq_true_eq, List.all_eq_true] at h
  exact ⟨h.1, fun x hx => (inB_iff _ _ _).1 (h.2 x hx)⟩

theorem phases_any (a : Option Addr) (n cap : Nat) (v : Value) (l : List Int) (w : World) (hv : Rd w v (ints l)) (hl : l.length ≤ 4000000) :
    Calls Try.prog 62 #[.agg #[.slice a n cap], v] w fun e w' => e = .returned (.bool (lstB l n (-1000000) 1000000)) ∧ Below w.heap.size w w' := by
  have HV := Lib.hid hv
  have hb0 : Hid (Below w.heap.size w (w.alloc (.cells #[.slice a n cap] 71))) := Lib.hid ((Below.refl _ _).alloc (Nat.le_refl _) _)
  obtain ⟨a2, cap2, rfl, hc, hcm, ha, _⟩ := hv
  have hcall := Lib.hid (fun W hb => all_any _ l (-1000000) 1000000 W (HV.out.below (w' := W) (B := w.heap.size) hb (Nat.le_refl _)) hl)
  have hQ : Hid (lstB l n (-1000000) 1000000 = (decide (l.length = n) && allB l (-1000000) 1000000)) := Lib.hid rfl
  rw [ints_length] at *
  generalize allB l (-1000000) 1000000 = t at *
  clear ha HV
  by_cases hne : l.length = n
  · rw [decide_eq_true hne, Bool.true_and] at hQ
    have hb : ((l.length : Int) == (n : Int)) = true := by simp; omega
    clear hne
    go_enter Try.func62, Try.ntmps62
    go_wp2_with (first
      | (go_at_call 63; refine (bsize_any _ _ _ _).mono ?_; rintro e w1 ⟨rfl, hb1⟩)
      | (go_at_call 70; refine (hcall.out _ (hb0.out.trans (hb1.mono hb0.out.size))).mono ?_; rintro e w2 ⟨rfl, hb2⟩))
    go_ret
    have hb01 := hb0.out.trans (hb1.mono hb0.out.size)
    exact ⟨by rw [hQ.out]; rfl, hb01.trans (hb2.mono hb01.size)⟩
  · rw [decide_eq_false hne, Bool.false_and] at hQ
    have hb : ((l.length : Int) == (n : Int)) = false := by simp; omega
    clear hne
    go_enter Try.func62, Try.ntmps62
    go_wp2_with (first
      | (go_at_call 63; refine (bsize_any _ _ _ _).mono ?_; rintro e w1 ⟨rfl, hb1⟩))
    go_ret
    exact ⟨by rw [hQ.out]; rfl, hb0.out.trans (hb1.mono hb0.out.size)⟩

theorem powers_any (a : Option Addr) (n cap : Nat) (v : Value) (l : List Int) (w : World) (hv : Rd w v (ints l)) (hl : l.length ≤ 4000000) :
    Calls Try.prog 59 #[.agg #[.slice a n cap], v] w fun e w' => e = .returned (.bool (lstB l n 0 1000)) ∧ Below w.heap.size w w' := by
  have HV := Lib.hid hv
  have hb0 : Hid (Below w.heap.size w (w.alloc (.cells #[.slice a n cap] 71))) := Lib.hid ((Below.refl _ _).alloc (Nat.le_refl _) _)
  obtain ⟨a2, cap2, rfl, hc, hcm, ha, _⟩ := hv
  have hcall := Lib.hid (fun W hb => all_any _ l 0 1000 W (HV.out.below (w' := W) (B := w.heap.size) hb (Nat.le_refl _)) hl)
  have hQ : Hid (lstB l n 0 1000 = (decide (l.length = n) && allB l 0 1000)) := Lib.hid rfl
  rw [ints_length] at *
  generalize allB l 0 1000 = t at *
  clear ha HV
  by_cases hne : l.length = n
  · rw [decide_eq_true hne, Bool.true_and] at hQ
    have hb : ((l.length : Int) == (n : Int)) = true := by simp; omega
    clear hne
    go_enter Try.func59, Try.ntmps59
    go_wp2_with (first
      | (go_at_call 63; refine (bsize_any _ _ _ _).mono ?_; rintro e w1 ⟨rfl, hb1⟩)
      | (go_at_call 70; refine (hcall.out _ (hb0.out.trans (hb1.mono hb0.out.size))).mono ?_; rintro e w2 ⟨rfl, hb2⟩))
    go_ret
    have hb01 := hb0.out.trans (hb1.mono hb0.out.size)
    exact ⟨by rw [hQ.out]; rfl, hb01.trans (hb2.mono hb01.size)⟩
  · rw [decide_eq_false hne, Bool.false_and] at hQ
    have hb : ((l.length : Int) == (n : Int)) = false := by simp; omega
    clear hne
    go_enter Try.func59, Try.ntmps59
    go_wp2_with (first
      | (go_at_call 63; refine (bsize_any _ _ _ _).mono ?_; rintro e w1 ⟨rfl, hb1⟩))
    go_ret
    exact ⟨by rw [hQ.out]; rfl, hb0.out.trans (hb1.mono hb0.out.size)⟩

theorem isPhases_any (n : Nat) (v : Value) (l : List Int) (w : World) (hv : Rd w v (ints l)) (hl : l.length ≤ 4000000) :
    Calls Try.prog 65 #[v, .int .i64 n] w fun e w' => e = .returned (.bool (lstB l n (-1000000) 1000000)) ∧ w = w' := by
  have hcall := Lib.hid (refAll_any v l n (-1000000) 1000000 w hv hl)
  have hQ : Hid (lstB l n (-1000000) 1000000 = (allB l (-1000000) 1000000 && decide ((l.length : Int) = n))) := Lib.hid (by unfold lstB; rw [Bool.and_comm]; congr 1; simp; omega)
  obtain ⟨a2, cap2, rfl, _⟩ := hv
  rw [ints_length] at *
  rw [← hQ.out] at hcall
  generalize lstB l n (-1000000) 1000000 = t at *
  go_enter Try.func65, Try.ntmps65
  go_wp2_with (go_at_call 47; refine hcall.out.mono ?_; rintro e w1 ⟨rfl, rfl⟩)
  go_ret
  exact ⟨rfl, rfl⟩

theorem isPowers_any (n : Nat) (v : Value) (l : List Int) (w : World) (hv : Rd w v (ints l)) (hl : l.length ≤ 4000000) :
    Calls Try.prog 57 #[v, .int .i64 n] w fun e w' => e = .returned (.bool (lstB l n 0 1000)) ∧ w = w' := by
  have hcall := Lib.hid (refAll_any v l n 0 1000 w hv hl)
  have hQ : Hid (lstB l n 0 1000 = (allB l 0 1000 && decide ((l.length : Int) = n))) := Lib.hid (by unfold lstB; rw [Bool.and_comm]; congr 1; simp; omega)
  obtain ⟨a2, cap2, rfl, _⟩ := hv
  rw [ints_length] at *
  rw [← hQ.out] at hcall
  generalize lstB l n 0 1000 = t at *
  go_enter Try.func57, Try.ntmps57
  go_wp2_with (go_at_call 47; refine hcall.out.mono ?_; rintro e w1 ⟨rfl, rfl⟩)
  go_ret
  exact ⟨rfl, rfl⟩

theorem size_any (n : Int) (w : World) (hn : -9223372036854775807 ≤ n ∧ n ≤ 9223372036854775807) :
    Calls Try.prog 60 #[.int .i64 n] w fun e w' => e = .returned (.int .i64 (n.natAbs : Nat)) ∧ w = w' := by
  obtain ⟨h1, h2⟩ := hn
  by_cases h : 0 ≤ n
  · go_enter Try.func60, Try.ntmps60
    go_wp2
    go_ret
    exact ⟨ret1i (by omega), rfl⟩
  · go_enter Try.func60, Try.ntmps60
    go_wp2
    go_ret
    exact ⟨ret1i (by omega), rfl⟩

theorem abs_any (n : Int) (w : World) (hn : -9223372036854775807 ≤ n ∧ n ≤ 9223372036854775807) :
    Calls Try.prog 74 #[.int .i64 n] w fun e w' => e = .returned (.int .i64 (n.natAbs : Nat)) ∧ w = w' := by
  obtain ⟨h1, h2⟩ := hn
  by_cases h : 0 ≤ n
  · go_enter Try.func74, Try.ntmps74
    go_wp2
    go_ret
    exact ⟨ret1i (by omega), rfl⟩
  · go_enter Try.func74, Try.ntmps74
    go_wp2
    go_ret
    exact ⟨ret1i (by omega), rfl⟩

end Go.Proofs.Ytnaoanmkepcinaa

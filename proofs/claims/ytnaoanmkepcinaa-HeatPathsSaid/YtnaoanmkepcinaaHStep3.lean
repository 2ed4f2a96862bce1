/- Heat: Steps, the program's, whole. -/
import Derived.Test.YtnaoanmkepcinaaHStep2
namespace Go.Proofs.Ytnaoanmkepcinaa
open Go.RowKit

set_option maxRecDepth 100000 in
set_option maxHeartbeats 2000000 in
theorem Steps_no (va vb : Value) (a b : List Int) (B : Int) (w : World) (hva : Rd w va (ints a)) (hvb : Rd w vb (ints b)) (hla : a.length ≤ 1000) (hlb : b.length ≤ 1000) (he : stE a b B ≠ 0) :
    Calls Try.prog 42 #[va, vb, .int .i64 B] w fun e w' => e = .returned (.tuple #[.slice none 0 0, .int .i64 (stE a b B)]) ∧ Below w.heap.size w w' := by
  have HVA := Lib.hid hva
  have HVB := Lib.hid hvb
  have HD1 := Lib.hid (drivers_any va a w hva (by omega))
  have HD2 := Lib.hid (fun W hb => drivers_any vb b W (hvb.below (w' := W) (B := w.heap.size) hb (Nat.le_refl _)) (by omega))
  have HBT := Lib.hid (fun W => between_any 0 B 5000 W)
  obtain ⟨aa, capa, rfl, hca, hcma, haa, _⟩ := hva
  obtain ⟨ab, capb, rfl, hcb, hcmb, hab, _⟩ := hvb
  rw [ints_length a] at *
  rw [ints_length b] at *
  clear haa hab
  by_cases hq1 : drv a = true
  · rw [hq1] at HD1
    obtain ⟨d1, d2, d3⟩ := drv_bd hq1
    by_cases hq2 : drv b = true
    · rw [hq2] at HD2
      obtain ⟨d4, d5, d6⟩ := drv_bd hq2
      by_cases hq3 : a.length = b.length
      · by_cases hq4 : inB 0 B 5000 = true
        · rw [hq4] at HBT
          have HE := Lib.hid (stE_ok (a := a) (b := b) (B := B) (by rw [hq1, hq2, hq4, decide_eq_true hq3]; rfl))
          have HT1 := Lib.hid (fun W hb => total_any _ a W (HVA.out.below (w' := W) (B := w.heap.size) hb (Nat.le_refl _)) (by omega) (fun x hx => by have := d3 x hx; omega))
          have HT2 := Lib.hid (fun W hb => total_any _ b W (HVB.out.below (w' := W) (B := w.heap.size) hb (Nat.le_refl _)) (by omega) (fun x hx => by have := d6 x hx; omega))
          have hnn : ((a.length : Int) != b.length) = false := by simp; omega
          by_cases hq5 : max a.sum b.sum > B
          · rw [if_pos hq5] at HE
            generalize stE a b B = E at *
            obtain rfl := HE.out
            generalize hM : max a.sum b.sum = M at *
            clear hq1 hq2 hq3 hq4 d3 d6
            go_enter Try.func42, Try.ntmps42
            go_wp2_with (first
              | (go_at_call 50; (with_reducible refine HD1.out.mono ?_); rintro e w1 ⟨rfl, hb1⟩)
              | (go_at_call 50; (with_reducible refine (HD2.out _ hb1).mono ?_); rintro e w2 ⟨rfl, hb2⟩; have hb02 := hb1.trans (hb2.mono hb1.size))
              | (go_at_call 53; (with_reducible refine (HBT.out _).mono ?_); rintro e w' ⟨rfl, rfl⟩)
              | (go_at_call 55; (with_reducible refine (HT1.out _ hb02).mono ?_); rintro e w' ⟨rfl, rfl⟩)
              | (go_at_call 55; (with_reducible refine (HT2.out _ hb02).mono ?_); rintro e w' ⟨rfl, rfl⟩))
            go_ret2
            exact ⟨rfl, hb02⟩
          · rw [if_neg hq5] at HE
            exact absurd HE.out he
        · have hq4' : inB 0 B 5000 = false := by simpa using hq4
          rw [hq4'] at HBT
          have HE := Lib.hid (stE_arg (a := a) (b := b) (B := B) (by rw [hq4', Bool.and_false]))
          have hnn : ((a.length : Int) != b.length) = false := by simp; omega
          generalize stE a b B = E at *
          obtain rfl := HE.out
          clear hq1 hq2 hq3 hq4 hq4' d3 d6
          go_enter Try.func42, Try.ntmps42
          go_wp2_with (first
            | (go_at_call 50; (with_reducible refine HD1.out.mono ?_); rintro e w1 ⟨rfl, hb1⟩)
            | (go_at_call 50; (with_reducible refine (HD2.out _ hb1).mono ?_); rintro e w2 ⟨rfl, hb2⟩; have hb02 := hb1.trans (hb2.mono hb1.size))
            | (go_at_call 53; (with_reducible refine (HBT.out _).mono ?_); rintro e w' ⟨rfl, rfl⟩))
          go_ret2
          exact ⟨rfl, hb02⟩
      · have HE := Lib.hid (stE_arg (a := a) (b := b) (B := B) (by rw [decide_eq_false hq3, Bool.and_false, Bool.false_and]))
        have hnn : ((a.length : Int) != b.length) = true := by simp; omega
        generalize stE a b B = E at *
        obtain rfl := HE.out
        clear hq1 hq2 hq3 d3 d6
        go_enter Try.func42, Try.ntmps42
        go_wp2_with (first
          | (go_at_call 50; (with_reducible refine HD1.out.mono ?_); rintro e w1 ⟨rfl, hb1⟩)
          | (go_at_call 50; (with_reducible refine (HD2.out _ hb1).mono ?_); rintro e w2 ⟨rfl, hb2⟩; have hb02 := hb1.trans (hb2.mono hb1.size)))
        go_ret2
        exact ⟨rfl, hb02⟩
    · have hq2' : drv b = false := by simpa using hq2
      rw [hq2'] at HD2
      have HE := Lib.hid (stE_arg (a := a) (b := b) (B := B) (by rw [hq2', Bool.and_false, Bool.false_and, Bool.false_and]))
      generalize stE a b B = E at *
      obtain rfl := HE.out
      clear hq1 hq2 hq2' d3
      go_enter Try.func42, Try.ntmps42
      go_wp2_with (first
        | (go_at_call 50; (with_reducible refine HD1.out.mono ?_); rintro e w1 ⟨rfl, hb1⟩)
        | (go_at_call 50; (with_reducible refine (HD2.out _ hb1).mono ?_); rintro e w2 ⟨rfl, hb2⟩; have hb02 := hb1.trans (hb2.mono hb1.size)))
      go_ret2
      exact ⟨rfl, hb02⟩
  · have hq1' : drv a = false := by simpa using hq1
    rw [hq1'] at HD1
    have HE := Lib.hid (stE_arg (a := a) (b := b) (B := B) (by rw [hq1', Bool.false_and, Bool.false_and, Bool.false_and]))
    generalize stE a b B = E at *
    obtain rfl := HE.out
    clear hq1 hq1'
    go_enter Try.func42, Try.ntmps42
    go_wp2_with (first
      | (go_at_call 50; (with_reducible refine HD1.out.mono ?_); rintro e w1 ⟨rfl, hb1⟩))
    go_ret2
    exact ⟨rfl, hb1⟩

theorem stE_zero {a b : List Int} {B : Int} (h : stE a b B = 0) : drv a = true ∧ drv b = true ∧ a.length = b.length ∧ inB 0 B 5000 = true ∧ max a.sum b.sum ≤ B := by
  unfold stE at h
  split at h
  · rename_i hc
    rw [Bool.and_eq_true, Bool.and_eq_true, Bool.and_eq_true, decide_eq_true_eq] at hc
    obtain ⟨⟨⟨h1, h2⟩, h3⟩, h4⟩ := hc
    split at h
    · cases h
    · exact ⟨h1, h2, h3, h4, by omega⟩
  · cases h

theorem Steps_any (va vb : Value) (a b : List Int) (B : Int) (w : World) (hva : Rd w va (ints a)) (hvb : Rd w vb (ints b)) (hla : a.length ≤ 1000) (hlb : b.length ≤ 1000) :
    Calls Try.prog 42 #[va, vb, .int .i64 B] w fun e w' => ∃ u, e = .returned (.tuple #[u, .int .i64 (stE a b B)]) ∧ w'.ownsRow w.heap.size 36 2 u (stL a b B).length (pairs (stL a b B)) ∧ Below w.heap.size w w' := by
  by_cases he : stE a b B = 0
  · obtain ⟨q1, q2, q3, q4, q5⟩ := stE_zero he
    have e : stL a b B = pre a b 2 := by unfold stL; rw [if_pos he]; rfl
    rw [e, he]
    exact Steps_ok va vb a b B w hva hvb q1 q2 q3 q4 q5
  · rw [stL_no rfl he]
    refine (Steps_no va vb a b B w hva hvb hla hlb he).mono ?_
    rintro e w' ⟨rfl, hb⟩
    exact ⟨_, rfl, World.ownsRow_nil _ _ _ _, hb⟩

end Go.Proofs.Ytnaoanmkepcinaa

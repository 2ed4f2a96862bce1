/- Heat: the law HeatSteps, walked. -/
import Derived.Test.YtnaoanmkepcinaaHStep4
namespace Go.Proofs.Ytnaoanmkepcinaa
open Go.RowKit

set_option maxRecDepth 100000 in
set_option maxHeartbeats 1000000 in
theorem law_steps (va : Value) (a : List Int) (vb : Value) (b : List Int) (B : Int) (w : World) (hva : Rd w va (ints a)) (_ : ∀ x ∈ a, (Lit.int .i64 x).wf = true) (hvb : Rd w vb (ints b)) (_ : ∀ x ∈ b, (Lit.int .i64 x).wf = true) (_ : (Lit.int .i64 B).wf = true) :
    Calls Try.prog 10 #[va, vb, .int .i64 B] w fun e w' => e = .returned (.bool true) ∧ Below w.heap.size w w' := by
  have HVA := Lib.hid hva
  have HVB := Lib.hid hvb
  have HSN := Lib.hid (fun W => sane_any W)
  obtain ⟨aa, capa, rfl, hca, hcma, haa, _⟩ := hva
  obtain ⟨ab, capb, rfl, hcb, hcmb, hab, _⟩ := hvb
  rw [ints_length a] at *
  rw [ints_length b] at *
  unfold maxLen at hcma hcmb
  clear haa hab
  by_cases h1 : a.length > 20
  · go_enter Try.func10, Try.ntmps10
    go_wp2_with (first
      | (go_at_call 16; refine (HSN.out _).mono ?_; rintro e w2 ⟨rfl, hb2⟩))
    go_ret
    exact ⟨rfl, hb2⟩
  · by_cases h2 : b.length > 20
    · go_enter Try.func10, Try.ntmps10
      go_wp2_with (first
        | (go_at_call 16; refine (HSN.out _).mono ?_; rintro e w2 ⟨rfl, hb2⟩))
      go_ret
      exact ⟨rfl, hb2⟩
    · have H1 := Lib.hid (Steps_any _ _ a b B w HVA.out HVB.out (by omega) (by omega))
      have H2 := Lib.hid (fun W hb => refSteps_any _ _ a b B W (HVA.out.below (w' := W) (B := w.heap.size) hb (Nat.le_refl _)) (HVB.out.below (w' := W) (B := w.heap.size) hb (Nat.le_refl _)) (by omega) (by omega))
      have heq : ∀ x y W, (Op.equalIn 10000 36 (.agg #[.int .i64 x, .int .i64 y]) (.agg #[.int .i64 x, .int .i64 y])).run Try.prog W = .ok true W := fun x y W => by rw [eq2]; simp
      generalize stE a b B = E at *
      generalize stL a b B = L at *
      have hLn : ((L.length : Int) != L.length) = false := by simp
      have hEn : (E != E) = false := by simp
      go_enter Try.func10, Try.ntmps10
      go_wp2_with (first
        | (go_at_call 42; refine H1.out.mono ?_; rintro e w1 ⟨u1, rfl, hu1, hb1⟩; obtain ⟨a3, c3, rfl⟩ := own_form hu1)
        | (go_at_call 43; refine (H2.out _ hb1).mono ?_; rintro e w2 ⟨u2, rfl, hu2, hb2⟩; obtain ⟨a4, c4, rfl⟩ := own_form hu2; have hb02 := hb1.trans (hb2.mono hb1.size)))
      have HR1 := Lib.hid (RdP.own (own_below hu1 hb2) rfl)
      have HR2 := Lib.hid (RdP.own hu2 rfl)
      have hcp : L.length ≤ 9223372036854775807 := by
        obtain ⟨_, _, e, h1, h2, _⟩ := HR2.out
        unfold maxLen at h2
        omega
      go_loopw [11] (fun i wr => ∃ k : Nat, k ≤ L.length ∧ i = .int .i64 k ∧ Below w2.heap.size w2 wr) (fun i _ => L.length - (intOf i).toNat)
      case atStart => exact ⟨0, Nat.zero_le _, rfl, Below.refl _ _⟩
      case round =>
        obtain ⟨k, hk, rfl, hbel⟩ := hrel
        by_cases hlt : k < L.length
        · obtain ⟨x, hx⟩ : ∃ x, L[k]? = some x := ⟨_, List.getElem?_eq_getElem hlt⟩
          obtain ⟨_, _, e1, _, _, ha3, _⟩ := HR1.out
          obtain ⟨_, _, e2, _, _, ha4, _⟩ := HR2.out
          simp only [Value.slice.injEq] at e1 e2
          obtain ⟨rfl, _, rfl⟩ := e1
          obtain ⟨rfl, _, rfl⟩ := e2
          obtain ⟨b1, o1, rfl, c1, c2⟩ := RdP.cell (ha3.below hbel (Nat.le_refl _)) hx
          obtain ⟨b2, o2, rfl, c5, c6⟩ := RdP.cell (ha4.below hbel (Nat.le_refl _)) hx
          obtain ⟨x, y⟩ := x
          have hq := heq x y
          clear hx ha3 ha4 heq hu1 hu2
          go_wp2_with fail
          go_region
          go_wp2_with fail
          go_roundw
          case rel => exact ⟨k + 1, by omega, by go_num, bel_drewN hbel 1⟩
          case measure => simp [intOf]; omega
        · obtain rfl : k = L.length := by omega
          go_wp2_with (first
            | (go_at_call 16; refine (HSN.out _).mono ?_; rintro e w4 ⟨rfl, hb4⟩))
          go_ret
          have hb5 := hb02.trans (hbel.mono hb02.size)
          exact ⟨rfl, hb5.trans (hb4.mono hb5.size)⟩

end Go.Proofs.Ytnaoanmkepcinaa

/- Layout: the document's least, walked; lists of cells and of numbers compared. -/
import Derived.Test.YtpakkjkjppibnaaGBlk
namespace Go.Proofs.Ytpakkjkjppibnaa
open Go.RowKit

theorem run_min4 (w : World) (ts : Array TypeId) (t : TypeId) (a b c d : Int) : (Builtin.min_ ts t #[.int .i64 a, .int .i64 b, .int .i64 c, .int .i64 d]).run Try.prog w = .ok (.int .i64 (min a (min b (min c d)))) w := by
  have e : ∀ x y : Int, (if y < x then y else x) = min x y := fun x y => by
    rw [Int.min_def]
    split <;> split <;> omega
  have e2 : min (min (min a b) c) d = min a (min b (min c d)) := by omega
  rw [← e2]
  simp [Builtin.min_, Builtin.min2, e]
def min4 (T : List (List Int)) (i : Nat) : Int := min (outGet T i 0) (min (outGet T i 1) (min (outGet T i 2) (outGet T i 3)))

set_option maxRecDepth 100000 in
set_option maxHeartbeats 1000000 in
theorem least_any (w h : Nat) (mv bd : Int) (bv : Value) (tb N cap : Nat) (T : List (List Int)) (x y : Int) (i : Nat) (W : World) (hT : FldAt W tb N T) (hi : i < N) (hN : N ≤ 900) (hix : y * (w : Int) + x = i) (hx : 0 ≤ x ∧ x ≤ 1000) (hy : 0 ≤ y) :
    Calls Try.prog 45 #[.agg #[.int .i64 w, .int .i64 h, .int .i64 mv, .int .i64 bd, bv], .slice (some ⟨tb, 0, none⟩) N cap, .agg #[.int .i64 x, .int .i64 y]] W fun e w' => e = .returned (.int .i64 (min4 T i)) ∧ Below W.heap.size W w' := by
  have hbW := Lib.hid (((Below.refl W.heap.size W).alloc (Nat.le_refl _) (.cells #[.int .i64 w, .int .i64 h, .int .i64 mv, .int .i64 bd, bv] 24)).alloc (by simp) (.cells #[.int .i64 x, .int .i64 y] 26))
  have HBX := Lib.hid (BxAt.new W (.cells #[.int .i64 w, .int .i64 h, .int .i64 mv, .int .i64 bd, bv] 24) x y 26)
  have HGX := Lib.hid (GBx.new W w h mv bd bv 24 (.cells #[.int .i64 x, .int .i64 y] 26))
  have h0 := hT i 0 hi (by decide)
  have h1 := hT i 1 hi (by decide)
  have h2 := hT i 2 hi (by decide)
  have h3 := hT i 3 hi (by decide)
  have HM : Hid (min4 T i = min (outGet T i 0) (min (outGet T i 1) (min (outGet T i 2) (outGet T i 3)))) := Lib.hid rfl
  generalize min4 T i = res at *
  generalize outGet T i 0 = v0 at *
  generalize outGet T i 1 = v1 at *
  generalize outGet T i 2 = v2 at *
  generalize outGet T i 3 = v3 at *
  have hyw : 0 ≤ y * (w : Int) := Int.mul_nonneg hy (by omega)
  have hwm : IntKind.i64.wrap (y * (w : Int)) = y * (w : Int) := IntWalk.i64_in _ (by omega)
  have hwa : IntKind.i64.wrap (y * (w : Int) + x) = (i : Int) := by rw [hix]; exact IntWalk.i64_in _ (by clear hwm; omega)
  have hi' : (i : Int) < (N : Int) := by omega
  have hmin := run_min4
  clear hT hix hyw
  go_enter Try.func45, Try.ntmps45
  go_wp2_with fail
  have g0 := cell_below h0 hbW.out
  have g1 := cell_below h1 hbW.out
  have g2 := cell_below h2 hbW.out
  have g3 := cell_below h3 hbW.out
  rw [Nat.add_zero] at g0
  generalize hW1 : (W.alloc (.cells #[.int .i64 w, .int .i64 h, .int .i64 mv, .int .i64 bd, bv] 24)).alloc (.cells #[.int .i64 x, .int .i64 y] 26) = W1 at *
  obtain ⟨c0, _, _, _, _⟩ := HGX.out
  obtain ⟨c5, c6⟩ := HBX.out
  have e0 := fun x : Grow W1 => grow_cell g0 x
  have e1 := fun x : Grow W1 => grow_cell g1 x
  have e2 := fun x : Grow W1 => grow_cell g2 x
  have e3 := fun x : Grow W1 => grow_cell g3 x
  have e4 := fun x : Grow W1 => grow_cell c0 x
  have e5 := fun x : Grow W1 => grow_cell c5 x
  have e6 := fun x : Grow W1 => grow_cell c6 x
  clear h0 h1 h2 h3 g0 g1 g2 g3 c0 c5 c6 hW1
  refine wp_region_grow (by kernel_rfl) (by kernel_rfl) ?_
  repeat (go_big_quiet_step (fail))
  refine wpQuiet_nil ?_
  intro _ hw'
  obtain ⟨xq, hw''⟩ := hw'
  subst hw''
  have HBq := Lib.hid (grow_below xq)
  clear e0 e1 e2 e3 e4 e5 e6
  generalize grow xq = w3 at *
  go_wp2_with fail
  go_ret
  exact ⟨by rw [HM.out]; rfl, hbW.out.trans (HBq.out.mono hbW.out.size)⟩

set_option maxRecDepth 100000 in
theorem sameInts_any (l m : List Int) (v u : Value) (W : World) (hv : Rd W v (ints l)) (hu : Rd W u (ints m)) (hl : l.length ≤ 4000000) :
    Calls Try.prog 16 #[v, u] W fun e w' => e = .returned (.bool (decide (l = m))) ∧ Below W.heap.size W w' := by
  obtain ⟨a, cap, rfl, hc, hcm, ha, _⟩ := hv
  obtain ⟨b, cap2, rfl, hc2, hcm2, hb, _⟩ := hu
  simp only [ints_length] at *
  by_cases hne : l.length = m.length
  · have HL := Lib.hid hne
    have HEQ : Hid ((∀ k, k < l.length → l.getD k 0 = m.getD k 0) → decide (l = m) = true) := Lib.hid (fun hh => decide_eq_true (List.ext_getElem hne fun k h1 h2 => by
      have := hh k h1
      rwa [List.getD_eq_getElem?_getD, List.getD_eq_getElem?_getD, List.getElem?_eq_getElem h1, List.getElem?_eq_getElem h2] at this))
    have HNE : Hid (∀ k, l.getD k 0 ≠ m.getD k 0 → decide (l = m) = false) := Lib.hid (fun k hk => decide_eq_false (fun e => hk (by rw [e])))
    generalize decide (l = m) = res at *
    rw [← hne]
    obtain ⟨N, hN⟩ : ∃ N, l.length = N := ⟨_, rfl⟩
    rw [hN] at HL HEQ hl ⊢
    have HN := Lib.hid hN
    clear hne hN
    go_enter Try.func16, Try.ntmps16
    go_wp2_with fail
    go_loopw [13] (fun i wr => ∃ k : Nat, k ≤ N ∧ i = .int .i64 k ∧ Hid (Below W.heap.size W wr) ∧ Hid (∀ j, j < k → l.getD j 0 = m.getD j 0)) (fun i _ => N - (intOf i).toNat)
    case atStart => exact ⟨0, Nat.zero_le _, rfl, Lib.hid (Below.refl _ _), Lib.hid fun j h => absurd h (Nat.not_lt_zero _)⟩
    case round =>
      obtain ⟨k, hk, rfl, HR, HA⟩ := hrel
      by_cases hkN : k < N
      · have hkN' : (k : Int) < (N : Int) := by omega
        obtain ⟨cb, co, rfl, hcell⟩ := (ha.below HR.out (Nat.le_refl _)).cell (j := k) (by rw [ints_length, HN.out]; exact hkN)
        have f0 := hcell k _ (ints_getD (by rw [HN.out]; exact hkN))
        obtain ⟨db, dd, rfl, hcell2⟩ := (hb.below HR.out (Nat.le_refl _)).cell (j := k) (by rw [ints_length, ← HL.out]; exact hkN)
        have f1 := hcell2 k _ (ints_getD (by rw [← HL.out]; exact hkN))
        have HNK := Lib.hid (HNE.out k)
        have HAK : Hid (l.getD k 0 = m.getD k 0 → ∀ j, j < k + 1 → l.getD j 0 = m.getD j 0) := Lib.hid (fun h j hj => by
          rcases (by omega : j < k ∨ j = k) with h1 | rfl
          · exact HA.out j h1
          · exact h)
        generalize l.getD k 0 = av at *
        generalize m.getD k 0 = bv at *
        have e0 := fun x : Grow wr => grow_cell f0 x
        have e1 := fun x : Grow wr => grow_cell f1 x
        clear hcell hcell2 f0 f1
        by_cases hab : av = bv
        · subst hab
          have HA2 := Lib.hid (HAK.out rfl)
          go_wp2_with fail
          refine wp_region_grow (by kernel_rfl) (by kernel_rfl) ?_
          repeat (go_big_quiet_step (fail))
          refine wpQuiet_nil ?_
          intro _ hw'
          obtain ⟨xq, hw''⟩ := hw'
          subst hw''
          have HBq := Lib.hid (HR.out.trans ((grow_below xq).mono HR.out.size))
          clear e0 e1
          generalize grow xq = w8 at *
          go_wp2_with fail
          go_roundw
          case rel => exact ⟨k + 1, by omega, by go_num, HBq, HA2⟩
          case measure => simp [intOf]; omega
        · have HF := Lib.hid (HNK.out hab)
          have hab' : (av != bv) = true := by simpa using hab
          go_wp2_with fail
          refine wp_region_grow (by kernel_rfl) (by kernel_rfl) ?_
          repeat (go_big_quiet_step (fail))
          refine wpQuiet_nil ?_
          intro _ hw'
          obtain ⟨xq, hw''⟩ := hw'
          subst hw''
          have HBq := Lib.hid (HR.out.trans ((grow_below xq).mono HR.out.size))
          clear e0 e1
          generalize grow xq = w8 at *
          go_wp2_with fail
          go_ret
          exact ⟨by rw [HF.out]; rfl, HBq.out⟩
      · obtain rfl : k = N := by omega
        have HT := Lib.hid (HEQ.out HA.out)
        go_wp2_with fail
        go_ret
        exact ⟨by rw [HT.out]; rfl, HR.out⟩
  · have HF : Hid (decide (l = m) = false) := Lib.hid (decide_eq_false fun e => hne (by rw [e]))
    have hne' : ((l.length : Int) != (m.length : Int)) = true := by simp; omega
    generalize decide (l = m) = res at *
    clear hne
    go_enter Try.func16, Try.ntmps16
    go_wp2_with fail
    go_ret
    exact ⟨by rw [HF.out]; rfl, Below.refl _ _⟩
end Go.Proofs.Ytpakkjkjppibnaa

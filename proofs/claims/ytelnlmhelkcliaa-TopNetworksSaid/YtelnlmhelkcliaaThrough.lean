/- Through, Turned, and what they ask first, in both texts. -/
import Derived.Test.YtelnlmhelkcliaaOut
import Derived.Test.YtelnlmhelkcliaaSame
import Derived.Test.YtelnlmhelkcliaaTrace
namespace Go.Proofs.Ytelnlmhelkcliaa
open Go.RowKit

/-- the depth of a network -/
def lg (n : Int) : Nat := if n = 2 then 0 else if n = 4 then 1 else if n = 8 then 2 else 3
theorem lg_spec (n : Int) (h : szB n = true) : n = pw (lg n) ∧ lg n ≤ 3 := by
  simp only [szB, Bool.or_eq_true, beq_iff_eq] at h
  rcases h with ((h | h) | h) | h <;> subst h <;> decide
/-- the error of a number of ports and a number of settings -/
def fitE (n : Int) (len : Nat) : Int := if szB n then (if len = cnt (lg n) then 0 else 80) else 2

theorem fitE_bad {n : Int} {len : Nat} (h : szB n = false) : fitE n len = 2 := by simp [fitE, h]
theorem fitE_len {n : Int} {len : Nat} (h : szB n = true) (h2 : len ≠ cnt (lg n)) : fitE n len = 80 := by simp [fitE, h, h2]
theorem fitE_ok {n : Int} {len : Nat} (h : szB n = true) (h2 : len = cnt (lg n)) : fitE n len = 0 := by simp [fitE, h, h2]

theorem fits_any (n : Int) (v : Value) (S : List Bool) (w : World) (hv : Rd w v (bools S)) :
    Calls Try.prog 42 #[.int .i64 n, v] w fun e w' => e = .returned (.int .i64 (fitE n S.length)) ∧ w = w' := by
  obtain ⟨a, cap, rfl, hc, hcm, _, _⟩ := hv
  rw [bools_length] at *
  cases hz : szB n with
  | false =>
    rw [fitE_bad hz]
    have HZ := Lib.hid hz
    clear hz
    go_enter Try.func42, Try.ntmps42
    go_wp2_with (go_at_call 60; refine (ports_any _ _).mono ?_; rw [HZ.out]; rintro e w' ⟨rfl, rfl⟩)
    go_ret
    exact ⟨rfl, rfl⟩
  | true =>
    obtain ⟨hn, hk⟩ := lg_spec n hz
    by_cases hl : S.length = cnt (lg n)
    · rw [fitE_ok hz hl]
      have hb : ((S.length : Int) != (cnt (lg n) : Nat)) = false := by rw [hl]; simp
      have HZ := Lib.hid hz
      have HN := Lib.hid hn
      have HK := Lib.hid hk
      clear hz hn hk hl
      go_enter Try.func42, Try.ntmps42
      go_wp2_with (first | (go_at_call 60; refine (ports_any _ _).mono ?_; rw [HZ.out]; rintro e w' ⟨rfl, rfl⟩) | (go_at_call 49; refine (count_any _ _ _ HK.out HN.out).mono ?_; rintro e w' ⟨rfl, rfl⟩))
      go_ret
      exact ⟨rfl, rfl⟩
    · rw [fitE_len hz hl]
      have hb : ((S.length : Int) != (cnt (lg n) : Nat)) = true := by simp; omega
      have HZ := Lib.hid hz
      have HN := Lib.hid hn
      have HK := Lib.hid hk
      clear hz hn hk hl
      go_enter Try.func42, Try.ntmps42
      go_wp2_with (first | (go_at_call 60; refine (ports_any _ _).mono ?_; rw [HZ.out]; rintro e w' ⟨rfl, rfl⟩) | (go_at_call 49; refine (count_any _ _ _ HK.out HN.out).mono ?_; rintro e w' ⟨rfl, rfl⟩))
      go_ret
      exact ⟨rfl, rfl⟩

theorem asked_any (n : Int) (v : Value) (S : List Bool) (w : World) (hv : Rd w v (bools S)) :
    Calls Try.prog 44 #[.int .i64 n, v] w fun e w' => e = .returned (.int .i64 (fitE n S.length)) ∧ w = w' := by
  obtain ⟨a, cap, rfl, hc, hcm, _, _⟩ := hv
  rw [bools_length] at *
  cases hz : szB n with
  | false =>
    rw [fitE_bad hz]
    have HZ := Lib.hid hz
    clear hz
    go_enter Try.func44, Try.ntmps44
    go_wp2_with (go_at_call 53; refine (isSize_any _ _).mono ?_; rw [HZ.out]; rintro e w' ⟨rfl, rfl⟩)
    go_ret
    exact ⟨rfl, rfl⟩
  | true =>
    obtain ⟨hn, hk⟩ := lg_spec n hz
    by_cases hl : S.length = cnt (lg n)
    · rw [fitE_ok hz hl]
      have hb : ((S.length : Int) != (cnt (lg n) : Nat)) = false := by rw [hl]; simp
      have HZ := Lib.hid hz
      have HN := Lib.hid hn
      have HK := Lib.hid hk
      clear hz hn hk hl
      go_enter Try.func44, Try.ntmps44
      go_wp2_with (first | (go_at_call 53; refine (isSize_any _ _).mono ?_; rw [HZ.out]; rintro e w' ⟨rfl, rfl⟩) | (go_at_call 57; refine (switches_any _ _ _ HK.out HN.out).mono ?_; rintro e w' ⟨rfl, rfl⟩))
      go_ret
      exact ⟨rfl, rfl⟩
    · rw [fitE_len hz hl]
      have hb : ((S.length : Int) != (cnt (lg n) : Nat)) = true := by simp; omega
      have HZ := Lib.hid hz
      have HN := Lib.hid hn
      have HK := Lib.hid hk
      clear hz hn hk hl
      go_enter Try.func44, Try.ntmps44
      go_wp2_with (first | (go_at_call 53; refine (isSize_any _ _).mono ?_; rw [HZ.out]; rintro e w' ⟨rfl, rfl⟩) | (go_at_call 57; refine (switches_any _ _ _ HK.out HN.out).mono ?_; rintro e w' ⟨rfl, rfl⟩))
      go_ret
      exact ⟨rfl, rfl⟩

/-- the outputs of the first j inputs -/
def thr (k : Nat) (S : List Bool) (j : Nat) : List Int := (List.range j).map fun i => ((tro k S i 0 : Nat) : Int)
theorem thr_succ (k : Nat) (S : List Bool) (j : Nat) : thr k S (j + 1) = thr k S j ++ [((tro k S j 0 : Nat) : Int)] := by
  unfold thr; rw [List.range_succ, List.map_append]; rfl
theorem thr_len (k : Nat) (S : List Bool) (j : Nat) : (thr k S j).length = j := by simp [thr]

theorem seg_all {α : Type} (S : List α) (n : Nat) (h : S.length = n) : seg S 0 n = S := by
  simp [seg, ← h]

theorem through_any (k : Nat) (n : Int) (v : Value) (S : List Bool) (w : World) (hk : k ≤ 3) (hn : n = pw k) (hl : S.length = cnt k) (hv : Rd w v (bools S)) :
    Calls Try.prog 43 #[.int .i64 n, v] w fun e w' => ∃ u, e = .returned u ∧ w'.ownsRow w.heap.size 3 1 u (pw k) (ints (thr k S (pw k))) ∧ Below w.heap.size w w' := by
  have hv2 : Rd w v ((seg S 0 (cnt k)).map .bool) := by rw [seg_all S _ hl]; exact hv
  have h2 := pw_le k hk
  have h3 := cnt_bd k hk
  have hS : S.length ≤ 1000 := by omega
  have hS2 : 0 + cnt k ≤ S.length := by omega
  subst hn
  have HL := Lib.hid hl
  clear hl hv
  go_enter Try.func43, Try.ntmps43
  go_wp2_with fail
  go_loopw [5, 10] (fun v i wr => ∃ j : Nat, j ≤ pw k ∧ i = .int .i64 j ∧ wr.ownsRow w.heap.size 3 1 v j (ints (thr k S j)) ∧ Below w.heap.size w wr) (fun _ i _ => pw k - (intOf i).toNat)
  case atStart => exact ⟨0, Nat.zero_le _, rfl, World.ownsRow_nil _ _ _ _, Below.refl _ _⟩
  case round =>
    obtain ⟨j, hj, rfl, hown, hbel⟩ := hrel
    by_cases hlt : j < pw k
    · have HT := Lib.hid (thr_succ k S j)
      go_wp2_with (first
        | (go_at_call 47; refine (trace_any k _ _ _ _ S j 0 _ hk rfl rfl rfl hlt hS2 hS (hv2.below hbel (Nat.le_refl _))).mono ?_; rintro e w1 ⟨u, rfl, _, hb1⟩)
        | (at_builtin; refine app1 el_int rfl rfl (w0 := w) rfl rfl (by exact hbel.trans (hb1.mono hbel.size)) (by exact own_below hown hb1) rfl (by omega) ?_; intro v2 w2 ho2 hb2 _))
      go_roundw
      case rel => exact ⟨j + 1, by omega, by go_num, by rw [HT.out, ints_append]; exact ho2, hb2⟩
      case measure => simp [intOf]; omega
    · obtain rfl : j = pw k := by omega
      go_wp2_with fail
      go_ret
      exact ⟨_, rfl, hown, hbel⟩

/-- what Through gives -/
def thrL (n : Int) (S : List Bool) : List Int := if fitE n S.length = 0 then thr (lg n) S (pw (lg n)) else []
theorem fitE_cases (n : Int) (len : Nat) : (szB n = false ∧ fitE n len = 2) ∨ (szB n = true ∧ len ≠ cnt (lg n) ∧ fitE n len = 80) ∨ (szB n = true ∧ len = cnt (lg n) ∧ fitE n len = 0) := by
  cases h : szB n with
  | false => exact .inl ⟨rfl, fitE_bad h⟩
  | true =>
    by_cases h2 : len = cnt (lg n)
    · exact .inr (.inr ⟨rfl, h2, fitE_ok h h2⟩)
    · exact .inr (.inl ⟨rfl, h2, fitE_len h h2⟩)

theorem Through_any (n : Int) (v : Value) (S : List Bool) (w : World) (hv : Rd w v (bools S)) :
    Calls Try.prog 16 #[.int .i64 n, v] w fun e w' => ∃ u, e = .returned (.tuple #[u, .int .i64 (fitE n S.length)]) ∧ w'.ownsRow w.heap.size 3 1 u (thrL n S).length (ints (thrL n S)) ∧ Below w.heap.size w w' := by
  by_cases h0 : fitE n S.length = 0
  · have hL : thrL n S = thr (lg n) S (pw (lg n)) := if_pos h0
    rcases fitE_cases n S.length with ⟨_, h⟩ | ⟨_, _, h⟩ | ⟨hz, hl, _⟩
    · omega
    · omega
    · obtain ⟨hn, hk⟩ := lg_spec n hz
      rw [hL, thr_len, h0]
      have HN := Lib.hid hn
      have HE := Lib.hid h0
      have HL := Lib.hid hl
      clear hn h0 hl hL hz
      go_enter Try.func16, Try.ntmps16
      go_wp2_with (first
        | (go_at_call 42; refine (fits_any _ _ S _ hv).mono ?_; rw [HE.out]; rintro e w' ⟨rfl, rfl⟩)
        | (go_at_call 43; refine (through_any _ _ _ S _ hk HN.out HL.out hv).mono ?_; rintro e w1 ⟨u, rfl, hu, hb1⟩))
      go_ret2
      exact ⟨_, rfl, hu, hb1⟩
  · have hL : thrL n S = [] := if_neg h0
    rw [hL]
    obtain ⟨x, hx⟩ : ∃ x, x = fitE n S.length := ⟨_, rfl⟩
    rw [← hx] at h0 ⊢
    have hb : (x != 0) = true := by simpa using h0
    have HX := Lib.hid hx
    clear hx h0 hL
    go_enter Try.func16, Try.ntmps16
    go_wp2_with (go_at_call 42; refine (fits_any _ _ S _ hv).mono ?_; rw [← HX.out]; rintro e w' ⟨rfl, rfl⟩)
    go_ret2
    exact ⟨_, rfl, World.ownsRow_nil _ _ _ _, Below.refl _ _⟩

theorem refThrough_any (n : Int) (v : Value) (S : List Bool) (w : World) (hv : Rd w v (bools S)) :
    Calls Try.prog 17 #[.int .i64 n, v] w fun e w' => ∃ u, e = .returned (.tuple #[u, .int .i64 (fitE n S.length)]) ∧ w'.ownsRow w.heap.size 3 1 u (thrL n S).length (ints (thrL n S)) ∧ Below w.heap.size w w' := by
  by_cases h0 : fitE n S.length = 0
  · have hL : thrL n S = thr (lg n) S (pw (lg n)) := if_pos h0
    rcases fitE_cases n S.length with ⟨_, h⟩ | ⟨_, _, h⟩ | ⟨hz, hl, _⟩
    · omega
    · omega
    · obtain ⟨hn, hk⟩ := lg_spec n hz
      rw [hL, thr_len, h0]
      have HE := Lib.hid h0
      have h2 := pw_le (lg n) hk
      have h3 := cnt_bd (lg n) hk
      have hS : S.length ≤ 1000 := by omega
      have hS2 : 0 + cnt (lg n) ≤ S.length := by omega
      generalize lg n = k at *
      subst hn
      clear h0 hl hL hz
      go_enter Try.func17, Try.ntmps17
      go_wp2_with (go_at_call 44; refine (asked_any _ _ S _ hv).mono ?_; rw [HE.out]; rintro e w' ⟨rfl, rfl⟩)
      go_loopw [7, 8] (fun v i wr => ∃ j : Nat, j ≤ pw k ∧ i = .int .i64 j ∧ wr.ownsRow w.heap.size 3 1 v j (ints (thr k S j)) ∧ Below w.heap.size w wr) (fun _ i _ => pw k - (intOf i).toNat)
      case atStart => exact ⟨0, Nat.zero_le _, rfl, World.ownsRow_nil _ _ _ _, Below.refl _ _⟩
      case round =>
        obtain ⟨j, hj, rfl, hown, hbel⟩ := hrel
        by_cases hlt : j < pw k
        · have HT := Lib.hid (thr_succ k S j)
          go_wp2_with (first
            | (go_at_call 45; refine (out_any k _ _ _ _ _ S j 0 0 [] wr _ hk rfl rfl rfl hlt hS2 hS (hv.below hbel (Nat.le_refl _)) (Below.refl _ _) (World.ownsRow_nil _ _ _ _) (by omega)).mono ?_; rintro e w1 ⟨u, rfl, _, hb1⟩)
            | (at_builtin; refine app1 el_int rfl rfl (w0 := w) rfl rfl (by exact hbel.trans (hb1.mono hbel.size)) (by exact own_below hown hb1) rfl (by omega) ?_; intro v2 w2 ho2 hb2 _))
          go_roundw
          case rel => exact ⟨j + 1, by omega, by go_num, by rw [HT.out, ints_append]; exact ho2, hb2⟩
          case measure => simp [intOf]; omega
        · obtain rfl : j = pw k := by omega
          go_wp2_with fail
          go_ret2
          exact ⟨_, rfl, hown, hbel⟩
  · have hL : thrL n S = [] := if_neg h0
    rw [hL]
    obtain ⟨x, hx⟩ : ∃ x, x = fitE n S.length := ⟨_, rfl⟩
    rw [← hx] at h0 ⊢
    have hb : (x != 0) = true := by simpa using h0
    have HX := Lib.hid hx
    clear hx h0 hL
    go_enter Try.func17, Try.ntmps17
    go_wp2_with (go_at_call 44; refine (asked_any _ _ S _ hv).mono ?_; rw [← HX.out]; rintro e w' ⟨rfl, rfl⟩)
    go_ret2
    exact ⟨_, rfl, World.ownsRow_nil _ _ _ _, Below.refl _ _⟩

end Go.Proofs.Ytelnlmhelkcliaa

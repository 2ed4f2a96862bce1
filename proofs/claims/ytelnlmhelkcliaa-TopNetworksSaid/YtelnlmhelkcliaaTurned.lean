/- Turned in both texts. -/
import Derived.Test.YtelnlmhelkcliaaThrough
namespace Go.Proofs.Ytelnlmhelkcliaa
open Go.RowKit

/-- how many of the first j are turned -/
def trn (S : List Bool) (j : Nat) : Nat := (S.take j).count true
theorem trn_le (S : List Bool) (j : Nat) : trn S j ≤ j := by
  unfold trn
  have := List.count_le_length (a := true) (l := S.take j)
  have := List.length_take_le j S
  omega
theorem trn_succ (S : List Bool) (j : Nat) (x : Bool) (h : S[j]? = some x) : ((trn S (j + 1) : Nat) : Int) = (trn S j : Nat) + bI x := by
  unfold trn
  rw [take_snoc h, List.count_append]
  cases x <;> simp [bI]
/-- what Turned gives -/
def trnE (n : Int) (S : List Bool) : Int := if fitE n S.length = 0 then (trn S S.length : Nat) else 0

theorem Turned_any (n : Int) (v : Value) (S : List Bool) (w : World) (hv : Rd w v (bools S)) :
    Calls Try.prog 18 #[.int .i64 n, v] w fun e w' => e = .returned (.tuple #[.int .i64 (trnE n S), .int .i64 (fitE n S.length)]) ∧ w = w' := by
  by_cases h0 : fitE n S.length = 0
  · have hL : trnE n S = (trn S S.length : Nat) := if_pos h0
    rcases fitE_cases n S.length with ⟨_, h⟩ | ⟨_, _, h⟩ | ⟨hz, hl, _⟩
    · omega
    · omega
    · obtain ⟨hn, hk⟩ := lg_spec n hz
      have h3 := cnt_bd (lg n) hk
      rw [hL, h0]
      have HE := Lib.hid h0
      have hlen : S.length ≤ 56 := by omega
      clear hn h0 hl hL hz hk h3
      have HV := Lib.hid hv
      obtain ⟨a, cap, rfl, hc, hcm, ha, _⟩ := hv
      rw [bools_length] at hc HV ⊢
      go_enter Try.func18, Try.ntmps18
      go_wp2_with (go_at_call 42; refine (fits_any _ _ S _ HV.out).mono ?_; rw [HE.out]; rintro e w' ⟨rfl, rfl⟩)
      go_loop [7, 18] (fun c i => ∃ j : Nat, j ≤ S.length ∧ i = .int .i64 j ∧ c = .int .i64 (trn S j : Nat)) (fun _ i => S.length - (intOf i).toNat)
      case atStart => exact ⟨0, Nat.zero_le _, rfl, rfl⟩
      case round =>
        obtain ⟨j, hj, rfl, rfl⟩ := hrel
        have hle := trn_le S j
        by_cases hlt : j < S.length
        · obtain ⟨b, off, rfl, hcell⟩ := ha.cell (j := j) (by rw [bools_length]; exact hlt)
          obtain ⟨x, hx⟩ : ∃ x, S[j]? = some x := ⟨_, List.getElem?_eq_getElem hlt⟩
          have c1 := hcell j _ (bools_get hx)
          have HT := Lib.hid (trn_succ S j x hx)
          clear hcell hx ha
          cases x
          all_goals
            have hbf : bI false = 0 := rfl
            have hbt : bI true = 1 := rfl
            go_wp2_with (go_at_call 46; refine (bit_any _ _).mono ?_; rintro e w' ⟨rfl, rfl⟩)
            go_round
            case rel => exact ⟨j + 1, by omega, by go_num, by rw [HT.out]; simp [bI]⟩
            case measure => simp [intOf]; omega
        · obtain rfl : j = S.length := by omega
          go_wp2_with fail
          go_ret2
          exact ⟨rfl, rfl⟩
  · have hL : trnE n S = 0 := if_neg h0
    rw [hL]
    obtain ⟨x, hx⟩ : ∃ x, x = fitE n S.length := ⟨_, rfl⟩
    rw [← hx] at h0 ⊢
    have hb : (x != 0) = true := by simpa using h0
    have HX := Lib.hid hx
    clear hx h0 hL
    go_enter Try.func18, Try.ntmps18
    go_wp2_with (go_at_call 42; refine (fits_any _ _ S _ hv).mono ?_; rw [← HX.out]; rintro e w' ⟨rfl, rfl⟩)
    go_ret2
    exact ⟨rfl, rfl⟩

theorem refTurned_any (n : Int) (v : Value) (S : List Bool) (w : World) (hv : Rd w v (bools S)) :
    Calls Try.prog 19 #[.int .i64 n, v] w fun e w' => e = .returned (.tuple #[.int .i64 (trnE n S), .int .i64 (fitE n S.length)]) ∧ w = w' := by
  by_cases h0 : fitE n S.length = 0
  · have hL : trnE n S = (trn S S.length : Nat) := if_pos h0
    rcases fitE_cases n S.length with ⟨_, h⟩ | ⟨_, _, h⟩ | ⟨hz, hl, _⟩
    · omega
    · omega
    · obtain ⟨hn, hk⟩ := lg_spec n hz
      have h3 := cnt_bd (lg n) hk
      rw [hL, h0]
      have HE := Lib.hid h0
      have hlen : S.length ≤ 56 := by omega
      clear hn h0 hl hL hz hk h3
      have HV := Lib.hid hv
      obtain ⟨a, cap, rfl, hc, hcm, ha, _⟩ := hv
      rw [bools_length] at hc HV ⊢
      go_enter Try.func19, Try.ntmps19
      go_wp2_with (go_at_call 44; refine (asked_any _ _ S _ HV.out).mono ?_; rw [HE.out]; rintro e w' ⟨rfl, rfl⟩)
      go_loop [7, 8] (fun c i => ∃ j : Nat, j ≤ S.length ∧ i = .int .i64 j ∧ c = .int .i64 (trn S j : Nat)) (fun _ i => S.length - (intOf i).toNat)
      case atStart => exact ⟨0, Nat.zero_le _, rfl, rfl⟩
      case round =>
        obtain ⟨j, hj, rfl, rfl⟩ := hrel
        have hle := trn_le S j
        by_cases hlt : j < S.length
        · obtain ⟨b, off, rfl, hcell⟩ := ha.cell (j := j) (by rw [bools_length]; exact hlt)
          obtain ⟨x, hx⟩ : ∃ x, S[j]? = some x := ⟨_, List.getElem?_eq_getElem hlt⟩
          have c1 := hcell j _ (bools_get hx)
          have HT := Lib.hid (trn_succ S j x hx)
          clear hcell hx ha
          cases x
          all_goals
            have hbf : bI false = 0 := rfl
            have hbt : bI true = 1 := rfl
            go_wp2_with (go_at_call 46; refine (bit_any _ _).mono ?_; rintro e w' ⟨rfl, rfl⟩)
            go_round
            case rel => exact ⟨j + 1, by omega, by go_num, by rw [HT.out]; simp [bI]⟩
            case measure => simp [intOf]; omega
        · obtain rfl : j = S.length := by omega
          go_wp2_with fail
          go_ret2
          exact ⟨rfl, rfl⟩
  · have hL : trnE n S = 0 := if_neg h0
    rw [hL]
    obtain ⟨x, hx⟩ : ∃ x, x = fitE n S.length := ⟨_, rfl⟩
    rw [← hx] at h0 ⊢
    have hb : (x != 0) = true := by simpa using h0
    have HX := Lib.hid hx
    clear hx h0 hL
    go_enter Try.func19, Try.ntmps19
    go_wp2_with (go_at_call 44; refine (asked_any _ _ S _ hv).mono ?_; rw [← HX.out]; rintro e w' ⟨rfl, rfl⟩)
    go_ret2
    exact ⟨rfl, rfl⟩

theorem Count_any (k : Nat) (n : Int) (w : World) (hk : k ≤ 3) (hn : n = pw k) :
    Calls Try.prog 41 #[.int .i64 n] w fun e w' => e = .returned (.tuple #[.int .i64 (cnt k), .int .i64 0]) ∧ w = w' := by
  have HZ := Lib.hid ((szB_iff n).2 ⟨k, hk, hn⟩)
  have HN := Lib.hid hn
  clear hn
  go_enter Try.func41, Try.ntmps41
  go_wp2_with (first | (go_at_call 60; refine (ports_any _ _).mono ?_; rw [HZ.out]; rintro e w' ⟨rfl, rfl⟩) | (go_at_call 49; refine (count_any k _ _ hk HN.out).mono ?_; rintro e w' ⟨rfl, rfl⟩))
  go_ret2
  exact ⟨rfl, rfl⟩

theorem sane_any (w : World) : Calls Try.prog 15 #[] w fun e w' => e = .returned (.bool true) ∧ Below w.heap.size w w' := by
  have hmk : ∀ w, (Instr.makeSlice 22 (.int .i64 6) (.int .i64 6)).run Try.prog w = .ok (.slice (some ⟨w.heap.size, 0, none⟩) 6 6) (w.alloc (.cells #[.bool false, .bool false, .bool false, .bool false, .bool false, .bool false] 4)) := fun _ => by kernel_rfl
  have hrd : Rd (w.alloc (.cells #[.bool false, .bool false, .bool false, .bool false, .bool false, .bool false] 4)) (.slice (some ⟨w.heap.size, 0, none⟩) 6 6) (bools [false, false, false, false, false, false]) :=
    Rd.own (own_lit w w.heap.size 4 _ 6 (Nat.le_refl _) rfl (by decide))
  have HB : Below w.heap.size w (w.alloc (.cells #[.bool false, .bool false, .bool false, .bool false, .bool false, .bool false] 4)) := (Below.refl _ _).alloc (Nat.le_refl _) _
  go_enter Try.func15, Try.ntmps15
  go_wp2_with fail
  refine (Through_any 4 _ _ _ hrd).mono ?_
  rw [show thrL 4 [false, false, false, false, false, false] = [0, 1, 2, 3] from by decide, show fitE 4 ([false, false, false, false, false, false] : List Bool).length = 0 from by decide]
  rintro e w1 ⟨u, rfl, hu, hb1⟩
  obtain ⟨a, cap, rfl, hc, hm, ha, _⟩ := (Rd.own hu).parts (n := 4) rfl
  obtain ⟨b, off, rfl, hcell⟩ := ha.cell (j := 1) (by decide)
  have c1 := hcell 1 (.int .i64 1) rfl
  have hb2 := HB.trans (hb1.mono (by simp))
  clear hcell ha hu hb1 hrd
  go_wp2_with (go_at_call 41; refine (Count_any 1 _ _ (by decide) rfl).mono ?_; rw [show ((cnt 1 : Nat) : Int) = 6 from rfl]; rintro e w' ⟨rfl, rfl⟩)
  go_ret
  exact ⟨rfl, hb2⟩

end Go.Proofs.Ytelnlmhelkcliaa

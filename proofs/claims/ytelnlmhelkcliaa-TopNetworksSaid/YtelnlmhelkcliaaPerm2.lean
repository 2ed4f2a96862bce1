/- benes.permutation: the same by bits. -/
import Derived.Test.YtelnlmhelkcliaaPerm
namespace Go.Proofs.Ytelnlmhelkcliaa
open Go.RowKit

theorem wrap_pow (j : Nat) (h : j ≤ 16) : IntKind.u64.wrap ((2 : Int) ^ j) = ((2 ^ j : Nat) : Int) := by
  have : ∀ j : Fin 17, IntKind.u64.wrap ((2 : Int) ^ j.val) = ((2 ^ j.val : Nat) : Int) := by decide +kernel
  exact this ⟨j, by omega⟩
theorem wrap_pow1 (j : Nat) (h : j ≤ 16) : IntKind.u64.wrap (IntKind.u64.wrap ((2 : Int) ^ j) - 1) = ((2 ^ j - 1 : Nat) : Int) := by
  have : ∀ j : Fin 17, IntKind.u64.wrap (IntKind.u64.wrap ((2 : Int) ^ j.val) - 1) = ((2 ^ j.val - 1 : Nat) : Int) := by decide +kernel
  exact this ⟨j, by omega⟩
theorem pow_le16 (j : Nat) (h : j ≤ 16) : 2 ^ j ≤ 65536 := Nat.pow_le_pow_right (n := 2) (by decide) h
theorem or_pow (s j n : Nat) (hs : s < 2 ^ n) (hn : n ≤ 16) (h : j ≤ 16) : bits .or .u64 (s : Int) (IntKind.u64.wrap ((2 : Int) ^ j)) = ((s ||| 2 ^ j : Nat) : Int) := by
  have h1 := pow_le16 n hn
  have h2 := pow_le16 j h
  rw [wrap_pow j h, u64_or_nat _ _ (by omega) (by omega)]

set_option maxHeartbeats 400000 in
theorem permutation_any (p : List Int) (v : Value) (w : World) (hv : Rd w v (ints p)) :
    Calls Try.prog 48 #[v] w fun e w' => e = .returned (.bool (permB p)) ∧ w = w' := by
  obtain ⟨a, cap, rfl, hc, hcm, ha, _⟩ := hv
  rw [ints_length] at *
  cases hz : szB p.length with
  | false =>
    have hP : permB p = false := by simp [permB, hz]
    rw [hP]
    have HZ := Lib.hid hz
    clear hz hP
    go_enter Try.func48, Try.ntmps48
    go_wp2_with (go_at_call 60; refine (ports_any _ _).mono ?_; rw [HZ.out]; rintro e w' ⟨rfl, rfl⟩)
    go_ret
    exact ⟨rfl, rfl⟩
  | true =>
    have hP : permB p = decide (PermP p) := by simp [permB, hz]
    rw [hP]
    obtain ⟨k0, hk0, hn0⟩ := (szB_iff p.length).1 hz
    have hle := pw_le k0 hk0
    have hlen : p.length ≤ 16 := by omega
    have HZ := Lib.hid hz
    clear hz hP hn0
    generalize hn : p.length = n at *
    have HN := Lib.hid hn
    clear hn
    go_enter Try.func48, Try.ntmps48
    go_wp2_with (go_at_call 60; refine (ports_any _ _).mono ?_; rw [HZ.out]; rintro e w' ⟨rfl, rfl⟩)
    go_loop [3, 12] (fun s i => ∃ k : Nat, k ≤ n ∧ i = .int .i64 k ∧ s = .int .u64 (seenN (p.take k) n : Nat)) (fun _ i => n - (intOf i).toNat)
    case atStart => exact ⟨0, Nat.zero_le _, rfl, rfl⟩
    case round =>
      obtain ⟨k, hk, rfl, rfl⟩ := hrel
      by_cases hlt : k < n
      · have hlt' : k < p.length := by have := HN.out; omega
        obtain ⟨b, off, rfl, hcell⟩ := ha.cell (j := k) (by rw [ints_length]; exact hlt')
        obtain ⟨x, hx⟩ : ∃ x, p[k]? = some x := ⟨_, List.getElem?_eq_getElem hlt'⟩
        have c1 := hcell k _ (ints_get hx)
        have HS : Hid (seenN (p.take (k + 1)) n = if 0 ≤ x ∧ x < n then seenN (p.take k) n ||| 2 ^ x.toNat else seenN (p.take k) n) := Lib.hid (by rw [List.take_add_one, hx]; exact seenN_snoc _ _ _)
        have hsl := seenN_lt n (p.take k)
        clear hcell ha hx
        by_cases hr : 0 ≤ x ∧ x < n
        · obtain ⟨hr1, hr2⟩ := hr
          have hr3 : x < 16 := by omega
          have HO := Lib.hid (or_pow (seenN (p.take k) n) x.toNat n hsl hlen (by omega))
          go_wp2_with fail
          go_round
          case rel => exact ⟨k + 1, by omega, by go_num, by rw [HS.out, if_pos ⟨hr1, hr2⟩, HO.out]⟩
          case measure => simp [intOf]; omega
        · have HR := Lib.hid hr
          have hx2 : x < 0 ∨ 0 ≤ x ∧ n ≤ x := by omega
          clear hr
          rcases hx2 with hx2 | ⟨hx1, hx2⟩
          all_goals
            go_wp2_with fail
            go_round
            case rel => exact ⟨k + 1, by omega, by go_num, by rw [HS.out, if_neg HR.out]⟩
            case measure => simp [intOf]; omega
      · have hkn : k = n := by omega
        have HF : Hid ((((seenN (p.take k) n : Nat) : Int) == IntKind.u64.wrap (IntKind.u64.wrap ((2 : Int) ^ n) - 1)) = decide (PermP p)) := Lib.hid (by
          rw [wrap_pow1 n hlen, hkn, ← HN.out, List.take_length, Bool.eq_iff_iff, beq_iff_eq, decide_eq_true_iff, ← seenN_all]
          omega)
        clear hkn
        go_wp2_with fail
        go_ret
        exact ⟨by rw [← HF.out]; rfl, rfl⟩

end Go.Proofs.Ytelnlmhelkcliaa

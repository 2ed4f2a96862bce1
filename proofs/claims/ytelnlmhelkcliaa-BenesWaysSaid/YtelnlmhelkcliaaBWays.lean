/- Benes: Ways in both texts; the law BenesWays: its Go text returns true. -/
import Derived.Test.YtelnlmhelkcliaaBStk
namespace Go.Proofs.Ytelnlmhelkcliaa
open Go.RowKit

def stkB (p S : List Int) : Bool := decide (S.length = cnt (lg p.length)) && stuckB S
/-- what Ways gives -/
def wayE (p S : List Int) : Int := if permB p then (if stkB p S then 0 else 80) else 40
def wayN (p S : List Int) : Nat := if permB p then (if stkB p S then waysR (lg p.length) p (fun i => S.getD i 0) else 0) else 0
theorem permB_p {p : List Int} (h : permB p = true) : PermP p := by simp only [permB, Bool.and_eq_true, decide_eq_true_eq] at h; exact h.2

theorem askedW_any (p S : List Int) (v u : Value) (w : World) (hS : S.length ≤ 1000) (hv : Rd w v (ints p)) (hu : Rd w u (ints S)) :
    Calls Try.prog 54 #[v, u] w fun e w' => e = .returned (.int .i64 (wayE p S)) ∧ w = w' := by
  have HV := Lib.hid hv
  have HU := Lib.hid hu
  obtain ⟨a, cap, rfl, hc, hcm, _, _⟩ := hv
  rw [ints_length] at *
  cases hp : permB p with
  | false =>
    have HE : Hid (wayE p S = 40) := Lib.hid (by unfold wayE; rw [hp]; rfl)
    rw [HE.out]
    have HP := Lib.hid hp
    clear hp
    go_enter Try.func54, Try.ntmps54
    go_wp2_with (go_at_call 48; refine (permutation_any p _ _ HV.out).mono ?_; rw [HP.out]; rintro e w' ⟨rfl, rfl⟩)
    go_ret
    exact ⟨rfl, rfl⟩
  | true =>
    have hz := permB_sz hp
    obtain ⟨hn, hk⟩ := lg_spec _ hz
    obtain ⟨sb, hsb⟩ : ∃ sb, stkB p S = sb := ⟨_, rfl⟩
    have HE : Hid (wayE p S = if sb then 0 else 80) := Lib.hid (by unfold wayE; rw [hp, hsb]; rfl)
    have HP := Lib.hid hp
    have HC := Lib.hid (fun W => count_any (lg p.length) (p.length : Int) W hk hn)
    obtain ⟨c, hcn⟩ : ∃ c, cnt (lg p.length) = c := ⟨_, rfl⟩
    have HST := Lib.hid (states_any S (c : Int) u w hS HU.out)
    have hd : decide ((S.length : Int) = (c : Int)) = decide (S.length = c) := by
      rw [Bool.eq_iff_iff, decide_eq_true_eq, decide_eq_true_eq]
      omega
    rw [hd] at HST
    unfold stkB at hsb
    rw [hcn] at hsb HC
    rw [hsb] at HST
    rw [HE.out]
    clear hp hz hn hk hsb hcn hd hu
    cases sb with
    | true =>
      go_enter Try.func54, Try.ntmps54
      go_wp2_with (first
        | (go_at_call 48; refine (permutation_any p _ _ HV.out).mono ?_; rw [HP.out]; rintro e w' ⟨rfl, rfl⟩)
        | (go_at_call 49; refine (HC.out _).mono ?_; rintro e w' ⟨rfl, rfl⟩)
        | (go_at_call 61; refine HST.out.mono ?_; rintro e w' ⟨rfl, rfl⟩))
      go_ret
      exact ⟨rfl, rfl⟩
    | false =>
      go_enter Try.func54, Try.ntmps54
      go_wp2_with (first
        | (go_at_call 48; refine (permutation_any p _ _ HV.out).mono ?_; rw [HP.out]; rintro e w' ⟨rfl, rfl⟩)
        | (go_at_call 49; refine (HC.out _).mono ?_; rintro e w' ⟨rfl, rfl⟩)
        | (go_at_call 61; refine HST.out.mono ?_; rintro e w' ⟨rfl, rfl⟩))
      go_ret
      exact ⟨rfl, rfl⟩
theorem wayE_zero {p S : List Int} (h : wayE p S = 0) : permB p = true ∧ stkB p S = true := by
  unfold wayE at h
  cases hp : permB p with
  | false => rw [hp] at h; simp at h
  | true =>
    cases hs : stkB p S with
    | false => rw [hp, hs] at h; simp at h
    | true => exact ⟨rfl, rfl⟩
theorem wayN_bad {p S : List Int} (h : wayE p S ≠ 0) : wayN p S = 0 := by
  unfold wayE at h
  unfold wayN
  cases hp : permB p with
  | false => rfl
  | true =>
    cases hs : stkB p S with
    | false => rfl
    | true => rw [hp, hs] at h; exact absurd rfl h
theorem ways_pre {p S : List Int} (h : wayE p S = 0) : PermP p ∧ p.length = pw (lg p.length) ∧ S.length = cnt (lg p.length) ∧ lg p.length ≤ 3 ∧ wayN p S = waysR (lg p.length) p (fun i => S.getD i 0) := by
  obtain ⟨h1, h2⟩ := wayE_zero h
  obtain ⟨hn, hk⟩ := lg_spec _ (permB_sz h1)
  have h3 := h2
  unfold stkB at h3
  rw [Bool.and_eq_true, decide_eq_true_eq] at h3
  exact ⟨permB_p h1, by omega, h3.1, hk, by unfold wayN; rw [h1, h2]; rfl⟩
theorem Ways_any (p S : List Int) (v u : Value) (w : World) (hS : S.length ≤ 1000) (hv : Rd w v (ints p)) (hu : Rd w u (ints S)) :
    Calls Try.prog 31 #[v, u] w fun e w' => e = .returned (.tuple #[.int .i64 (wayN p S : Nat), .int .i64 (wayE p S)]) ∧ Below w.heap.size w w' := by
  have HAS := Lib.hid (askedW_any p S v u w hS hv hu)
  by_cases h0 : wayE p S = 0
  · obtain ⟨q1, q2, q3, q4, q5⟩ := ways_pre h0
    have HW := Lib.hid (ways_any (lg p.length) q4 p S v u w q1 q2 q3 hv hu)
    rw [← q5] at HW
    rw [h0] at HAS ⊢
    obtain ⟨r, hr⟩ : ∃ r, wayN p S = r := ⟨_, rfl⟩
    rw [hr] at HW ⊢
    clear q1 q2 q3 q4 q5 h0 hr
    go_enter Try.func31, Try.ntmps31
    go_wp2_with (first
      | (go_at_call 54; refine HAS.out.mono ?_; rintro e w' ⟨rfl, rfl⟩)
      | (go_at_call 55; refine HW.out.mono ?_; rintro e w5 ⟨rfl, hb5⟩))
    go_ret2
    exact ⟨rfl, hb5⟩
  · rw [wayN_bad h0]
    obtain ⟨y, hy⟩ : ∃ y, wayE p S = y := ⟨_, rfl⟩
    rw [hy] at HAS h0 ⊢
    have hb : (y != 0) = true := by simpa using h0
    have hb2 : (y == 0) = false := by simpa using h0
    clear hy h0
    go_enter Try.func31, Try.ntmps31
    go_wp2_with (go_at_call 54; refine HAS.out.mono ?_; rintro e w' ⟨rfl, rfl⟩)
    go_ret2
    exact ⟨rfl, Below.refl _ _⟩
set_option maxHeartbeats 400000 in
theorem refWays_top (p S : List Int) (v u : Value) (w : World) (hS : S.length ≤ 1000) (hv : Rd w v (ints p)) (hu : Rd w u (ints S)) :
    Calls Try.prog 32 #[v, u] w fun e w' => e = .returned (.tuple #[.int .i64 (wayN p S : Nat), .int .i64 (wayE p S)]) ∧ Below w.heap.size w w' := by
  have HIP := Lib.hid (isPerm_any p v w hv)
  have HV := Lib.hid hv
  have HU := Lib.hid hu
  obtain ⟨a, cap, rfl, hc, hcm, _, _⟩ := hv
  rw [ints_length] at *
  cases hp : permB p with
  | false =>
    have HE : Hid (wayE p S = 40) := Lib.hid (by unfold wayE; rw [hp]; rfl)
    have HN : Hid (wayN p S = 0) := Lib.hid (by unfold wayN; rw [hp]; rfl)
    rw [HE.out, HN.out]
    rw [hp] at HIP
    clear hp
    go_enter Try.func32, Try.ntmps32
    go_wp2_with (go_at_call 30; refine HIP.out.mono ?_; rintro e w5 ⟨rfl, hb5⟩)
    go_ret2
    exact ⟨rfl, hb5⟩
  | true =>
    obtain ⟨hn, hk⟩ := lg_spec _ (permB_sz hp)
    rw [hp] at HIP
    have HST := Lib.hid (fun W hr => isStuck_any S (lg p.length) (p.length : Int) u W hk hn hr)
    cases hs : stkB p S with
    | false =>
      have HE : Hid (wayE p S = 80) := Lib.hid (by unfold wayE; rw [hp, hs]; rfl)
      have HN : Hid (wayN p S = 0) := Lib.hid (by unfold wayN; rw [hp, hs]; rfl)
      rw [HE.out, HN.out]
      unfold stkB at hs
      rw [hs] at HST
      clear hp hs hn hk hu
      go_enter Try.func32, Try.ntmps32
      go_wp2_with (first
        | (go_at_call 30; refine HIP.out.mono ?_; rintro e w5 ⟨rfl, hb5⟩)
        | (go_at_call 33; refine (HST.out _ (HU.out.below hb5 (Nat.le_refl _))).mono ?_; rintro e w6 ⟨rfl, rfl⟩))
      go_ret2
      exact ⟨rfl, hb5⟩
    | true =>
      have HE : Hid (wayE p S = 0) := Lib.hid (by unfold wayE; rw [hp, hs]; rfl)
      obtain ⟨q1, q2, q3, q4, q5⟩ := ways_pre HE.out
      rw [HE.out]
      have HW := Lib.hid (fun W h1 h2 => refWays_any (lg p.length) q4 p S (.slice a p.length cap) u 0 (fun i => S.getD i 0) W q1 q2 (by omega) hS h1 h2 (fun i _ => by rw [Nat.zero_add]))
      rw [← q5] at HW
      unfold stkB at hs
      rw [hs] at HST
      obtain ⟨r, hr⟩ : ∃ r, wayN p S = r := ⟨_, rfl⟩
      rw [hr] at HW ⊢
      clear hp hs hn hk hu q1 q2 q3 q4 q5 hr
      go_enter Try.func32, Try.ntmps32
      go_wp2_with (first
        | (go_at_call 30; refine HIP.out.mono ?_; rintro e w5 ⟨rfl, hb5⟩)
        | (go_at_call 33; refine (HST.out _ (HU.out.below hb5 (Nat.le_refl _))).mono ?_; rintro e w6 ⟨rfl, rfl⟩)
        | (go_at_call 56; refine (HW.out _ (HV.out.below hb5 (Nat.le_refl _)) (HU.out.below hb5 (Nat.le_refl _))).mono ?_; rintro e w7 ⟨rfl, hb7⟩))
      go_ret2
      exact ⟨rfl, hb5.trans (hb7.mono hb5.size)⟩

set_option maxHeartbeats 400000 in
theorem law_ways (v : Value) (p : List Int) (u : Value) (S : List Int) (w : World) (hv : Rd w v (ints p)) (_ : ∀ x ∈ p, (Lit.int .i64 x).wf = true) (hu : Rd w u (ints S)) (_ : ∀ x ∈ S, (Lit.int .i64 x).wf = true) :
    Calls Try.prog 9 #[v, u] w fun e w' => e = .returned (.bool true) ∧ Below w.heap.size w w' := by
  have HV := Lib.hid hv
  have HU := Lib.hid hu
  obtain ⟨a, cap, rfl, hc, hcm, _, _⟩ := hv
  obtain ⟨a2, cap2, rfl, hc2, hcm2, _, _⟩ := hu
  rw [ints_length] at hc hc2
  rw [ints_length] at HV HU
  rw [ints_length, ints_length]
  by_cases hl : 16 < p.length
  · have hl2 : decide ((16 : Int) < (p.length : Int)) = true := by simp; omega
    clear hl
    go_enter Try.func9, Try.ntmps9
    go_wp2_with (go_at_call 15; refine (sane_any _).mono ?_; rintro e w1 ⟨rfl, hb1⟩)
    go_ret
    exact ⟨rfl, hb1⟩
  · have hl2 : decide ((16 : Int) < (p.length : Int)) = false := by simp; omega
    by_cases hl1 : 80 < S.length
    · have hl3 : decide ((80 : Int) < (S.length : Int)) = true := by simp; omega
      clear hl hl1
      go_enter Try.func9, Try.ntmps9
      go_wp2_with (go_at_call 15; refine (sane_any _).mono ?_; rintro e w1 ⟨rfl, hb1⟩)
      go_ret
      exact ⟨rfl, hb1⟩
    · have hl3 : decide ((80 : Int) < (S.length : Int)) = false := by simp; omega
      have HS : Hid (S.length ≤ 1000) := Lib.hid (by omega)
      clear hl hl1
      go_enter Try.func9, Try.ntmps9
      go_wp2_with (first
        | (go_at_call 31; refine (Ways_any p S _ _ _ HS.out HV.out HU.out).mono ?_; rintro e w1 ⟨rfl, hb1⟩)
        | (go_at_call 32; refine (refWays_top p S _ _ _ HS.out (HV.out.below hb1 (Nat.le_refl _)) (HU.out.below hb1 (Nat.le_refl _))).mono ?_; rintro e w2 ⟨rfl, hb2⟩)
        | (go_at_call 15; refine (sane_any _).mono ?_; rintro e w3 ⟨rfl, hb3⟩))
      go_ret
      have hb12 := hb1.trans (hb2.mono hb1.size)
      exact ⟨rfl, hb12.trans (hb3.mono hb12.size)⟩
end Go.Proofs.Ytelnlmhelkcliaa

/- Benes: the reference's Fits; the laws BenesSets and BenesAround: their Go texts return true. -/
import Derived.Test.YtelnlmhelkcliaaBSet
namespace Go.Proofs.Ytelnlmhelkcliaa
open Go.RowKit

/-- settings that agree with what is stuck -/
theorem refFits_ok (l : List Bool) (S : List Int) (v u : Value) (w : World) (hl : l.length = S.length) (hm : ∀ i, i < l.length → mayB (S.getD i 0) (l.getD i false) = true) (hs : S.length ≤ 1000)
    (hv : Rd w v (bools l)) (hu : Rd w u (ints S)) :
    Calls Try.prog 36 #[v, u] w fun e w' => e = .returned (.bool true) ∧ Below w.heap.size w w' := by
  have HM := Lib.hid hm
  obtain ⟨a, cap, rfl, hc, hcm, ha, _⟩ := hv
  obtain ⟨a2, cap2, rfl, hc2, hcm2, ha2, _⟩ := hu
  rw [bools_length] at *
  rw [ints_length] at *
  obtain ⟨n, hn⟩ : ∃ n, S.length = n := ⟨_, rfl⟩
  rw [hl] at hc HM ⊢
  rw [hn] at hc hc2 HM hs ⊢
  have HL := Lib.hid (hl.trans hn)
  have HN := Lib.hid hn
  have HA := Lib.hid ha
  have HA2 := Lib.hid ha2
  clear ha ha2 hl hn hm
  go_enter Try.func36, Try.ntmps36
  go_wp2_with fail
  go_loopw [5] (fun q wr => ∃ k : Nat, k ≤ n ∧ q = .int .i64 k ∧ Below w.heap.size w wr) (fun q _ => n - (intOf q).toNat)
  case atStart => exact ⟨0, by omega, rfl, Below.refl _ _⟩
  case round =>
    obtain ⟨k, hk, rfl, hbel⟩ := hrel
    by_cases hkn : k < n
    · have hkn' : (k : Int) < (n : Int) := by omega
      obtain ⟨b, off, rfl, hcell⟩ := (HA.out.below hbel (Nat.le_refl _)).cell (j := k) (by rw [bools_length, HL.out]; exact hkn)
      obtain ⟨b2, off2, rfl, hcell2⟩ := (HA2.out.below hbel (Nat.le_refl _)).cell (j := k) (by rw [ints_length, HN.out]; exact hkn)
      have c0 := hcell k _ (bools_getD (by rw [HL.out]; exact hkn))
      have c1 := hcell2 k _ (ints_getD (by rw [HN.out]; exact hkn))
      have HMA := Lib.hid (fun W => may_quiet (S.getD k 0) (l.getD k false) W)
      rw [HM.out k hkn] at HMA
      obtain ⟨x, hx⟩ : ∃ x, S.getD k 0 = x := ⟨_, rfl⟩
      obtain ⟨y, hy⟩ : ∃ y, l.getD k false = y := ⟨_, rfl⟩
      rw [hx] at c1 HMA
      rw [hy] at c0 HMA
      clear hcell hcell2 hx hy
      go_wp2_with fail
      go_quiet (first | (go_at_call 59; refine Calls.quiet_of_same (HMA.out _)))
      go_wp2_with fail
      go_roundw
      case rel => exact ⟨k + 1, by omega, by go_num, bel_drewN hbel _⟩
      case measure => simp [intOf]; omega
    · obtain rfl : n = k := by omega
      go_wp2_with fail
      go_ret
      exact ⟨rfl, hbel⟩

set_option maxHeartbeats 400000 in
theorem law_sets (v : Value) (p : List Int) (w : World) (hv : Rd w v (ints p)) (_ : ∀ x ∈ p, (Lit.int .i64 x).wf = true) :
    Calls Try.prog 11 #[v] w fun e w' => e = .returned (.bool true) ∧ Below w.heap.size w w' := by
  have HV := Lib.hid hv
  obtain ⟨a, cap, rfl, hc, hcm, _, _⟩ := hv
  rw [ints_length] at *
  by_cases hl : 40 < p.length
  · have hl2 : decide ((40 : Int) < (p.length : Int)) = true := by simp; omega
    clear hl
    go_enter Try.func11, Try.ntmps11
    go_wp2_with (go_at_call 15; refine (sane_any _).mono ?_; rintro e w1 ⟨rfl, hb1⟩)
    go_ret
    exact ⟨rfl, hb1⟩
  · have hl2 : decide ((40 : Int) < (p.length : Int)) = false := by simp; omega
    have HSET := Lib.hid (Settings_any p (.slice a p.length cap) w HV.out)
    have HIP := Lib.hid (fun W (hr : Rd W (.slice a p.length cap) (ints p)) => isPerm_any p (.slice a p.length cap) W hr)
    cases hp : permB p with
    | false =>
      rw [hp] at HSET HIP
      have HQ : Hid (∀ W u, SetP p w W u → u = .slice none 0 0) := Lib.hid fun W u h => by unfold SetP at h; rw [hp] at h; exact h
      clear hl hp
      go_enter Try.func11, Try.ntmps11
      go_wp2_with (first
        | (go_at_call 34; refine HSET.out.mono ?_; rintro e w1 ⟨⟨u, rfl, hu⟩, hb1⟩; obtain rfl := HQ.out _ _ hu)
        | (go_at_call 30; refine (HIP.out _ (HV.out.below hb1 (Nat.le_refl _))).mono ?_; rintro e w2 ⟨rfl, hb2⟩)
        | (go_at_call 15; refine (sane_any _).mono ?_; rintro e w3 ⟨rfl, hb3⟩))
      go_ret
      have hb12 := hb1.trans (hb2.mono hb1.size)
      exact ⟨rfl, hb12.trans (hb3.mono hb12.size)⟩
    | true =>
      rw [hp] at HSET HIP
      have HQ : Hid (∀ W u, SetP p w W u → ∃ l ua uc, u = .slice ua l.length uc ∧ Rd W u (bools l) ∧ sndE p l = 0 ∧ sndB p l = true) := Lib.hid fun W u h => by
        unfold SetP at h
        rw [hp, if_pos rfl] at h
        obtain ⟨l, h1, h2, h3⟩ := h
        obtain ⟨h4, h5⟩ := sends_ok hp h2 h3
        rw [← h2] at h1
        obtain ⟨ua, uc, e⟩ := own_form h1
        exact ⟨l, ua, uc, e, Rd.own h1, h4, h5⟩
      clear hl hp
      go_enter Try.func11, Try.ntmps11
      go_wp2_with (first
        | (go_at_call 34; refine HSET.out.mono ?_; rintro e w1 ⟨⟨u, rfl, hu⟩, hb1⟩; obtain ⟨l, ua, uc, rfl, hr, hq1, hq2⟩ := HQ.out _ _ hu; have HR := Lib.hid hr; have HQ1 := Lib.hid hq1; have HQ2 := Lib.hid hq2; clear hr hq1 hq2 hu)
        | (go_at_call 30; refine (HIP.out _ (HV.out.below hb1 (Nat.le_refl _))).mono ?_; rintro e w2 ⟨rfl, hb2⟩)
        | (go_at_call 26; refine (refSends_any p l _ _ _ (HV.out.below (hb1.trans (hb2.mono hb1.size)) (Nat.le_refl _)) (HR.out.below hb2 (Nat.le_refl _))).mono ?_; rw [HQ1.out, HQ2.out]; rintro e w4 ⟨rfl, hb4⟩)
        | (go_at_call 15; refine (sane_any _).mono ?_; rintro e w3 ⟨rfl, hb3⟩))
      go_ret
      have hb12 := hb1.trans (hb2.mono hb1.size)
      have hb14 := hb12.trans (hb4.mono hb12.size)
      exact ⟨rfl, hb14.trans (hb3.mono hb14.size)⟩

set_option maxHeartbeats 400000 in
theorem law_around (v : Value) (p : List Int) (u : Value) (S : List Int) (w : World) (hv : Rd w v (ints p)) (_ : ∀ x ∈ p, (Lit.int .i64 x).wf = true) (hu : Rd w u (ints S)) (_ : ∀ x ∈ S, (Lit.int .i64 x).wf = true) :
    Calls Try.prog 12 #[v, u] w fun e w' => e = .returned (.bool true) ∧ Below w.heap.size w w' := by
  have HV := Lib.hid hv
  have HU := Lib.hid hu
  obtain ⟨a, cap, rfl, hc, hcm, _, _⟩ := hv
  obtain ⟨a2, cap2, rfl, hc2, hcm2, _, _⟩ := hu
  rw [ints_length] at hc hc2
  rw [ints_length] at HV HU
  rw [ints_length, ints_length]
  by_cases hl : 8 < p.length
  · have hl2 : decide ((8 : Int) < (p.length : Int)) = true := by simp; omega
    clear hl
    go_enter Try.func12, Try.ntmps12
    go_wp2_with (go_at_call 15; refine (sane_any _).mono ?_; rintro e w1 ⟨rfl, hb1⟩)
    go_ret
    exact ⟨rfl, hb1⟩
  · have hl2 : decide ((8 : Int) < (p.length : Int)) = false := by simp; omega
    by_cases hl1 : 80 < S.length
    · have hl3 : decide ((80 : Int) < (S.length : Int)) = true := by simp; omega
      clear hl hl1
      go_enter Try.func12, Try.ntmps12
      go_wp2_with (go_at_call 15; refine (sane_any _).mono ?_; rintro e w1 ⟨rfl, hb1⟩)
      go_ret
      exact ⟨rfl, hb1⟩
    · have hl3 : decide ((80 : Int) < (S.length : Int)) = false := by simp; omega
      have hS : S.length ≤ 1000 := by omega
      have HAR := Lib.hid (Around_any p S _ _ w hS HV.out HU.out)
      have HW := Lib.hid (fun W h1 h2 => refWays_top p S (.slice a p.length cap) (.slice a2 S.length cap2) W hS h1 h2)
      by_cases h0 : wayE p S = 0
      · by_cases hn : wayN p S = 0
        · have HE : Hid (aroE p S = 5) := Lib.hid (by unfold aroE; rw [if_pos h0, if_pos hn])
          have HQ : Hid (∀ W r, AroP p S w W r → r = .slice none 0 0) := Lib.hid fun W r h => by unfold AroP at h; rwa [if_neg (fun h => h.2 hn)] at h
          rw [HE.out] at HAR
          rw [h0, hn] at HW
          clear hl hl1 h0 hn hS
          go_enter Try.func12, Try.ntmps12
          go_wp2_with (first
            | (go_at_call 35; refine HAR.out.mono ?_; rintro e w1 ⟨⟨r, rfl, hr⟩, hb1⟩; obtain rfl := HQ.out _ _ hr)
            | (go_at_call 32; refine (HW.out _ (HV.out.below hb1 (Nat.le_refl _)) (HU.out.below hb1 (Nat.le_refl _))).mono ?_; rintro e w2 ⟨rfl, hb2⟩)
            | (go_at_call 15; refine (sane_any _).mono ?_; rintro e w3 ⟨rfl, hb3⟩))
          go_ret
          have hb12 := hb1.trans (hb2.mono hb1.size)
          exact ⟨rfl, hb12.trans (hb3.mono hb12.size)⟩
        · obtain ⟨q1, q2, q3, q4, q5⟩ := ways_pre h0
          have hpb := (wayE_zero h0).1
          have HE : Hid (aroE p S = 0) := Lib.hid (by unfold aroE; rw [if_pos h0, if_neg hn])
          have HQ : Hid (∀ W r, AroP p S w W r → ∃ l ua uc, r = .slice ua l.length uc ∧ Rd W r (bools l) ∧ sndE p l = 0 ∧ sndB p l = true ∧ l.length = S.length ∧ ∀ i, i < l.length → mayB (S.getD i 0) (l.getD i false) = true) := Lib.hid fun W r h => by
            unfold AroP at h
            rw [if_pos ⟨h0, hn⟩] at h
            obtain ⟨l, h1, h2, h3, h4⟩ := h
            obtain ⟨h5, h6⟩ := sends_ok hpb h2 h3
            rw [← h2] at h1
            obtain ⟨ua, uc, e⟩ := own_form h1
            exact ⟨l, ua, uc, e, Rd.own h1, h5, h6, by omega, fun i hi => h4 i (by omega)⟩
          obtain ⟨N, hN⟩ : ∃ N, wayN p S = N := ⟨_, rfl⟩
          rw [HE.out] at HAR
          rw [h0, hN] at HW
          rw [hN] at hn
          have hN2 : ((N : Int) == 0) = false := by rw [beq_eq_false_iff_ne]; omega
          have HS := Lib.hid hS
          clear hl hl1 h0 hn hS q1 q2 q3 q4 q5 hpb hN
          go_enter Try.func12, Try.ntmps12
          go_wp2_with (first
            | (go_at_call 35; refine HAR.out.mono ?_; rintro e w1 ⟨⟨r, rfl, hr⟩, hb1⟩; obtain ⟨l, ua, uc, rfl, hr', hq1, hq2, hq3, hq4⟩ := HQ.out _ _ hr; have HR := Lib.hid hr'; have HQ1 := Lib.hid hq1; have HQ2 := Lib.hid hq2; have HQ3 := Lib.hid hq3; have HQ4 := Lib.hid hq4; clear hr hr' hq1 hq2 hq3 hq4)
            | (go_at_call 32; refine (HW.out _ (HV.out.below hb1 (Nat.le_refl _)) (HU.out.below hb1 (Nat.le_refl _))).mono ?_; rintro e w2 ⟨rfl, hb2⟩; have hb12 := hb1.trans (hb2.mono hb1.size))
            | (go_at_call 26; refine (refSends_any p l _ _ _ (HV.out.below hb12 (Nat.le_refl _)) (HR.out.below hb2 (Nat.le_refl _))).mono ?_; rw [HQ1.out, HQ2.out]; rintro e w4 ⟨rfl, hb4⟩)
            | (go_at_call 36; refine (refFits_ok l S _ _ _ HQ3.out HQ4.out HS.out (HR.out.below (hb2.trans (hb4.mono hb2.size)) (Nat.le_refl _)) (HU.out.below (hb12.trans (hb4.mono hb12.size)) (Nat.le_refl _))).mono ?_; rintro e w5 ⟨rfl, hb5⟩)
            | (go_at_call 15; refine (sane_any _).mono ?_; rintro e w3 ⟨rfl, hb3⟩))
          go_ret
          have hb14 := hb12.trans (hb4.mono hb12.size)
          have hb15 := hb14.trans (hb5.mono hb14.size)
          exact ⟨rfl, hb15.trans (hb3.mono hb15.size)⟩
      · have HE : Hid (aroE p S = wayE p S) := Lib.hid (by unfold aroE; rw [if_neg h0])
        have HQ : Hid (∀ W r, AroP p S w W r → r = .slice none 0 0) := Lib.hid fun W r h => by unfold AroP at h; rwa [if_neg (fun h => h0 h.1)] at h
        have HN0 := wayN_bad h0
        rw [HE.out] at HAR
        rw [HN0] at HW
        obtain ⟨y, hy⟩ : ∃ y, wayE p S = y := ⟨_, rfl⟩
        rw [hy] at HAR HW h0
        have hb : (y != 0) = true := by simpa using h0
        have hb2' : (y == 0) = false := by simpa using h0
        clear hl hl1 h0 hy hS HN0
        go_enter Try.func12, Try.ntmps12
        go_wp2_with (first
          | (go_at_call 35; refine HAR.out.mono ?_; rintro e w1 ⟨⟨r, rfl, hr⟩, hb1⟩; obtain rfl := HQ.out _ _ hr)
          | (go_at_call 32; refine (HW.out _ (HV.out.below hb1 (Nat.le_refl _)) (HU.out.below hb1 (Nat.le_refl _))).mono ?_; rintro e w2 ⟨rfl, hb2⟩)
          | (go_at_call 15; refine (sane_any _).mono ?_; rintro e w3 ⟨rfl, hb3⟩))
        go_ret
        have hb12 := hb1.trans (hb2.mono hb1.size)
        exact ⟨rfl, hb12.trans (hb3.mono hb12.size)⟩
end Go.Proofs.Ytelnlmhelkcliaa

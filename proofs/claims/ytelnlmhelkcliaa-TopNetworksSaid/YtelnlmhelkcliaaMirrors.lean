/- Mirror in both texts; the laws BenesMirrors and BenesBack: their Go texts return true. -/
import Derived.Test.YtelnlmhelkcliaaBackPlain
import Derived.Test.YtelnlmhelkcliaaTurned
namespace Go.Proofs.Ytelnlmhelkcliaa
open Go.RowKit

/-- what Mirror gives -/
def mirL (n : Int) (S : List Bool) : List Bool := if fitE n S.length = 0 then mir (lg n) S else []

theorem Mirror_any (n : Int) (v : Value) (S : List Bool) (w : World) (hv : Rd w v (bools S)) :
    Calls Try.prog 27 #[.int .i64 n, v] w fun e w' => ∃ u, e = .returned (.tuple #[u, .int .i64 (fitE n S.length)]) ∧ w'.ownsRow w.heap.size 4 1 u (mirL n S).length (bools (mirL n S)) ∧ Below w.heap.size w w' := by
  by_cases h0 : fitE n S.length = 0
  · have hL : mirL n S = mir (lg n) S := if_pos h0
    rcases fitE_cases n S.length with ⟨_, h⟩ | ⟨_, _, h⟩ | ⟨hz, hl, _⟩
    · omega
    · omega
    · obtain ⟨hn, hk⟩ := lg_spec n hz
      rw [hL, mir_len _ _ hl, h0]
      have HN := Lib.hid hn
      have HE := Lib.hid h0
      have HL := Lib.hid hl
      clear hn h0 hl hL hz
      go_enter Try.func27, Try.ntmps27
      go_wp2_with (first
        | (go_at_call 42; refine (fits_any _ _ S _ hv).mono ?_; rw [HE.out]; rintro e w' ⟨rfl, rfl⟩)
        | (go_at_call 51; refine (mirror_any _ _ _ S _ hk HN.out HL.out hv).mono ?_; rintro e w1 ⟨u, rfl, hu, hb1⟩))
      go_ret2
      exact ⟨_, rfl, hu, hb1⟩
  · have hL : mirL n S = [] := if_neg h0
    rw [hL]
    obtain ⟨x, hx⟩ : ∃ x, x = fitE n S.length := ⟨_, rfl⟩
    rw [← hx] at h0 ⊢
    have hb : (x != 0) = true := by simpa using h0
    have HX := Lib.hid hx
    clear hx h0 hL
    go_enter Try.func27, Try.ntmps27
    go_wp2_with (go_at_call 42; refine (fits_any _ _ S _ hv).mono ?_; rw [← HX.out]; rintro e w' ⟨rfl, rfl⟩)
    go_ret2
    exact ⟨_, rfl, World.ownsRow_nil _ _ _ _, Below.refl _ _⟩

theorem refMirror_any (n : Int) (v : Value) (S : List Bool) (w : World) (hv : Rd w v (bools S)) :
    Calls Try.prog 28 #[.int .i64 n, v] w fun e w' => ∃ u, e = .returned (.tuple #[u, .int .i64 (fitE n S.length)]) ∧ w'.ownsRow w.heap.size 4 1 u (mirL n S).length (bools (mirL n S)) ∧ Below w.heap.size w w' := by
  by_cases h0 : fitE n S.length = 0
  · have hL : mirL n S = mir (lg n) S := if_pos h0
    rcases fitE_cases n S.length with ⟨_, h⟩ | ⟨_, _, h⟩ | ⟨hz, hl, _⟩
    · omega
    · omega
    · obtain ⟨hn, hk⟩ := lg_spec n hz
      rw [hL, mir_len _ _ hl, h0]
      have HN := Lib.hid hn
      have HE := Lib.hid h0
      have HL := Lib.hid hl
      clear hn h0 hl hL hz
      go_enter Try.func28, Try.ntmps28
      go_wp2_with (first
        | (go_at_call 44; refine (asked_any _ _ S _ hv).mono ?_; rw [HE.out]; rintro e w' ⟨rfl, rfl⟩)
        | (go_at_call 52; refine (mirrored_any _ _ _ S _ hk HN.out HL.out hv).mono ?_; rintro e w1 ⟨u, rfl, hu, hb1⟩))
      go_ret2
      exact ⟨_, rfl, hu, hb1⟩
  · have hL : mirL n S = [] := if_neg h0
    rw [hL]
    obtain ⟨x, hx⟩ : ∃ x, x = fitE n S.length := ⟨_, rfl⟩
    rw [← hx] at h0 ⊢
    have hb : (x != 0) = true := by simpa using h0
    have HX := Lib.hid hx
    clear hx h0 hL
    go_enter Try.func28, Try.ntmps28
    go_wp2_with (go_at_call 44; refine (asked_any _ _ S _ hv).mono ?_; rw [← HX.out]; rintro e w' ⟨rfl, rfl⟩)
    go_ret2
    exact ⟨_, rfl, World.ownsRow_nil _ _ _ _, Below.refl _ _⟩

set_option maxHeartbeats 400000 in
theorem law_mirrors (n : Int) (v : Value) (S : List Bool) (w : World) (_ : (Lit.int .i64 n).wf = true) (hv : Rd w v (bools S)) :
    Calls Try.prog 7 #[.int .i64 n, v] w fun e w' => e = .returned (.bool true) ∧ Below w.heap.size w w' := by
  have HV := Lib.hid hv
  obtain ⟨a, cap, rfl, hc, hcm, _, _⟩ := hv
  rw [bools_length] at hc HV ⊢
  by_cases hl : 80 < S.length
  · have hl2 : decide ((80 : Int) < (S.length : Int)) = true := by simp; omega
    clear hl
    go_enter Try.func7, Try.ntmps7
    go_wp2_with (go_at_call 15; refine (sane_any _).mono ?_; rintro e w1 ⟨rfl, hb1⟩)
    go_ret
    exact ⟨rfl, hb1⟩
  · have hl2 : decide ((80 : Int) < (S.length : Int)) = false := by simp; omega
    clear hl
    go_enter Try.func7, Try.ntmps7
    go_wp2_with fail
    refine (Mirror_any n _ S _ HV.out).mono ?_
    rintro e w1 ⟨u1, rfl, hu1, hb1⟩
    have HV1 := Lib.hid (HV.out.below hb1 (Nat.le_refl _))
    have R1 := Rd.own hu1
    go_wp2_with fail
    refine (refMirror_any n _ S _ HV1.out).mono ?_
    rintro e w2 ⟨u2, rfl, hu2, hb2⟩
    have R2 := Rd.own hu2
    have R1' := R1.below hb2 (Nat.le_refl _)
    have hb12 := hb1.trans (hb2.mono hb1.size)
    clear hu1 hu2 R1 hb1 hb2
    go_wp2_with (first
      | (go_at_call 29; refine (sameSet_any _ _ _ _ _ R1' R2).mono ?_; rw [decide_eq_true rfl]; rintro e w3 ⟨rfl, hb3⟩)
      | (go_at_call 15; refine (sane_any _).mono ?_; rintro e w4 ⟨rfl, hb4⟩))
    go_ret
    exact ⟨rfl, (hb12.trans (hb3.mono hb12.size)).trans (hb4.mono (Nat.le_trans hb12.size hb3.size))⟩

set_option maxRecDepth 100000 in
set_option maxHeartbeats 2000000 in
theorem law_back (n : Int) (v : Value) (S : List Bool) (w : World) (_ : (Lit.int .i64 n).wf = true) (hv : Rd w v (bools S)) :
    Calls Try.prog 8 #[.int .i64 n, v] w fun e w' => e = .returned (.bool true) ∧ Below w.heap.size w w' := by
  have HV := Lib.hid hv
  obtain ⟨a, cap, rfl, hc, hcm, _, _⟩ := hv
  rw [bools_length] at hc HV ⊢
  by_cases hl : 80 < S.length
  · have hl2 : decide ((80 : Int) < (S.length : Int)) = true := by simp; omega
    clear hl
    go_enter Try.func8, Try.ntmps8
    go_wp2_with (go_at_call 15; refine (sane_any _).mono ?_; rintro e w1 ⟨rfl, hb1⟩)
    go_ret
    exact ⟨rfl, hb1⟩
  · have hl2 : decide ((80 : Int) < (S.length : Int)) = false := by simp; omega
    clear hl
    by_cases h0 : fitE n S.length = 0
    · rcases fitE_cases n S.length with ⟨_, h⟩ | ⟨_, _, h⟩ | ⟨hz, hln, _⟩
      · omega
      · omega
      · obtain ⟨hn, hk⟩ := lg_spec n hz
        have h2 := pw_le _ hk
        have hpw2 := pw_pos (lg n)
        obtain ⟨k, hkd⟩ : ∃ k, k = lg n := ⟨_, rfl⟩
        rw [← hkd] at hln hn hk h2 hpw2
        -- the lists
        have hM : mirL n S = mir k S := by unfold mirL; rw [if_pos h0, hkd]
        have hml : (mir k S).length = S.length := by rw [mir_len k S hln, hln]
        have hE2 : fitE n (mir k S).length = 0 := by rw [hml]; exact h0
        have hMM : mirL n (mir k S) = S := by unfold mirL; rw [if_pos hE2, ← hkd]; exact mir_mir k S hln
        have hP : thrL n S = thr k S (pw k) := by unfold thrL; rw [if_pos h0, ← hkd]
        have hQ : thrL n (mir k S) = thr k (mir k S) (pw k) := by unfold thrL; rw [if_pos hE2, ← hkd]
        have hpB : permB (thr k S (pw k)) = true := by
          unfold permB
          rw [thr_len, ← hn, hz, decide_eq_true (thr_perm k S hln)]; rfl
        have hback : ∀ i, i < pw k → tro k (mir k S) (tro k S i 0) 0 = i := fun i hi => mir_back k S i hln hi
        obtain ⟨M, hMd⟩ : ∃ M, M = mir k S := ⟨_, rfl⟩
        rw [← hMd] at hM hml hE2 hMM hQ hback
        have H1 := Lib.hid h0
        have H2 := Lib.hid hM
        have H3 := Lib.hid hE2
        have H4 := Lib.hid hMM
        have H5 := Lib.hid hP
        have H6 := Lib.hid hQ
        have H7 := Lib.hid hpB
        have H8 := Lib.hid hback
        subst hn
        clear h0 hM hml hE2 hMM hP hQ hpB hback hMd hz hln hkd
        go_enter Try.func8, Try.ntmps8
        go_wp2_with fail
        refine (Through_any _ _ S _ HV.out).mono ?_
        rw [H1.out, H5.out, thr_len]
        rintro e w1 ⟨up, rfl, hup, hb1⟩
        have V1 := Lib.hid (HV.out.below hb1 (Nat.le_refl _))
        obtain ⟨ap, cp, rfl, hcp, hcpm, hap, _⟩ := (Rd.own hup).parts (n := pw k) (by rw [ints_length, thr_len])
        have P1 := Lib.hid (Rd.own hup)
        clear hup
        go_wp2_with fail
        refine (Mirror_any _ _ S _ V1.out).mono ?_
        rw [H1.out, H2.out]
        rintro e w2 ⟨um, rfl, hum, hb2⟩
        have V2 := Lib.hid (V1.out.below hb2 (Nat.le_refl _))
        have P2 := Lib.hid (P1.out.below hb2 (Nat.le_refl _))
        have M2 := Lib.hid (Rd.own hum)
        have B2 := Lib.hid (hb1.trans (hb2.mono hb1.size))
        clear hum V1 P1
        go_wp2_with fail
        refine (Mirror_any _ _ M _ M2.out).mono ?_
        rw [H3.out, H4.out]
        rintro e w3 ⟨ub, rfl, hub, hb3⟩
        have V3 := Lib.hid (V2.out.below hb3 (Nat.le_refl _))
        have P3 := Lib.hid (P2.out.below hb3 (Nat.le_refl _))
        have M3 := Lib.hid (M2.out.below hb3 (Nat.le_refl _))
        have R3 := Lib.hid (Rd.own hub)
        have B3 := Lib.hid (B2.out.trans (hb3.mono B2.out.size))
        clear hub V2 P2 M2
        go_wp2_with fail
        refine (Through_any _ _ M _ M3.out).mono ?_
        rw [H3.out, H6.out, thr_len]
        rintro e w4 ⟨uq, rfl, huq, hb4⟩
        have V4 := Lib.hid (V3.out.below hb4 (Nat.le_refl _))
        have P4 := Lib.hid (P3.out.below hb4 (Nat.le_refl _))
        have R4 := Lib.hid (R3.out.below hb4 (Nat.le_refl _))
        obtain ⟨aq, cq, rfl, hcq, hcqm, haq, _⟩ := (Rd.own huq).parts (n := pw k) (by rw [ints_length, thr_len])
        have Q4 := Lib.hid haq
        have B4 := Lib.hid (B3.out.trans (hb4.mono B3.out.size))
        clear huq V3 P3 M3 R3 hb1 hb2 hb3 hb4 haq hap
        go_wp2_with fail
        refine (sameSet_any S S _ _ _ R4.out V4.out).mono ?_
        rw [decide_eq_true rfl]
        rintro e w5 ⟨rfl, hb5⟩
        have P5 := Lib.hid (P4.out.below hb5 (Nat.le_refl _))
        have Q5 := Lib.hid (Q4.out.below hb5 (Nat.le_refl _))
        have B5 := Lib.hid (B4.out.trans (hb5.mono B4.out.size))
        clear hb5 P4 Q4 R4 V4
        go_wp2_with fail
        refine (isPerm_any _ _ _ P5.out).mono ?_
        rw [H7.out]
        rintro e w6 ⟨rfl, hb6⟩
        obtain ⟨_, _, hx6, _, _, hap6, _⟩ := (P5.out.below hb6 (Nat.le_refl _)).parts (n := pw k) (by rw [ints_length, thr_len])
        cases hx6
        have hq6 := Q5.out.below hb6 (Nat.le_refl _)
        have B6 := Lib.hid (B5.out.trans (hb6.mono B5.out.size))
        have hbne : (((pw k : Nat) : Int) != ((pw k : Nat) : Int)) = false := by simp
        clear hb6 P5 Q5
        go_wp2_with fail
        go_loop [13] (fun i => ∃ j : Nat, j ≤ pw k ∧ i = .int .i64 j) (fun i => pw k - (intOf i).toNat)
        case atStart => exact ⟨0, Nat.zero_le _, rfl⟩
        case round =>
          obtain ⟨j, hj, rfl⟩ := hrel
          by_cases hlt : j < pw k
          · obtain ⟨b, off, rfl, hcell⟩ := hap6.cell (j := j) (by rw [ints_length, thr_len]; exact hlt)
            have ht := tro_lt k S j 0 hlt
            have hbk := H8.out j hlt
            have c1 := hcell j _ (ints_get (thr_get k S (pw k) j hlt))
            obtain ⟨b2, off2, rfl, hcell2⟩ := hq6.cell (j := tro k S j 0) (by rw [ints_length, thr_len]; exact ht)
            have c2 := hcell2 (tro k S j 0) _ (ints_get (thr_get k M (pw k) _ ht))
            rw [hbk] at c2
            generalize tro k S j 0 = t at *
            have hbne2 : ((j : Int) != (j : Int)) = false := by simp
            clear hcell hcell2 hap6 hq6 hbk
            go_wp2_with fail
            go_round
            case rel => exact ⟨j + 1, by omega, by go_num⟩
            case measure => simp [intOf]; omega
          · go_wp2_with (go_at_call 15; refine (sane_any _).mono ?_; rintro e w7 ⟨rfl, hb7⟩)
            go_ret
            exact ⟨rfl, B6.out.trans (hb7.mono B6.out.size)⟩
    · have hM : mirL n S = [] := by unfold mirL; rw [if_neg h0]
      obtain ⟨x, hx⟩ : ∃ x, x = fitE n S.length := ⟨_, rfl⟩
      rw [← hx] at h0
      have hb : (x != 0) = true := by simpa using h0
      have HX := Lib.hid hx
      have HM := Lib.hid hM
      clear hx h0 hM
      go_enter Try.func8, Try.ntmps8
      go_wp2_with fail
      refine (Through_any n _ S _ HV.out).mono ?_
      rw [← HX.out]
      rintro e w1 ⟨u1, rfl, _, hb1⟩
      go_wp2_with fail
      refine (Mirror_any n _ S _ (HV.out.below hb1 (Nat.le_refl _))).mono ?_
      rw [← HX.out, HM.out]
      rintro e w2 ⟨u2, rfl, hu2, hb2⟩
      obtain ⟨a2, c2, rfl⟩ := own_form hu2
      have hb12 := hb1.trans (hb2.mono hb1.size)
      clear hu2 hb1 hb2
      go_wp2_with (go_at_call 15; refine (sane_any _).mono ?_; rintro e w3 ⟨rfl, hb3⟩)
      go_ret
      exact ⟨rfl, hb12.trans (hb3.mono hb12.size)⟩

end Go.Proofs.Ytelnlmhelkcliaa

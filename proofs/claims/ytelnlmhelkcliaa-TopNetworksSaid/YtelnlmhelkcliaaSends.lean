/- Sends in both texts; the law BenesSends: its Go text returns true. -/
import Derived.Test.YtelnlmhelkcliaaPerm2
import Derived.Test.YtelnlmhelkcliaaTurned
namespace Go.Proofs.Ytelnlmhelkcliaa
open Go.RowKit

/-- what Sends gives -/
def sndE (p : List Int) (S : List Bool) : Int := if permB p then fitE p.length S.length else 40
def sndB (p : List Int) (S : List Bool) : Bool := permB p && decide (fitE p.length S.length = 0) && decide (thr (lg p.length) S p.length = p)

theorem permB_sz {p : List Int} (h : permB p = true) : szB p.length = true := by simp only [permB, Bool.and_eq_true] at h; exact h.1

set_option maxHeartbeats 400000 in
theorem Sends_any (p : List Int) (S : List Bool) (v u : Value) (w : World) (hv : Rd w v (ints p)) (hu : Rd w u (bools S)) :
    Calls Try.prog 25 #[v, u] w fun e w' => e = .returned (.tuple #[.bool (sndB p S), .int .i64 (sndE p S)]) ∧ Below w.heap.size w w' := by
  have HV := Lib.hid hv
  have HU := Lib.hid hu
  obtain ⟨a, cap, rfl, hc, hcm, _, _⟩ := hv
  obtain ⟨a2, cap2, rfl, hc2, hcm2, _, _⟩ := hu
  rw [ints_length] at *
  rw [bools_length] at *
  cases hp : permB p with
  | false =>
    have h1 : sndB p S = false := by simp [sndB, hp]
    have h2 : sndE p S = 40 := by simp [sndE, hp]
    rw [h1, h2]
    have HP := Lib.hid hp
    clear hp h1 h2
    go_enter Try.func25, Try.ntmps25
    go_wp2_with (go_at_call 48; refine (permutation_any p _ _ HV.out).mono ?_; rw [HP.out]; rintro e w' ⟨rfl, rfl⟩)
    go_ret2
    exact ⟨rfl, Below.refl _ _⟩
  | true =>
    have hz := permB_sz hp
    obtain ⟨hn, hk⟩ := lg_spec _ hz
    have HP := Lib.hid hp
    have HN := Lib.hid hn
    have hpn : pw (lg p.length) = p.length := by omega
    by_cases hl : S.length = cnt (lg p.length)
    · have hb : ((S.length : Int) != (cnt (lg p.length) : Nat)) = false := by rw [hl]; simp
      have h0 := fitE_ok hz hl
      have h1 : sndB p S = decide (thr (lg p.length) S p.length = p) := by simp [sndB, hp, h0]
      have h2 : sndE p S = 0 := by simp [sndE, hp, h0]
      rw [h1, h2]
      have HL := Lib.hid hl
      have HPN := Lib.hid hpn
      clear hp h1 h2 hz hn hl h0 hpn
      go_enter Try.func25, Try.ntmps25
      go_wp2_with (first
        | (go_at_call 48; refine (permutation_any p _ _ HV.out).mono ?_; rw [HP.out]; rintro e w' ⟨rfl, rfl⟩)
        | (go_at_call 49; refine (count_any _ _ _ hk HN.out).mono ?_; rintro e w' ⟨rfl, rfl⟩)
        | (go_at_call 43; refine (through_any _ _ _ S _ hk HN.out HL.out HU.out).mono ?_; rw [HPN.out]; rintro e w1 ⟨r, rfl, hr, hb1⟩)
        | (go_at_call 50; refine (equal_any (thr (lg p.length) S p.length) p _ _ _ (Rd.own hr) (HV.out.below hb1 (Nat.le_refl _))).mono ?_; rintro e w2 ⟨rfl, hb2⟩))
      go_ret2
      exact ⟨rfl, hb1.trans (hb2.mono hb1.size)⟩
    · have hb : ((S.length : Int) != (cnt (lg p.length) : Nat)) = true := by simp; omega
      have h0 := fitE_len hz hl
      have h1 : sndB p S = false := by simp [sndB, hp, h0]
      have h2 : sndE p S = 80 := by simp [sndE, hp, h0]
      rw [h1, h2]
      clear hp h1 h2 hz hn hl h0 hpn
      go_enter Try.func25, Try.ntmps25
      go_wp2_with (first
        | (go_at_call 48; refine (permutation_any p _ _ HV.out).mono ?_; rw [HP.out]; rintro e w' ⟨rfl, rfl⟩)
        | (go_at_call 49; refine (count_any _ _ _ hk HN.out).mono ?_; rintro e w' ⟨rfl, rfl⟩))
      go_ret2
      exact ⟨rfl, Below.refl _ _⟩

set_option maxHeartbeats 400000 in
theorem refSends_any (p : List Int) (S : List Bool) (v u : Value) (w : World) (hv : Rd w v (ints p)) (hu : Rd w u (bools S)) :
    Calls Try.prog 26 #[v, u] w fun e w' => e = .returned (.tuple #[.bool (sndB p S), .int .i64 (sndE p S)]) ∧ Below w.heap.size w w' := by
  have HV := Lib.hid hv
  have HU := Lib.hid hu
  obtain ⟨a, cap, rfl, hc, hcm, ha, _⟩ := hv
  rw [ints_length] at *
  cases hp : permB p with
  | false =>
    have h1 : sndB p S = false := by simp [sndB, hp]
    have h2 : sndE p S = 40 := by simp [sndE, hp]
    rw [h1, h2]
    have HP := Lib.hid hp
    clear hp h1 h2 hu
    go_enter Try.func26, Try.ntmps26
    go_wp2_with (go_at_call 30; refine (isPerm_any p _ _ HV.out).mono ?_; rw [HP.out]; rintro e w1 ⟨rfl, hb1⟩)
    go_ret2
    exact ⟨rfl, hb1⟩
  | true =>
    have hz := permB_sz hp
    obtain ⟨hn, hk⟩ := lg_spec _ hz
    have HP := Lib.hid hp
    by_cases h0 : fitE p.length S.length = 0
    · have hpn : pw (lg p.length) = p.length := by omega
      have h1 : sndB p S = decide (thr (lg p.length) S p.length = p) := by simp [sndB, hp, h0]
      have h2 : sndE p S = 0 := by simp [sndE, hp, h0]
      have hL : thrL p.length S = thr (lg p.length) S p.length := by unfold thrL; rw [if_pos h0, hpn]
      have HL : Hid (thrL p.length S = thr (lg p.length) S p.length) := hL
      rw [h1, h2]
      have h16 := pw_le _ hk
      have hp16 : p.length ≤ 16 := by omega
      obtain ⟨xs, hxs⟩ : ∃ xs, xs = thr (lg p.length) S p.length := ⟨_, rfl⟩
      rw [← hxs]
      have hxl : xs.length = p.length := by rw [hxs, thr_len]
      have HXL := Lib.hid hxl
      have HXS := Lib.hid hxs
      have HE := Lib.hid h0
      clear hp h1 h2 hz hn h0 hpn hL hxs hk h16 hu
      go_enter Try.func26, Try.ntmps26
      go_wp2_with fail
      refine (isPerm_any p _ _ HV.out).mono ?_
      rw [HP.out]
      rintro e w1 ⟨rfl, hb1⟩
      go_wp2_with fail
      refine (refThrough_any _ _ S _ (HU.out.below hb1 (Nat.le_refl _))).mono ?_
      rw [HE.out, HL.out, ← HXS.out]
      rintro e w2 ⟨r, rfl, hr, hb2⟩
      obtain ⟨ar, capr, rfl, _, hmr, har, _⟩ := (Rd.own hr).parts (n := p.length) (by rw [ints_length]; exact HXL.out)
      have hb12 := hb1.trans (hb2.mono hb1.size)
      have ha2 := ha.below hb12 (Nat.le_refl _)
      clear hr hb1 hb2 ha
      go_wp2_with fail
      go_loopw [8] (fun i wr => ∃ k : Nat, k ≤ p.length ∧ i = .int .i64 k ∧ Hid (xs.take k = p.take k) ∧ Below w2.heap.size w2 wr) (fun i _ => p.length - (intOf i).toNat)
      case atStart => exact ⟨0, Nat.zero_le _, rfl, Lib.hid (by simp), Below.refl _ _⟩
      case round =>
        obtain ⟨k, hk, rfl, HT, hbel⟩ := hrel
        by_cases hlt : k < p.length
        · have hlt2 : k < xs.length := by have := HXL.out; omega
          obtain ⟨b, off, rfl, hcell⟩ := (ha2.below hbel (Nat.le_refl _)).cell (j := k) (by rw [ints_length]; exact hlt)
          obtain ⟨b2, off2, rfl, hcell2⟩ := (har.below hbel (Nat.le_refl _)).cell (j := k) (by rw [ints_length]; exact hlt2)
          obtain ⟨x, hx⟩ : ∃ x, xs[k]? = some x := ⟨_, List.getElem?_eq_getElem hlt2⟩
          obtain ⟨y, hy⟩ : ∃ y, p[k]? = some y := ⟨_, List.getElem?_eq_getElem hlt⟩
          have c1 := hcell2 k _ (ints_get hx)
          have c2 := hcell k _ (ints_get hy)
          have HX := Lib.hid hx
          have HY := Lib.hid hy
          clear hcell hcell2 hx hy ha2 har
          by_cases hxy : x = y
          · subst hxy
            go_wp2_with fail
            go_quiet (fail)
            go_wp2_with fail
            go_roundw
            case rel => exact ⟨k + 1, by omega, by go_num, Lib.hid (by rw [take_snoc HX.out, take_snoc HY.out, HT.out]), bel_drewN hbel _⟩
            case measure => simp [intOf]; omega
          · have hne : (x != y) = true := by simpa using hxy
            have hne2 : (x == y) = false := by simpa using hxy
            have hf : decide (xs = p) = false := by
              rw [decide_eq_false_iff_not]
              intro h
              have h1 := HX.out
              rw [h, HY.out] at h1
              exact hxy (Option.some.inj h1).symm
            have HF := Lib.hid hf
            clear hf hxy
            go_wp2_with fail
            go_quiet (fail)
            go_wp2_with fail
            go_ret2
            exact ⟨by rw [HF.out]; rfl, hb12.trans ((bel_drewN hbel _).mono hb12.size)⟩
        · have he : xs = p := eq_of_take HT.out (by have := HXL.out; omega) HXL.out
          have HF := Lib.hid (decide_eq_true he)
          clear he
          go_wp2_with fail
          go_ret2
          exact ⟨by rw [HF.out]; rfl, hb12.trans (hbel.mono hb12.size)⟩
    · have h1 : sndB p S = false := by simp [sndB, h0]
      have h2 : sndE p S = fitE p.length S.length := by simp [sndE, hp]
      rw [h1, h2]
      obtain ⟨y, hy⟩ : ∃ y, y = fitE p.length S.length := ⟨_, rfl⟩
      rw [← hy] at h0 ⊢
      have hb : (y != 0) = true := by simpa using h0
      have hb2 : (y == 0) = false := by simpa using h0
      have HX := Lib.hid hy
      clear hp h1 h2 hz hn h0 hy hk hu
      go_enter Try.func26, Try.ntmps26
      go_wp2_with fail
      refine (isPerm_any p _ _ HV.out).mono ?_
      rw [HP.out]
      rintro e w1 ⟨rfl, hb1⟩
      go_wp2_with fail
      refine (refThrough_any _ _ S _ (HU.out.below hb1 (Nat.le_refl _))).mono ?_
      rw [← HX.out]
      rintro e w2 ⟨r, rfl, hr, hb2⟩
      clear hr
      go_wp2_with fail
      go_ret2
      exact ⟨rfl, hb1.trans (hb2.mono hb1.size)⟩

set_option maxHeartbeats 400000 in
theorem law_sends (v : Value) (p : List Int) (u : Value) (S : List Bool) (w : World) (hv : Rd w v (ints p)) (_ : ∀ x ∈ p, (Lit.int .i64 x).wf = true) (hu : Rd w u (bools S)) :
    Calls Try.prog 6 #[v, u] w fun e w' => e = .returned (.bool true) ∧ Below w.heap.size w w' := by
  have HV := Lib.hid hv
  have HU := Lib.hid hu
  obtain ⟨a, cap, rfl, hc, hcm, _, _⟩ := hv
  obtain ⟨a2, cap2, rfl, hc2, hcm2, _, _⟩ := hu
  rw [ints_length] at *
  rw [bools_length] at *
  by_cases hl : 80 < S.length ∨ 40 < p.length
  · by_cases hl1 : 80 < S.length
    · have hl2 : decide ((80 : Int) < (S.length : Int)) = true := by simp; omega
      clear hl hl1
      go_enter Try.func6, Try.ntmps6
      go_wp2_with (go_at_call 15; refine (sane_any _).mono ?_; rintro e w1 ⟨rfl, hb1⟩)
      go_ret
      exact ⟨rfl, hb1⟩
    · have hl2 : decide ((80 : Int) < (S.length : Int)) = false := by simp; omega
      have hl3 : decide ((40 : Int) < (p.length : Int)) = true := by simp; omega
      clear hl hl1
      go_enter Try.func6, Try.ntmps6
      go_wp2_with (go_at_call 15; refine (sane_any _).mono ?_; rintro e w1 ⟨rfl, hb1⟩)
      go_ret
      exact ⟨rfl, hb1⟩
  · have hl2 : decide ((80 : Int) < (S.length : Int)) = false := by simp; omega
    have hl3 : decide ((40 : Int) < (p.length : Int)) = false := by simp; omega
    clear hl
    go_enter Try.func6, Try.ntmps6
    go_wp2_with (first
      | (go_at_call 25; refine (Sends_any p S _ _ _ HV.out HU.out).mono ?_; rintro e w1 ⟨rfl, hb1⟩)
      | (go_at_call 26; refine (refSends_any p S _ _ _ (HV.out.below hb1 (Nat.le_refl _)) (HU.out.below hb1 (Nat.le_refl _))).mono ?_; rintro e w2 ⟨rfl, hb2⟩)
      | (go_at_call 15; refine (sane_any _).mono ?_; rintro e w3 ⟨rfl, hb3⟩))
    go_ret
    have hb12 := hb1.trans (hb2.mono hb1.size)
    exact ⟨rfl, hb12.trans (hb3.mono hb12.size)⟩

end Go.Proofs.Ytelnlmhelkcliaa

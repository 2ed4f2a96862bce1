/- Benes: lists of stuck switches, in both texts. -/
import Derived.Test.YtelnlmhelkcliaaBRefW
import Derived.Test.YtelnlmhelkcliaaBWk
import Derived.Test.YtelnlmhelkcliaaSends
namespace Go.Proofs.Ytelnlmhelkcliaa
open Go.RowKit

def badS (x : Int) : Bool := decide (x < 0) || decide (2 < x)
def stuckB (S : List Int) : Bool := S.all fun x => !badS x
theorem states1_any (x : Int) (w : World) : Calls Try.prog 72 #[.int .i64 x] w fun e w' => e = .returned (.bool (badS x)) ∧ w = w' := by
  unfold badS
  by_cases h0 : x < 0
  · have h1 : decide (x < 0) = true := decide_eq_true h0
    rw [h1]
    go_enter Try.func72, Try.ntmps72
    go_wp2_with fail
    go_ret
    exact ⟨rfl, rfl⟩
  · have h1 : decide (x < 0) = false := decide_eq_false h0
    rw [h1]
    obtain ⟨b, hb⟩ : ∃ b, decide (2 < x) = b := ⟨_, rfl⟩
    rw [hb]
    go_enter Try.func72, Try.ntmps72
    go_wp2_with fail
    go_ret
    exact ⟨rfl, rfl⟩
theorem bad_at {S : List Int} {k : Nat} (hk : k < S.length) (h : badS (S.getD k 0) = true) : stuckB S = false := by
  unfold stuckB
  rw [List.all_eq_false]
  exact ⟨S.getD k 0, getD_mem 0 hk, by rw [h]; decide⟩
theorem bad_no {S : List Int} (h : ∀ k, k < S.length → badS (S.getD k 0) = false) : stuckB S = true := by
  unfold stuckB
  rw [List.all_eq_true]
  intro x hx
  obtain ⟨k, hk, rfl⟩ := List.mem_iff_getElem.1 hx
  have := h k hk
  rw [List.getD_eq_getElem?_getD, List.getElem?_eq_getElem hk] at this
  have h2 : badS S[k] = false := this
  rw [h2]; rfl
set_option maxHeartbeats 400000 in
theorem indexFunc_any (S : List Int) (v : Value) (w : World) (hS : S.length ≤ 1000) (hv : Rd w v (ints S)) :
    Calls Try.prog 82 #[v, .func (.func 72) #[] #[]] w fun e w' => (∃ r : Int, e = .returned (.int .i64 r) ∧ decide (0 ≤ r) = !stuckB S) ∧ w = w' := by
  have HY := Lib.hid (fun k (hk : k < S.length) => @bad_at S k hk)
  have HN := Lib.hid (@bad_no S)
  obtain ⟨sb, hsb⟩ : ∃ sb, stuckB S = sb := ⟨_, rfl⟩
  rw [hsb] at HY HN ⊢
  obtain ⟨a, cap, rfl, hc, hcm, ha, _⟩ := hv
  rw [ints_length] at *
  obtain ⟨n, hn⟩ : ∃ n, S.length = n := ⟨_, rfl⟩
  rw [hn] at HY HN hc hS ⊢
  have HL := Lib.hid hn
  have HA := Lib.hid ha
  clear hsb ha hn
  go_enter Try.func82, Try.ntmps82
  go_wp2_with fail
  go_loopw [8] (fun q wr => ∃ k : Nat, k ≤ n ∧ q = .int .i64 k ∧ w = wr ∧ Hid (∀ i, i < k → badS (S.getD i 0) = false)) (fun q _ => n - (intOf q).toNat)
  case atStart => exact ⟨0, by omega, rfl, rfl, Lib.hid fun i hi => absurd hi (Nat.not_lt_zero _)⟩
  case round =>
    obtain ⟨k, hk, rfl, rfl, HK⟩ := hrel
    by_cases hkn : k < n
    · have hkn' : (k : Int) < (n : Int) := by omega
      obtain ⟨b, off, rfl, hcell⟩ := HA.out.cell (j := k) (by rw [ints_length, HL.out]; exact hkn)
      have c0 := hcell k _ (ints_getD (by rw [HL.out]; exact hkn))
      obtain ⟨x, hx⟩ : ∃ x, S.getD k 0 = x := ⟨_, rfl⟩
      rw [hx] at c0
      have HX := Lib.hid hx
      obtain ⟨bd, hbd⟩ : ∃ bd, badS x = bd := ⟨_, rfl⟩
      have HS1 := Lib.hid (fun W => states1_any x W)
      rw [hbd] at HS1
      have HBD := Lib.hid hbd
      have HYk := Lib.hid (HY.out k hkn)
      clear hcell hx hbd
      cases bd with
      | true =>
        have HSF : Hid (sb = false) := Lib.hid (HYk.out (by rw [HX.out]; exact HBD.out))
        go_wp2_with (go_at_call 72; refine (HS1.out _).mono ?_; rintro e w2 ⟨rfl, rfl⟩)
        go_ret
        exact ⟨⟨_, rfl, by rw [HSF.out]; simp⟩, rfl⟩
      | false =>
        go_wp2_with (go_at_call 72; refine (HS1.out _).mono ?_; rintro e w2 ⟨rfl, rfl⟩)
        go_roundw
        case rel =>
          refine ⟨k + 1, by omega, by go_num, by trivial, Lib.hid fun i hi => ?_⟩
          by_cases e : i = k
          · subst e; rw [HX.out]; exact HBD.out
          · exact HK.out i (by omega)
        case measure => simp [intOf]; omega
    · obtain rfl : n = k := by omega
      have HSF : Hid (sb = true) := Lib.hid (HN.out fun k hk => HK.out k hk)
      go_wp2_with fail
      go_ret
      exact ⟨⟨_, rfl, by rw [HSF.out]; rfl⟩, rfl⟩
theorem states_any (S : List Int) (n : Int) (v : Value) (w : World) (hS : S.length ≤ 1000) (hv : Rd w v (ints S)) :
    Calls Try.prog 61 #[v, .int .i64 n] w fun e w' => e = .returned (.bool (decide ((S.length : Int) = n) && stuckB S)) ∧ w = w' := by
  have HV := Lib.hid hv
  obtain ⟨a, cap, rfl, hc, hcm, ha, _⟩ := hv
  rw [ints_length] at *
  have HIX := Lib.hid (indexFunc_any S (.slice a S.length cap) w hS HV.out)
  obtain ⟨l, hl⟩ : ∃ l, S.length = l := ⟨_, rfl⟩
  rw [hl] at HIX hc ⊢
  obtain ⟨sb, hsb⟩ : ∃ sb, stuckB S = sb := ⟨_, rfl⟩
  rw [hsb] at HIX ⊢
  have HCF : Hid (Calls Try.prog 71 #[.slice a l cap, .func (.func 72) #[] #[]] w fun e w' => e = .returned (.bool (!sb)) ∧ w = w') := by
    refine Lib.hid ?_
    go_enter Try.func71, Try.ntmps71
    go_wp2_with (go_at_call 82; refine HIX.out.mono ?_; rintro e w2 ⟨⟨r, rfl, hr⟩, rfl⟩)
    go_ret
    exact ⟨by rw [← hr]; rfl, rfl⟩
  clear hl hsb ha
  by_cases he : (l : Int) = n
  · have h1 : ((l : Int) == n) = true := by simpa using he
    have h2 : decide ((l : Int) = n) = true := decide_eq_true he
    rw [h2]
    clear he h2
    go_enter Try.func61, Try.ntmps61
    go_wp2_with (go_at_call 71; refine HCF.out.mono ?_; rintro e w2 ⟨rfl, rfl⟩)
    go_ret
    exact ⟨by cases sb <;> rfl, rfl⟩
  · have h1 : ((l : Int) == n) = false := by simpa using he
    have h2 : decide ((l : Int) = n) = false := decide_eq_false he
    rw [h2]
    clear he h2
    go_enter Try.func61, Try.ntmps61
    go_wp2_with fail
    go_ret
    exact ⟨rfl, rfl⟩
set_option maxHeartbeats 400000 in
/-- the reference's list of stuck switches -/
theorem isStuck_any (S : List Int) (k : Nat) (n : Int) (v : Value) (w : World) (hk : k ≤ 3) (hn : n = pw k) (hv : Rd w v (ints S)) :
    Calls Try.prog 33 #[.int .i64 n, v] w fun e w' => e = .returned (.bool (decide (S.length = cnt k) && stuckB S)) ∧ w = w' := by
  have HY := Lib.hid (fun k (hk : k < S.length) => @bad_at S k hk)
  have HN := Lib.hid (@bad_no S)
  have HSW := Lib.hid (fun W => switches_any k n W hk hn)
  obtain ⟨sb, hsb⟩ : ∃ sb, stuckB S = sb := ⟨_, rfl⟩
  rw [hsb] at HY HN ⊢
  obtain ⟨c, hc'⟩ : ∃ c, cnt k = c := ⟨_, rfl⟩
  rw [hc'] at HSW ⊢
  obtain ⟨a, cap, rfl, hc, hcm, ha, _⟩ := hv
  rw [ints_length] at *
  obtain ⟨l, hl⟩ : ∃ l, S.length = l := ⟨_, rfl⟩
  rw [hl] at HY HN hc ⊢
  have hS : l ≤ 9223372036854775807 := by unfold maxLen at hcm; omega
  have HL := Lib.hid hl
  have HA := Lib.hid ha
  obtain ⟨q, hq⟩ : ∃ q, decide (l = c) = q := ⟨_, rfl⟩
  have hq2 : ((l : Int) == (c : Int)) = q := by
    rw [← hq]
    by_cases e : l = c
    · subst e; simp
    · rw [decide_eq_false e, beq_eq_false_iff_ne]; omega
  rw [hq]
  clear hsb ha hl hc' hq hk hn
  go_enter Try.func33, Try.ntmps33
  go_wp2_with fail
  go_loopw [5] (fun q wr => ∃ k : Nat, k ≤ l ∧ q = .int .i64 k ∧ w = wr ∧ Hid (∀ i, i < k → badS (S.getD i 0) = false)) (fun q _ => l - (intOf q).toNat)
  case atStart => exact ⟨0, by omega, rfl, rfl, Lib.hid fun i hi => absurd hi (Nat.not_lt_zero _)⟩
  case round =>
    obtain ⟨k, hk, rfl, rfl, HK⟩ := hrel
    by_cases hkn : k < l
    · have hkn' : (k : Int) < (l : Int) := by omega
      obtain ⟨b, off, rfl, hcell⟩ := HA.out.cell (j := k) (by rw [ints_length, HL.out]; exact hkn)
      have c0 := hcell k _ (ints_getD (by rw [HL.out]; exact hkn))
      obtain ⟨x, hx⟩ : ∃ x, S.getD k 0 = x := ⟨_, rfl⟩
      rw [hx] at c0
      have HX := Lib.hid hx
      have HYk := Lib.hid (HY.out k hkn)
      clear hcell hx
      by_cases hx0 : x < 0
      · have HSF : Hid (sb = false) := Lib.hid (HYk.out (by rw [HX.out]; unfold badS; rw [decide_eq_true hx0]; rfl))
        have hd : decide (x < 0) = true := decide_eq_true hx0
        go_wp2_with fail
        go_ret
        exact ⟨by rw [HSF.out, Bool.and_false]; rfl, rfl⟩
      · have hd : decide (x < 0) = false := decide_eq_false hx0
        by_cases hx2 : 2 < x
        · have HSF : Hid (sb = false) := Lib.hid (HYk.out (by rw [HX.out]; unfold badS; rw [decide_eq_true hx2, Bool.or_true]))
          have hd2 : decide (2 < x) = true := decide_eq_true hx2
          go_wp2_with fail
          go_ret
          exact ⟨by rw [HSF.out, Bool.and_false]; rfl, rfl⟩
        · have hd2 : decide (2 < x) = false := decide_eq_false hx2
          have HBD : Hid (badS x = false) := Lib.hid (by unfold badS; rw [hd, hd2]; rfl)
          go_wp2_with fail
          go_roundw
          case rel =>
            refine ⟨k + 1, by omega, by go_num, by trivial, Lib.hid fun i hi => ?_⟩
            by_cases e : i = k
            · subst e; rw [HX.out]; exact HBD.out
            · exact HK.out i (by omega)
          case measure => simp [intOf]; omega
    · obtain rfl : l = k := by omega
      have HSF : Hid (sb = true) := Lib.hid (HN.out fun k hk => HK.out k hk)
      go_wp2_with (go_at_call 57; refine (HSW.out _).mono ?_; rintro e w2 ⟨rfl, rfl⟩)
      go_ret
      exact ⟨by rw [HSF.out, Bool.and_true]; rfl, rfl⟩
end Go.Proofs.Ytelnlmhelkcliaa

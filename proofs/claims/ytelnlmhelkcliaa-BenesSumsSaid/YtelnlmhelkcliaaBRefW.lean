/- Benes: the reference's ways, walked. -/
import Derived.Test.YtelnlmhelkcliaaBHalv
namespace Go.Proofs.Ytelnlmhelkcliaa
open Go.RowKit Go.Shelf

set_option maxRecDepth 100000 in
theorem refWays_zero (p S : List Int) (v sv : Value) (base : Nat) (w : World) (hl : p.length = 2) (hb : base < S.length) (_hS : S.length ≤ 1000) (hv : Rd w v (ints p)) (hs : Rd w sv (ints S)) (st : Nat → Int) (hst : S.getD base 0 = st 0) :
    Calls Try.prog 56 #[v, sv, .int .i64 base] w fun e w' => e = .returned (.int .i64 (waysR 0 p st : Nat)) ∧ Below w.heap.size w w' := by
  have hw : ((waysR 0 p st : Nat) : Int) = bI (mayB (st 0) (p.getD 0 0 == 1)) := by
    unfold waysR
    cases mayB (st 0) (p.getD 0 0 == 1) <;> rfl
  rw [hw]
  obtain ⟨a, cap, rfl, hc, hcm, ha, _⟩ := hv
  obtain ⟨a2, cap2, rfl, hc2, _, ha2, _⟩ := hs
  obtain ⟨b, off, rfl, hcell⟩ := ha.cell (j := 0) (by rw [ints_length, hl]; decide)
  have c0 := hcell 0 _ (ints_getD (by rw [hl]; decide))
  rw [Nat.add_zero] at c0
  obtain ⟨b2, off2, rfl, hcell2⟩ := ha2.cell (j := base) (by rw [ints_length]; exact hb)
  have c1 := hcell2 base _ (ints_getD hb)
  rw [hst] at c1
  rw [ints_length, hl] at hc
  rw [ints_length] at hc2
  rw [ints_length, ints_length, hl]
  obtain ⟨n2, hn2⟩ : ∃ n2, S.length = n2 := ⟨_, rfl⟩
  rw [hn2] at hb hc2 ⊢
  obtain ⟨x, hx⟩ : ∃ x, st 0 = x := ⟨_, rfl⟩
  obtain ⟨y, hy⟩ : ∃ y, p.getD 0 0 = y := ⟨_, rfl⟩
  rw [hx] at c1
  rw [hy] at c0
  rw [hx, hy]
  obtain ⟨t, ht⟩ : ∃ t, (y == 1) = t := ⟨_, rfl⟩
  have HMY := Lib.hid (fun n => may_quiet x t (w.drewN n))
  obtain ⟨mb, hmb⟩ : ∃ mb, mayB x t = mb := ⟨_, rfl⟩
  rw [hmb] at HMY
  rw [ht, hmb]
  have l0 := World.block_lt_of_cell? _ _ c0
  have l1 := World.block_lt_of_cell? _ _ c1
  clear hcell hcell2 ha ha2 hx hy hmb hst hl hw hn2
  go_enter Try.func56, Try.ntmps56
  go_wp2_with fail
  go_quiet (first | (go_at_call 59; refine Calls.quiet_of_same (HMY.out _)))
  cases mb with
  | true =>
    go_wp2_with fail
    go_ret
    exact ⟨rfl, bel_drewN (Below.refl _ _) _⟩
  | false =>
    go_wp2_with fail
    go_ret
    exact ⟨rfl, bel_drewN (Below.refl _ _) _⟩

set_option maxRecDepth 100000 in
set_option maxHeartbeats 4000000 in
theorem refWays_succ (h : Nat) (hh : h ≤ 2) (IH : ∀ (p S : List Int) (v sv : Value) (base : Nat) (st : Nat → Int) (w : World), PermP p → p.length = pw h → base + cnt h ≤ S.length → S.length ≤ 1000 → Rd w v (ints p) → Rd w sv (ints S) → (∀ i, i < cnt h → S.getD (base + i) 0 = st i) →
      Calls Try.prog 56 #[v, sv, .int .i64 base] w fun e w' => e = .returned (.int .i64 (waysR h p st : Nat)) ∧ Below w.heap.size w w')
    (p S : List Int) (v sv : Value) (base : Nat) (st : Nat → Int) (w : World) (hp : PermP p) (hl : p.length = pw (h + 1)) (hb : base + cnt (h + 1) ≤ S.length) (hS : S.length ≤ 1000) (hv : Rd w v (ints p)) (hs : Rd w sv (ints S)) (hst : ∀ i, i < cnt (h + 1) → S.getD (base + i) 0 = st i) :
    Calls Try.prog 56 #[v, sv, .int .i64 base] w fun e w' => e = .returned (.int .i64 (waysR (h + 1) p st : Nat)) ∧ Below w.heap.size w w' := by
  have hl2 : p.length = 2 * pw h := hl
  have hpw := pw_pos h
  have hpw2 := pw_le (h + 1) (by omega)
  have hcc : cnt (h + 1) = pw (h + 1) + 2 * cnt h := rfl
  have hpp : pw (h + 1) = 2 * pw h := rfl
  have hm8 : pw h ≤ 8 := by omega
  obtain ⟨F, hF⟩ : ∃ F : Nat → Nat, (fun first => if okR p st (pw h) (fun j => first.testBit j) then
      waysR h (upL p (fun j => first.testBit j) (pw h)) (fun i => st (pw (h + 1) + i)) * waysR h (lowL p (fun j => first.testBit j) (pw h)) (fun i => st (pw (h + 1) + cnt h + i)) else 0) = F := ⟨_, rfl⟩
  have hW : waysR (h + 1) p st = sumN F (2 ^ pw h) := by rw [waysR, hF]
  have hFle : ∀ i, F i ≤ waysC h * waysC h := fun i => by
    rw [← hF]
    dsimp only
    split
    · exact Nat.mul_le_mul (waysR_le h _ _) (waysR_le h _ _)
    · exact Nat.zero_le _
  have HSM : Hid (∀ k, k ≤ 2 ^ pw h → sumN F k ≤ 16777216) := Lib.hid fun k hk => by
    have h1 := sumN_le k (fun i _ => hFle i)
    have h2 : k * (waysC h * waysC h) ≤ waysC (h + 1) := by rw [waysC]; exact Nat.mul_le_mul_right _ hk
    have h3 := waysC_le (h := h + 1) (by omega)
    omega
  rw [hW]
  have HFE : Hid (∀ i, F i = if okR p st (pw h) (fun j => i.testBit j) then
      waysR h (upL p (fun j => i.testBit j) (pw h)) (fun i => st (pw (h + 1) + i)) * waysR h (lowL p (fun j => i.testBit j) (pw h)) (fun i => st (pw (h + 1) + cnt h + i)) else 0) := Lib.hid fun i => by rw [← hF]
  have HIH := Lib.hid IH
  have HSS := Lib.hid (sumN_succ F)
  have HS0 : Hid (sumN F 0 = 0) := Lib.hid rfl
  have HST := Lib.hid hst
  have HPP := Lib.hid hp
  have HLL := Lib.hid hl2
  have HV := Lib.hid hv
  have HSV := Lib.hid hs
  obtain ⟨a, cap, rfl, hc, hcm, ha, _⟩ := hv
  obtain ⟨a2, cap2, rfl, hc2, _, ha2, _⟩ := hs
  obtain ⟨c, hcn⟩ : ∃ c, cnt h = c := ⟨_, rfl⟩
  obtain ⟨m, hm⟩ : ∃ m, pw h = m := ⟨_, rfl⟩
  rw [ints_length, hl2, hm] at hc HV ⊢
  rw [ints_length] at hc2 HSV ⊢
  obtain ⟨n2, hn2⟩ : ∃ n2, S.length = n2 := ⟨_, rfl⟩
  obtain ⟨tt, htt⟩ : ∃ tt : Nat, 2 ^ m = tt := ⟨_, rfl⟩
  have htb : tt ≤ 256 := by
    rw [← htt]
    exact Nat.le_trans (Nat.pow_le_pow_right (by decide) (show m ≤ 8 by omega)) (by decide)
  rw [hm] at hm8 hpw HSM HLL
  rw [htt]
  rw [htt] at HSM
  rw [hcc, hpp, hm, hcn] at hb
  have HM := Lib.hid hm
  have HCN := Lib.hid hcn
  have HPW : Hid (pw (h + 1) = 2 * m) := Lib.hid (by rw [hpp, hm])
  have HHA := Lib.hid (fun first W hv hs (hf : first < 256) => halves_any HPP.out HLL.out hm8 (by omega) S base first st (.slice a (2 * m) cap) (.slice a2 S.length cap2) W hv hs hf (by omega) hS (fun i hi => HST.out i (by rw [hcc, hpp, hm]; omega)))
  have HSW := Lib.hid (fun W => switches_any h (m : Int) W (by omega) (by rw [hm]))
  rw [hcn] at HSW
  rw [hn2] at hb hS hc2 HSV HHA ⊢
  have HS2 := Lib.hid hn2
  have hsh : wrap64 ((2 : Int) ^ m) = (tt : Int) := by
    have : ((2 : Int) ^ m) = (tt : Int) := by rw [← htt]; push_cast; rfl
    rw [this]; unfold wrap64; omega
  have hne : (2 * (m : Int) == 2) = false := by rw [beq_eq_false_iff_ne]; omega
  have hq : IntKind.i64.wrap ((2 * (m : Int)).tdiv 2) = m := by rw [IntWalk.i64_quo _ _ (by omega)]; omega
  obtain ⟨b1, hb1⟩ : ∃ b1, base + 2 * m = b1 := ⟨_, rfl⟩
  obtain ⟨b2, hb2⟩ : ∃ b2, b1 + c = b2 := ⟨_, rfl⟩
  have hw1 : IntKind.i64.wrap ((base : Int) + 2 * (m : Int)) = (b1 : Int) := by rw [show (base : Int) + 2 * (m : Int) = (b1 : Int) by omega]; exact IntWalk.i64_in _ (by omega)
  have hw2 : IntKind.i64.wrap ((b1 : Int) + (c : Int)) = (b2 : Int) := by rw [show (b1 : Int) + (c : Int) = (b2 : Int) by omega]; exact IntWalk.i64_in _ (by omega)
  have HBB1 := Lib.hid hb1
  have HBB2 := Lib.hid hb2
  have HBN := Lib.hid hb
  have HSN := Lib.hid hS
  clear hb1 hb2 hst hp hl hl2 hcc hpp hm hcn hF hFle hW htt IH ha ha2 hn2 hpw2 hb
  go_enter Try.func56, Try.ntmps56
  go_wp2_with fail
  go_loopw [8, 9] (fun q8 q9 wr => ∃ k : Nat, k ≤ tt ∧ q9 = .int .i64 k ∧ q8 = .int .i64 (sumN F k : Nat) ∧ Hid (Below w.heap.size w wr)) (fun _ q _ => tt - (intOf q).toNat)
  case atStart => exact ⟨0, by omega, rfl, by rw [HS0.out]; rfl, Lib.hid (Below.refl _ _)⟩
  case round =>
    obtain ⟨k, hk, rfl, rfl, HB⟩ := hrel
    by_cases hkn : k < tt
    · have hkn' : (k : Int) < (tt : Int) := by omega
      have hsm := HSM.out (k + 1) hkn
      have HS1 := Lib.hid (HSS.out k)
      rw [HS1.out] at hsm
      have HFK := Lib.hid (HFE.out k)
      have HCA := Lib.hid (HHA.out k wr (HV.out.below HB.out (Nat.le_refl _)) (HSV.out.below HB.out (Nat.le_refl _)) (by omega))
      rw [HM.out] at HFK
      obtain ⟨ok, hok⟩ : ∃ ok, okR p st m (fun j => k.testBit j) = ok := ⟨_, rfl⟩
      rw [hok] at HFK HCA
      have HOK := Lib.hid hok
      obtain ⟨s, hs⟩ : ∃ s, sumN F k = s := ⟨_, rfl⟩
      rw [hs] at HS1 hsm ⊢
      obtain ⟨f, hf⟩ : ∃ f, F k = f := ⟨_, rfl⟩
      rw [hf] at HFK HS1 hsm
      clear hs hf hok
      cases ok with
      | false =>
        go_wp2_with (go_at_call 70; refine HCA.out.mono ?_; rintro e w5 ⟨⟨x, y, rfl, _⟩, hb5⟩; have HB5 := Lib.hid (HB.out.trans (hb5.mono HB.out.size)); clear hb5)
        go_roundw
        case rel => exact ⟨k + 1, by omega, by go_num, by rw [HS1.out, HFK.out]; rfl, HB5⟩
        case measure => simp [intOf]; omega
      | true =>
        have hcons := ((okR_iff (permN_of HPP.out HLL.out) _).1 HOK.out).2.1
        have hup := up_perm HPP.out HLL.out hcons
        have hlow := low_perm HPP.out HLL.out hcons
        rw [if_pos rfl] at HFK
        obtain ⟨U, hU⟩ : ∃ U, upL p (fun j => k.testBit j) m = U := ⟨_, rfl⟩
        obtain ⟨Lo, hLo⟩ : ∃ Lo, lowL p (fun j => k.testBit j) m = Lo := ⟨_, rfl⟩
        have hUl : U.length = m := by rw [← hU, upL_len]
        have hLl : Lo.length = m := by rw [← hLo, lowL_len]
        rw [hU] at hup HFK HCA
        rw [hLo] at hlow HFK HCA
        obtain ⟨A, hA⟩ : ∃ A, waysR h U (fun i => st (pw (h + 1) + i)) = A := ⟨_, rfl⟩
        obtain ⟨B, hB⟩ : ∃ B, waysR h Lo (fun i => st (pw (h + 1) + cnt h + i)) = B := ⟨_, rfl⟩
        rw [hA, hB] at HFK
        have HI1 := Lib.hid (fun W (x : Value) (h1 : Rd W x (ints U)) (h2 : Rd W (.slice a2 n2 cap2) (ints S)) => HIH.out U S x (.slice a2 n2 cap2) b1 (fun i => st (pw (h + 1) + i)) W hup (by rw [hUl, HM.out]) (by rw [HCN.out, HS2.out]; have := HBB1.out; have := HBN.out; omega) (by rw [HS2.out]; exact HSN.out) h1 h2 (fun i hi => by
          rw [← HBB1.out, ← HPW.out, Nat.add_assoc]; exact HST.out _ (by show _ < pw (h + 1) + 2 * cnt h; omega)))
        have HI2 := Lib.hid (fun W (x : Value) (h1 : Rd W x (ints Lo)) (h2 : Rd W (.slice a2 n2 cap2) (ints S)) => HIH.out Lo S x (.slice a2 n2 cap2) b2 (fun i => st (pw (h + 1) + cnt h + i)) W hlow (by rw [hLl, HM.out]) (by rw [HCN.out, HS2.out]; have := HBB1.out; have := HBB2.out; have := HBN.out; omega) (by rw [HS2.out]; exact HSN.out) h1 h2 (fun i hi => by
          rw [show b2 + i = base + (pw (h + 1) + cnt h + i) by rw [HPW.out, HCN.out]; have := HBB1.out; have := HBB2.out; omega]; exact HST.out _ (by show _ < pw (h + 1) + 2 * cnt h; omega)))
        rw [hA] at HI1
        rw [hB] at HI2
        obtain ⟨s', hs'⟩ : ∃ s', s + f = s' := ⟨_, rfl⟩
        have hw3 : IntKind.i64.wrap ((A : Int) * (B : Int)) = (f : Int) := by
          rw [show (A : Int) * (B : Int) = (f : Int) by rw [HFK.out]; push_cast; rfl]
          exact IntWalk.i64_in _ (by omega)
        have hw4 : IntKind.i64.wrap ((s : Int) + (f : Int)) = (s' : Int) := by
          rw [show (s : Int) + (f : Int) = (s' : Int) by omega]
          exact IntWalk.i64_in _ (by omega)
        have HSF := Lib.hid hs'
        clear hcons hup hlow hU hLo hUl hLl hA hB hs' hsm
        go_wp2_with (first
          | (go_at_call 70; refine HCA.out.mono ?_; rintro e w5 ⟨⟨x, y, rfl, hxy⟩, hb5⟩; have HB5 := Lib.hid (HB.out.trans (hb5.mono HB.out.size)); have HX5 := Lib.hid (Rd.own (hxy rfl).1); have HY5 := Lib.hid (Rd.own (hxy rfl).2); clear hb5 hxy)
          | (go_at_call 57; refine (HSW.out _).mono ?_; rintro e w7 ⟨rfl, rfl⟩)
          | (go_at_call 56; (with_reducible refine (HI1.out _ _ HX5.out (HSV.out.below HB5.out (Nat.le_refl _))).mono ?_); rintro e w6 ⟨rfl, hb6⟩; have HB6 := Lib.hid (HB5.out.trans (hb6.mono HB5.out.size)); have HY6 := Lib.hid (HY5.out.below hb6 (Nat.le_refl _)); clear hb6)
          | (go_at_call 56; (with_reducible refine (HI2.out _ _ HY6.out (HSV.out.below HB6.out (Nat.le_refl _))).mono ?_); rintro e w8 ⟨rfl, hb8⟩; have HB8 := Lib.hid (HB6.out.trans (hb8.mono HB6.out.size)); clear hb8))
        · go_roundw
          case rel => exact ⟨k + 1, by omega, by go_num, by rw [HS1.out, HSF.out], HB8⟩
          case measure => simp [intOf]; omega
        · go_roundw
          case rel =>
            refine ⟨k + 1, by omega, by go_num, ?_, HB6⟩
            have hA0 : A = 0 := by omega
            rw [HS1.out, HFK.out, hA0, Nat.zero_mul, Nat.add_zero]
          case measure => simp [intOf]; omega
    · obtain rfl : tt = k := by omega
      go_wp2_with fail
      go_ret
      exact ⟨rfl, HB.out⟩
theorem refWays_any : ∀ (h : Nat), h ≤ 3 → ∀ (p S : List Int) (v sv : Value) (base : Nat) (st : Nat → Int) (w : World), PermP p → p.length = pw h → base + cnt h ≤ S.length → S.length ≤ 1000 → Rd w v (ints p) → Rd w sv (ints S) → (∀ i, i < cnt h → S.getD (base + i) 0 = st i) →
      Calls Try.prog 56 #[v, sv, .int .i64 base] w fun e w' => e = .returned (.int .i64 (waysR h p st : Nat)) ∧ Below w.heap.size w w'
  | 0, _, p, S, v, sv, base, st, w, _, hl, hb, hS, hv, hs, hst => refWays_zero p S v sv base w hl (by have : cnt 0 = 1 := rfl; omega) hS hv hs st (hst 0 (by decide))
  | h + 1, hh, p, S, v, sv, base, st, w, hp, hl, hb, hS, hv, hs, hst => refWays_succ h (by omega) (refWays_any h (by omega)) p S v sv base st w hp hl hb hS hv hs hst
end Go.Proofs.Ytelnlmhelkcliaa

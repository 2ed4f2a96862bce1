/- TopNetworks, walked. -/
import Derived.Test.YtelnlmhelkcliaaBTopP
import Derived.Test.YtelnlmhelkcliaaBSetL
import Derived.Test.YtelnlmhelkcliaaMirrors
namespace Go.Proofs.Ytelnlmhelkcliaa
open Go.RowKit

theorem thrL_two : thrL 2 [true] = [1, 0] := by decide
theorem straight_any (w : World) : Calls Try.prog 39 #[] w fun e w' => e = .returned (.bool true) ∧ Below w.heap.size w w' := by
  have hb0 : Below w.heap.size w (w.alloc (.cells #[.bool true] 4)) := (Below.refl _ _).alloc (Nat.le_refl _) _
  have hr : Rd (w.alloc (.cells #[.bool true] 4)) (.slice (some ⟨w.heap.size, 0, none⟩) 1 1) (bools [true]) := Rd.own (own_lit w w.heap.size 4 #[.bool true] 1 (Nat.le_refl _) rfl (by decide))
  have HT := Lib.hid (Through_any 2 _ [true] _ hr)
  rw [thrL_two, show fitE 2 ([true] : List Bool).length = 0 by decide] at HT
  have HB0 := Lib.hid hb0
  clear hb0 hr
  go_enter Try.func39, Try.ntmps39
  go_wp2_with (go_at_call 16; refine HT.out.mono ?_; rintro e w1 ⟨u, rfl, hu, hb1⟩; obtain ⟨g, c, rfl, _, _⟩ := own_some1 hu (by decide); have hR := Rd.own hu; obtain ⟨aa, cc, e, _, _, hca, _⟩ := hR; cases e; obtain ⟨b, off, e, hh⟩ := hca.cell (j := 0) (by decide); cases e; have c0 : w1.cell? ⟨g, 0, none⟩ = some (.int .i64 1) := hh 0 _ rfl; have z0 := World.block_lt_of_cell? _ _ c0; clear hu hca hh)
  go_ret
  exact ⟨rfl, HB0.out.trans (hb1.mono HB0.out.size)⟩

/-- what holds of settings that make a permutation -/
theorem back_ok {p : List Int} (hb : permB p = true) {l : List Bool} (hc : l.length = cnt (lg p.length)) (ht : ∀ i, i < pw (lg p.length) → tro (lg p.length) l i 0 = piL p i) :
    fitE p.length l.length = 0 ∧ thrL p.length l = p ∧ fitE p.length (mirL p.length l).length = 0 ∧ (thrL p.length (mirL p.length l)).length = p.length ∧ ∀ i, i < p.length → (thrL p.length (mirL p.length l)).getD (piL p i) 0 = (i : Int) := by
  have hz := permB_sz hb
  have hp := permB_p hb
  obtain ⟨hn, hk⟩ := lg_spec _ hz
  have h1 : fitE p.length l.length = 0 := fitE_ok hz hc
  have hM : mirL p.length l = mir (lg p.length) l := if_pos h1
  have hML : (mirL p.length l).length = cnt (lg p.length) := by rw [hM, mir_len _ _ hc]
  have h3 : fitE p.length (mirL p.length l).length = 0 := fitE_ok hz hML
  have hT : thrL p.length l = thr (lg p.length) l (pw (lg p.length)) := if_pos h1
  have hB : thrL p.length (mirL p.length l) = thr (lg p.length) (mirL p.length l) (pw (lg p.length)) := if_pos h3
  have e : pw (lg p.length) = p.length := by omega
  refine ⟨h1, ?_, h3, by rw [hB, thr_len, e], fun i hi => ?_⟩
  · rw [hT, e]; exact thr_piL hp (by omega) ht
  · have hpi := (piL_eq hp hi).2
    rw [hB, List.getD_eq_getElem?_getD, thr_get _ _ _ _ (by omega), hM, ← ht i (by omega), mir_back _ _ _ hc (by omega)]
    rfl
theorem zeros_le (st : Nat → Int) : ∀ k, zerosN st k ≤ k
  | 0 => Nat.le_refl _
  | k + 1 => by
    have := zeros_le st k
    rw [show zerosN st (k + 1) = zerosN st k + (if st k = 0 then 1 else 0) from rfl]
    split <;> omega
/-- the ways of some permutations -/
def sumW (S : List Int) (L : List (List Int)) : Nat := (L.map fun p => waysR 1 p fun i => S.getD i 0).sum
theorem sumW_snoc (S : List Int) (L : List (List Int)) (p : List Int) : sumW S (L ++ [p]) = sumW S L + waysR 1 p (fun i => S.getD i 0) := by
  unfold sumW; rw [List.map_append, List.sum_append]; simp
theorem sumW_le (S : List Int) : ∀ L : List (List Int), sumW S L ≤ L.length * 16777216
  | [] => by simp [sumW]
  | p :: L => by
    have h1 := sumW_le S L
    have h2 := waysR_le 1 p fun i => S.getD i 0
    have h3 := waysC_le (h := 1) (by decide)
    unfold sumW at h1 ⊢
    rw [List.map_cons, List.sum_cons, List.length_cons]
    omega
theorem four_facts {S : List Int} (hS : S.length = 6) (hb : stuckB S = true) {r : List Int} (hr : r ∈ permsP 4) :
    permB r = true ∧ lg r.length = 1 ∧ r.length = 4 ∧ wayE r S = 0 ∧ wayN r S = waysR 1 r (fun i => S.getD i 0) := by
  have h1 := permsP_len 4 r hr
  have h2 := permsP_ok 4 r hr
  have hl : lg (r.length : Int) = 1 := by rw [h1]; decide
  have hp : permB r = true := by unfold permB; rw [decide_eq_true h2, h1]; decide
  have hs : stkB r S = true := by unfold stkB; rw [hl, hb, hS]; decide
  exact ⟨hp, hl, h1, by unfold wayE; rw [hp, hs]; rfl, by unfold wayN; rw [hp, hs, hl]; rfl⟩
theorem lost_four {S : List Int} (hS : S.length = 6) (hb : stuckB S = true) : lostN 4 S = lostK 1 S (permsP 4) ∧ lostE 4 S = 0 := by
  have he : lostE 4 S = 0 := by unfold lostE; rw [hb, hS]; decide
  have hl : lg 4 = 1 := by decide
  exact ⟨by unfold lostN; rw [if_pos he, hl]; rfl, he⟩
/-- the states of the stuck switches -/
def stuckL (Z : List Int) : List Int := Z.map fun z => z % 3

theorem stuck_ok (Z : List Int) : stuckB (stuckL Z) = true := by
  unfold stuckB stuckL
  rw [List.all_eq_true]
  intro x hx
  obtain ⟨z, _, rfl⟩ := List.mem_map.1 hx
  unfold badS
  rw [decide_eq_false (by omega), decide_eq_false (by omega)]
  rfl
theorem stuck_in {S : List Int} (hb : stuckB S = true) (hS : S.length = 6) : ∀ i, i < 6 → S.getD i 0 = 0 ∨ S.getD i 0 = 1 ∨ S.getD i 0 = 2 := by
  intro i hi
  unfold stuckB at hb
  rw [List.all_eq_true] at hb
  have := hb (S.getD i 0) (getD_mem 0 (by omega))
  unfold badS at this
  simp only [Bool.not_eq_true', Bool.or_eq_false_iff, decide_eq_false_iff_not] at this
  omega
set_option maxRecDepth 100000 in
set_option maxHeartbeats 4000000 in
theorem networks_ok (p : List Int) (v : Value) (z0 z1 z2 z3 z4 z5 : Int) (Z : List Int) (hZ : Z = [z0, z1, z2, z3, z4, z5]) (hz : ∀ z ∈ Z, 0 ≤ z ∧ z < 256) (w : World) (hv : Rd w v (ints p)) (hl : p.length ≤ 16) (hp : permB p = true) :
    Calls Try.prog 14 #[v, .agg #[.int .u8 z0, .int .u8 z1, .int .u8 z2, .int .u8 z3, .int .u8 z4, .int .u8 z5]] w fun e w' => e = .returned (.bool true) ∧ Below w.heap.size w w' := by
  have HV := Lib.hid hv
  obtain ⟨a, cap, rfl, hc, hcm, ha, _⟩ := hv
  rw [ints_length] at *
  have hl2 : decide ((16 : Int) < (p.length : Int)) = false := by simp; omega
  have hzs := permB_sz hp
  obtain ⟨hn, hk⟩ := lg_spec _ hzs
  have hpw := pw_pos (lg p.length)
  obtain ⟨w0, hw0⟩ : ∃ w0, w.alloc (.cells #[.int .u8 z0, .int .u8 z1, .int .u8 z2, .int .u8 z3, .int .u8 z4, .int .u8 z5] 49) = w0 := ⟨_, rfl⟩
  have hb0 : Below w.heap.size w w0 := by rw [← hw0]; exact (Below.refl _ _).alloc (Nat.le_refl _) _
  have HQ : Hid (∀ W u, SetP p w0 W u → ∃ l ua uc, u = .slice ua l.length uc ∧ Rd W u (bools l) ∧ fitE p.length l.length = 0 ∧ thrL p.length l = p ∧ fitE p.length (mirL p.length l).length = 0 ∧ (thrL p.length (mirL p.length l)).length = p.length ∧ ∀ i, i < p.length → (thrL p.length (mirL p.length l)).getD (piL p i) 0 = (i : Int)) := Lib.hid fun W u h => by
    unfold SetP at h
    rw [hp, if_pos rfl] at h
    obtain ⟨l, h1, h2, h3⟩ := h
    have h4 := back_ok hp h2 h3
    rw [← h2] at h1
    obtain ⟨ua, uc, e⟩ := own_form h1
    exact ⟨l, ua, uc, e, Rd.own h1, h4⟩
  have HSET : Hid (Calls Try.prog 34 #[.slice a p.length cap] w0 fun e w' => (∃ u, e = .returned (.tuple #[u, .int .i64 0]) ∧ SetP p w0 w' u) ∧ Below w0.heap.size w0 w') := Lib.hid (by
    have := Settings_any p (.slice a p.length cap) w0 (HV.out.below hb0 (Nat.le_refl _))
    rw [hp] at this
    exact this)
  have HCZ : Hid (∀ (k : Nat) (z : Int), Z[k]? = some z → w0.cell? ⟨w.heap.size, k, none⟩ = some (.int .u8 z)) := Lib.hid fun k z hk => by
    rw [← hw0, World.cell?_alloc_at _ _ _ _ rfl]
    subst hZ
    match k, hk with
    | 0, hk => simp at hk; subst hk; rfl
    | 1, hk => simp at hk; subst hk; rfl
    | 2, hk => simp at hk; subst hk; rfl
    | 3, hk => simp at hk; subst hk; rfl
    | 4, hk => simp at hk; subst hk; rfl
    | 5, hk => simp at hk; subst hk; rfl
    | k + 6, hk => simp at hk
  have HBW0 := Lib.hid hb0
  have HW0 := Lib.hid hw0
  have HPI := Lib.hid (fun k hk => @piL_eq p (permB_p hp) k hk)
  have HPP := Lib.hid (permB_p hp)
  obtain ⟨n, hnn⟩ : ∃ n, p.length = n := ⟨_, rfl⟩
  have hn2 : 2 ≤ n := by omega
  rw [hnn] at HV hc hl2 HQ HSET HPI hl ⊢
  have HN := Lib.hid hnn
  have HZZ := Lib.hid hZ
  have HZB := Lib.hid hz
  clear hZ hz
  have HA := Lib.hid ha
  clear hzs hn hk hpw hp ha hnn hb0
  rw [← hw0] at HSET
  clear hw0
  go_enter Try.func14, Try.ntmps14
  go_upto_region 6 with (go_at_call 34; refine HSET.out.mono ?_; rw [HW0.out]; rintro e w1 ⟨⟨u, rfl, hu⟩, hb1⟩; obtain ⟨l, ua, uc, rfl, hr, hq1, hq2, hq3, hq4, hq5⟩ := HQ.out _ _ hu; have HR := Lib.hid hr; have HQ1 := Lib.hid hq1; have HQ2 := Lib.hid hq2; have HQ3 := Lib.hid hq3; have HQ4 := Lib.hid hq4; have HQ5 := Lib.hid hq5; have HB1 := Lib.hid hb1; clear hr hq1 hq2 hq3 hq4 hq5 hu hb1)
  go_upto_region 7 with (go_at_call 16; refine (Through_any _ _ l _ HR.out).mono ?_; rw [HQ1.out, HQ2.out]; rintro e w2 ⟨u2, rfl, hu2, hb2⟩; rw [HN.out] at hu2; obtain ⟨g2, c2, rfl, _, _⟩ := own_some1 hu2 (by omega); have HT2 := Lib.hid (Rd.own hu2); have HB2 := Lib.hid hb2; clear hu2 hb2)
  go_upto_region 8 with (go_at_call 27; refine (Mirror_any _ _ l _ (HR.out.below HB2.out (Nat.le_refl _))).mono ?_; rw [HQ1.out]; rintro e w3 ⟨u3, rfl, hu3, hb3⟩; obtain ⟨m3, k3, rfl⟩ := own_form hu3; have HM3 := Lib.hid (Rd.own hu3); have HB3 := Lib.hid hb3; clear hu3 hb3)
  obtain ⟨M, hM⟩ : ∃ M, mirL (↑n : Int) l = M := ⟨_, rfl⟩
  rw [hM] at HM3 HQ3 HQ4 HQ5 ⊢
  obtain ⟨BL, hBL⟩ : ∃ BL, thrL (↑n : Int) M = BL := ⟨_, rfl⟩
  have HBL := Lib.hid hBL
  rw [hBL] at HQ4 HQ5
  clear hM hBL
  go_upto_region 13 with (go_at_call 16; refine (Through_any _ _ M _ HM3.out).mono ?_; rw [HQ3.out, HBL.out, HQ4.out]; rintro e w4 ⟨u4, rfl, hu4, hb4⟩; obtain ⟨g4, c4, rfl, _, _⟩ := own_some1 hu4 (by omega); have HT4 := Lib.hid (Rd.own hu4); have HB4 := Lib.hid hb4; clear hu4 hb4)
  have HB04 : Hid (Below w0.heap.size w0 w4) := Lib.hid (((HB1.out.trans (HB2.out.mono HB1.out.size)).trans (HB3.out.mono (Nat.le_trans HB1.out.size HB2.out.size))).trans (HB4.out.mono (Nat.le_trans HB1.out.size (Nat.le_trans HB2.out.size HB3.out.size))))
  have HT24 := Lib.hid (HT2.out.below (HB3.out.trans (HB4.out.mono HB3.out.size)) (Nat.le_refl _))
  have HV4 := Lib.hid (HV.out.below (HBW0.out.trans (HB04.out.mono HBW0.out.size)) (Nat.le_refl _))
  obtain ⟨b, off, rfl, hcp⟩ : ∃ b off, a = some ⟨b, off, none⟩ ∧ ∀ i, i < n → w4.cell? ⟨b, off + i, none⟩ = some (.int .i64 (piL p i : Nat)) := by
    obtain ⟨aa, cc, e, _, _, hca, _⟩ := HV4.out
    cases e
    obtain ⟨b, off, e, hh⟩ := hca.cell (j := 0) (by rw [ints_length, HN.out]; omega)
    refine ⟨b, off, e, fun i hi => ?_⟩
    rw [hh i _ (ints_getD (by rw [HN.out]; exact hi)), (HPI.out i hi).1]
  have HCP := Lib.hid hcp
  have HC2 : Hid (∀ i, i < n → w4.cell? ⟨g2, i, none⟩ = some (.int .i64 (piL p i : Nat))) := Lib.hid fun i hi => by
    obtain ⟨aa, cc, e, _, _, hca, _⟩ := HT24.out
    cases e
    obtain ⟨b', off', e, hh⟩ := hca.cell (j := 0) (by rw [ints_length, HN.out]; omega)
    cases e
    have := hh i _ (ints_getD (by rw [HN.out]; exact hi))
    rwa [Nat.zero_add, (HPI.out i hi).1] at this
  have HC4 : Hid (∀ i, i < n → w4.cell? ⟨g4, piL p i, none⟩ = some (.int .i64 (i : Nat))) := Lib.hid fun i hi => by
    obtain ⟨aa, cc, e, _, _, hca, _⟩ := HT4.out
    cases e
    obtain ⟨b', off', e, hh⟩ := hca.cell (j := 0) (by rw [ints_length, HQ4.out]; omega)
    cases e
    have := hh (piL p i) _ (ints_getD (by rw [HQ4.out]; exact (HPI.out i hi).2))
    rwa [Nat.zero_add, HQ5.out i hi] at this
  clear hcp
  go_wp2_with fail
  go_loopw [11] (fun i wr => ∃ j : Nat, j ≤ n ∧ i = .int .i64 j ∧ Below w4.heap.size w4 wr) (fun i _ => n - (intOf i).toNat)
  case atStart => exact ⟨0, by omega, rfl, Below.refl _ _⟩
  case round =>
    obtain ⟨j, hj, rfl, hbel⟩ := hrel
    by_cases hjn : j < n
    · have hjn' : decide ((j : Int) < (n : Int)) = true := by simp; omega
      have cc0 := cell_below (HCP.out j hjn) hbel
      have cc1 := cell_below (HC2.out j hjn) hbel
      have cc2 := cell_below (HC4.out j hjn) hbel
      have hmn := (HPI.out j hjn).2
      obtain ⟨m, hm⟩ : ∃ m, piL p j = m := ⟨_, rfl⟩
      rw [hm] at cc0 cc1 cc2 hmn
      have zz0 := World.block_lt_of_cell? _ _ cc0
      have zz1 := World.block_lt_of_cell? _ _ cc1
      have zz2 := World.block_lt_of_cell? _ _ cc2
      clear hm
      go_wp2_with fail
      go_quiet (fail)
      go_wp2_with fail
      go_roundw
      case rel => exact ⟨j + 1, by omega, by go_num, bel_drewN hbel _⟩
      case measure => simp [intOf]; omega
    · obtain rfl : n = j := by omega
      have hjn' : decide ((n : Int) < (n : Int)) = false := by simp
      go_wp2_with fail
      obtain ⟨wo, rfl⟩ : ∃ wo, wo = wr := ⟨_, rfl⟩
      have HBO := Lib.hid hbel
      have HOWB : Hid (∀ (W : World) (v : Value) (q : Nat) (xs : List Value) (x : Nat) (z : Int), W.ownsRow wo.heap.size 3 1 v q xs → W.cell? ⟨w.heap.size, x, none⟩ = some (.int .u8 z) → some w.heap.size ≠ v.ownBlock) := Lib.hid (by
        intro W v q xs x z h1 _ e
        have h2 := (h1.lt _ e.symm).1
        have h3 := HB04.out.size
        have h4 := HBO.out.size
        have h5 : w.heap.size < w0.heap.size := by rw [← HW0.out]; simp
        omega)
      clear hbel
      obtain ⟨S, hS⟩ : ∃ S, stuckL Z = S := ⟨_, rfl⟩
      have HS := Lib.hid hS
      obtain ⟨st, hst⟩ : ∃ st : Nat → Int, (fun i => S.getD i 0) = st := ⟨_, rfl⟩
      have HST := Lib.hid hst
      have HSTK : Hid (∀ i, S.getD i 0 = st i) := Lib.hid fun i => congrFun hst i
      have HZL : Hid (Z.length = 6) := Lib.hid (by rw [HZZ.out]; rfl)
      have HSL : Hid (S.length = 6) := Lib.hid (by rw [← hS, stuckL, List.length_map, HZL.out])
      clear hst hS
      go_loopw [12, 13, 14] (fun v c i wr => ∃ k : Nat, k ≤ 6 ∧ i = .int .i64 k ∧ c = .int .i64 (2 ^ zerosN st k : Nat) ∧ wr.ownsRow wo.heap.size 3 1 v k (ints (S.take k)) ∧ Below wo.heap.size wo wr) (fun _ _ i _ => 6 - (intOf i).toNat)
      case atStart => exact ⟨0, by omega, rfl, rfl, World.ownsRow_nil _ _ _ _, Below.refl _ _⟩
      case round =>
        obtain ⟨k, hk, rfl, rfl, hown, hbel⟩ := hrel
        by_cases hk6 : k < 6
        · have hk6' : decide ((k : Int) < 6) = true := by simp; omega
          obtain ⟨z, hz⟩ : ∃ z, Z[k]? = some z := ⟨_, List.getElem?_eq_getElem (by rw [HZL.out]; exact hk6)⟩
          have hzb := HZB.out z (List.mem_of_getElem? hz)
          have c0 := cell_below (cell_below (cell_below (HCZ.out k z hz) HB04.out) HBO.out) hbel
          have zc := World.block_lt_of_cell? _ _ c0
          obtain ⟨y, hy⟩ : ∃ y, z % 3 = y := ⟨_, rfl⟩
          have hSk : S[k]? = some y := by rw [← HS.out, stuckL, List.getElem?_map, hz, ← hy]; rfl
          have hsy : st k = y := by rw [← HSTK.out k, List.getD_eq_getElem?_getD, hSk]; rfl
          have hy3 : 0 ≤ y ∧ y < 3 := by omega
          have hm1 : Int.tmod z 3 = y := by rw [Int.tmod_eq_emod_of_nonneg hzb.1]; exact hy
          have hm2 : IntKind.u8.wrap y = y := by rw [IntKind.wrap_u8]; omega
          have hm3 : IntKind.i64.wrap y = y := IntWalk.i64_in _ ⟨by omega, by omega⟩
          have HOWN := Lib.hid hown
          have HBL := Lib.hid hbel
          have HTK := Lib.hid (take_snoc hSk)
          have HZS : Hid (zerosN st (k + 1) = zerosN st k + if y = 0 then 1 else 0) := Lib.hid (by rw [← hsy]; rfl)
          have hcb : 2 ^ zerosN st k ≤ 64 := Nat.le_trans (Nat.pow_le_pow_right (by decide) (zeros_le st k)) (Nat.le_trans (Nat.pow_le_pow_right (n := 2) (by decide) (show k ≤ 6 by omega)) (by decide))
          have HPW := Lib.hid (show 2 ^ (zerosN st k + 1) = 2 * 2 ^ zerosN st k by rw [Nat.pow_succ]; omega)
          obtain ⟨c, hc'⟩ : ∃ c, 2 ^ zerosN st k = c := ⟨_, rfl⟩
          have HCC := Lib.hid hc'
          rw [hc'] at hcb HPW ⊢
          have hw2 : IntKind.i64.wrap (2 * (c : Int)) = 2 * (c : Int) := IntWalk.i64_in _ ⟨by omega, by omega⟩
          clear hown hbel hz hzb hy hSk hsy hc'
          by_cases hy0 : y = 0
          · subst hy0
            go_wp2_with (at_builtin; refine app1 el_int rfl rfl (w0 := wo) (W := wr) (v := u12) (n := k) (xs := ints (S.take k)) (u := .int .i64 0) rfl rfl HBL.out HOWN.out rfl (by omega) ?_; intro v2 w2 ho2 hb2 hg2; have HO2 := Lib.hid ho2; have HB2' := Lib.hid hb2; have c1 := hg2.cell (cell_alloc c0 _) (HOWB.out _ _ _ _ _ _ HOWN.out c0); have zc1 := World.block_lt_of_cell? _ _ c1; clear ho2 hb2 hg2)
            go_roundw
            case rel => exact ⟨k + 1, by omega, by go_num, by rw [HZS.out, if_pos rfl, HPW.out]; go_num, by rw [HTK.out, ints_append]; exact HO2.out, HB2'.out⟩
            case measure => simp [intOf]; omega
          · have hy1 : (y == 0) = false := by simpa using hy0
            go_wp2_with (at_builtin; refine app1 el_int rfl rfl (w0 := wo) (W := wr) (v := u12) (n := k) (xs := ints (S.take k)) (u := .int .i64 y) rfl rfl HBL.out HOWN.out rfl (by omega) ?_; intro v2 w2 ho2 hb2 hg2; have HO2 := Lib.hid ho2; have HB2' := Lib.hid hb2; have c1 := hg2.cell (cell_alloc c0 _) (HOWB.out _ _ _ _ _ _ HOWN.out c0); have zc1 := World.block_lt_of_cell? _ _ c1; clear ho2 hb2 hg2)
            go_roundw
            case rel => exact ⟨k + 1, by omega, by go_num, by rw [HZS.out, if_neg hy0, Nat.add_zero, HCC.out], by rw [HTK.out, ints_append]; exact HO2.out, HB2'.out⟩
            case measure => simp [intOf]; omega
        · obtain rfl : k = 6 := by omega
          have hk6' : decide (((6 : Nat) : Int) < 6) = false := by decide
          obtain ⟨g12, c12, rfl, _, _⟩ := own_some1 hown (by decide)
          have HL12 := Lib.hid (show Rd wr (.slice (some ⟨g12, 0, none⟩) 6 c12) (ints S) by have := Rd.own hown; rwa [show S.take 6 = S from List.take_of_length_le (by rw [HSL.out]; exact Nat.le_refl _)] at this)
          have HBL := Lib.hid hbel
          have HSB : Hid (stuckB S = true) := Lib.hid (by rw [← HS.out]; exact stuck_ok Z)
          have HTOT : Hid (sumW S (permsP 4) = 2 ^ zerosN st 6) := Lib.hid (by
            rw [← HST.out]
            exact tot_eq (st := fun i => S.getD i 0) (stuck_in HSB.out HSL.out))
          obtain ⟨al, hal⟩ : ∃ al, 2 ^ zerosN st 6 = al := ⟨_, rfl⟩
          rw [hal] at HTOT ⊢
          clear hown hbel hal
          go_wp2_with (go_at_call 40; refine (perms_any 4 (by decide) _).mono ?_; rintro e w5 ⟨⟨u5, rfl, vs, ho, hrows⟩, hb5⟩; rw [show (permsP 4).length = 24 from permsP_count 4] at ho; obtain ⟨g5, c5, rfl, _, _⟩ := own_some1 ho (by decide); have HO := Lib.hid ho; have HROW := Lib.hid hrows; have HB5 := Lib.hid hb5; clear ho hrows hb5)
          have HCELL : Hid (∀ (j : Nat) (x : Value), vs[j]? = some x → w5.cell? ⟨g5, j, none⟩ = some x) := Lib.hid fun j x hx => by
            obtain ⟨aa, cc, e, _, _, hca, _⟩ := Rd.own HO.out
            simp only [Value.slice.injEq] at e
            obtain ⟨rfl, _, rfl⟩ := e
            obtain ⟨b, off, e, hh⟩ := hca.cell (List.getElem?_eq_some_iff.1 hx).1
            cases e
            have := hh j x hx
            rwa [Nat.zero_add] at this
          have HL5 := Lib.hid (HL12.out.below HB5.out (Nat.le_refl _))
          have HPL : Hid ((permsP 4).length = 24) := Lib.hid (permsP_count 4)
          have HFF := Lib.hid (fun r hr => @four_facts S HSL.out HSB.out r hr)
          have HLO : Hid (lostN 4 S = lostK 1 S (permsP 4) ∧ lostE 4 S = 0) := Lib.hid (lost_four HSL.out HSB.out)
          obtain ⟨P, hP⟩ : ∃ P, permsP 4 = P := ⟨_, rfl⟩
          rw [hP] at HTOT HROW HPL HFF HLO
          clear hP
          obtain ⟨w2o, rfl⟩ : ∃ w2o, w2o = wr := ⟨_, rfl⟩
          go_loopw [15, 16, 18] (fun su no i wr => ∃ q : Nat, q ≤ 24 ∧ i = .int .i64 q ∧ su = .int .i64 (sumW S (P.take q) : Nat) ∧ no = .int .i64 (lostK 1 S (P.take q) : Nat) ∧ Below w5.heap.size w5 wr) (fun _ _ i _ => 24 - (intOf i).toNat)
          case atStart => exact ⟨0, by omega, rfl, by simp [sumW], by simp [lostK], Below.refl _ _⟩
          case round =>
            obtain ⟨q, hq, rfl, rfl, rfl, hbel⟩ := hrel
            by_cases hq24 : q < 24
            · have hq' : decide ((q : Int) < 24) = true := by simp; omega
              obtain ⟨r, hr⟩ : ∃ r, P[q]? = some r := ⟨_, List.getElem?_eq_getElem (by rw [HPL.out]; exact hq24)⟩
              obtain ⟨x, hx⟩ : ∃ x, vs[q]? = some x := ⟨_, List.getElem?_eq_getElem (by have := HO.out.1; rw [Nat.mul_one] at this; omega)⟩
              have hxo := HROW.out q x r hx hr
              obtain ⟨hf1, hf2, hf3, hf4, hf5⟩ := HFF.out r (List.mem_of_getElem? hr)
              rw [hf3] at hxo
              obtain ⟨ax, cx, rfl⟩ := own_form hxo
              have c0 := cell_below (HCELL.out q _ hx) hbel
              have zc := World.block_lt_of_cell? _ _ c0
              have HRX := Lib.hid ((Rd.own hxo).below hbel (Nat.le_refl _))
              have HRS := Lib.hid (HL5.out.below hbel (Nat.le_refl _))
              have HTK := Lib.hid (take_snoc hr)
              have hsb : sumW S (P.take q) ≤ 24 * 16777216 := Nat.le_trans (sumW_le S _) (Nat.mul_le_mul_right _ (by rw [List.length_take]; omega))
              have hlb : lostK 1 S (P.take q) ≤ 24 := Nat.le_trans (lostK_le 1 S _) (by rw [List.length_take]; omega)
              have HS1 := Lib.hid (sumW_snoc S (P.take q) r)
              have HS2 := Lib.hid (lostK_snoc 1 S (P.take q) r)
              obtain ⟨N, hN⟩ : ∃ N, waysR 1 r (fun i => S.getD i 0) = N := ⟨_, rfl⟩
              have hNb : N ≤ 16777216 := by rw [← hN]; exact Nat.le_trans (waysR_le 1 r _) (waysC_le (by decide))
              rw [hN] at HS1 HS2 hf5
              have HW := Lib.hid (Ways_any r S (.slice ax 4 cx) (.slice (some ⟨g12, 0, none⟩) 6 c12) wr (by rw [HSL.out]; decide) HRX.out HRS.out)
              rw [hf4, hf5] at HW
              have HAR := Lib.hid (fun W h1 h2 => Around_any r S (.slice ax 4 cx) (.slice (some ⟨g12, 0, none⟩) 6 c12) W (by rw [HSL.out]; decide) h1 h2)
              obtain ⟨su, hsu⟩ : ∃ su, sumW S (P.take q) = su := ⟨_, rfl⟩
              obtain ⟨no, hno⟩ : ∃ no, lostK 1 S (P.take q) = no := ⟨_, rfl⟩
              rw [hsu] at HS1 hsb ⊢
              rw [hno] at HS2 hlb ⊢
              have hw1 : IntKind.i64.wrap ((su : Int) + (N : Int)) = (su : Int) + (N : Int) := IntWalk.i64_in _ ⟨by omega, by omega⟩
              have hw2 : IntKind.i64.wrap ((no : Int) + 1) = (no : Int) + 1 := IntWalk.i64_in _ ⟨by omega, by omega⟩
              have HBE := Lib.hid hbel
              by_cases hN0 : N = 0
              · have HE : Hid (aroE r S = 5) := Lib.hid (by unfold aroE; rw [if_pos hf4, if_pos (by rw [hf5, hN0])])
                have HQN : Hid (∀ W0 W u, AroP r S W0 W u → u = .slice none 0 0) := Lib.hid fun W0 W u h => by unfold AroP at h; rwa [if_neg (fun h => h.2 (by rw [hf5, hN0]))] at h
                rw [HE.out] at HAR
                subst hN0
                clear hr hx hxo hf1 hf2 hf3 hf4 hf5 hN hsu hno hbel hNb
                go_wp2_with (first
                  | (go_at_call 31; refine HW.out.mono ?_; rintro e w6 ⟨rfl, hb6⟩; have HB6 := Lib.hid hb6; have c1 := cell_below c0 hb6; have zc1 := World.block_lt_of_cell? _ _ c1; clear hb6)
                  | (go_at_call 35; refine (HAR.out _ (HRX.out.below HB6.out (Nat.le_refl _)) (HRS.out.below HB6.out (Nat.le_refl _))).mono ?_; rintro e w7 ⟨⟨u7, rfl, hu7⟩, hb7⟩; obtain rfl := HQN.out _ _ _ hu7; have HB7 := Lib.hid (HB6.out.trans (hb7.mono HB6.out.size)); clear hb7))
                go_roundw
                case rel => exact ⟨q + 1, by omega, by go_num, by rw [HTK.out, HS1.out]; go_num, by rw [HTK.out, HS2.out, if_pos trivial]; go_num, HBE.out.trans (HB7.out.mono HBE.out.size)⟩
                case measure => simp [intOf]; omega
              · have HE : Hid (aroE r S = 0) := Lib.hid (by unfold aroE; rw [if_pos hf4, if_neg (by rw [hf5]; exact hN0)])
                have HQS : Hid (∀ W0 W u, AroP r S W0 W u → ∃ l ua uc, u = .slice ua l.length uc ∧ Rd W u (bools l) ∧ sndE r l = 0 ∧ sndB r l = true ∧ l.length = S.length ∧ ∀ i, i < l.length → mayB (S.getD i 0) (l.getD i false) = true) := Lib.hid fun W0 W u h => by
                  unfold AroP at h
                  rw [if_pos ⟨hf4, by rw [hf5]; exact hN0⟩] at h
                  obtain ⟨l, h1, h2, h3, h4⟩ := h
                  obtain ⟨h5, h6⟩ := sends_ok hf1 h2 h3
                  rw [← h2] at h1
                  obtain ⟨ua, uc, e⟩ := own_form h1
                  exact ⟨l, ua, uc, e, Rd.own h1, h5, h6, by rw [h2, hf2, HSL.out]; rfl, fun i hi => h4 i (by omega)⟩
                rw [HE.out] at HAR
                have hN1 : ((N : Int) == 0) = false := by rw [beq_eq_false_iff_ne]; omega
                have hN2 : decide ((N : Int) < 0) = false := by simp
                clear hr hx hxo hf1 hf2 hf3 hf4 hf5 hN hsu hno hbel hNb
                go_wp2_with (first
                  | (go_at_call 31; refine HW.out.mono ?_; rintro e w6 ⟨rfl, hb6⟩; have HB6 := Lib.hid hb6; have c1 := cell_below c0 hb6; have zc1 := World.block_lt_of_cell? _ _ c1; clear hb6)
                  | (go_at_call 35; refine (HAR.out _ (HRX.out.below HB6.out (Nat.le_refl _)) (HRS.out.below HB6.out (Nat.le_refl _))).mono ?_; rintro e w7 ⟨⟨u7, rfl, hu7⟩, hb7⟩; obtain ⟨l7, ua7, uc7, rfl, hr7, hq1, hq2, hq3, hq4⟩ := HQS.out _ _ _ hu7; have HR7 := Lib.hid hr7; have HY1 := Lib.hid hq1; have HY2 := Lib.hid hq2; have HY3 := Lib.hid hq3; have HY4 := Lib.hid hq4; have HB7 := Lib.hid (HB6.out.trans (hb7.mono HB6.out.size)); have c7 := cell_below c0 HB7.out; have zc7 := World.block_lt_of_cell? _ _ c7; clear hb7 hr7 hq1 hq2 hq3 hq4 hu7)
                  | (go_at_call 25; refine (Sends_any r l7 _ _ _ (HRX.out.below HB7.out (Nat.le_refl _)) HR7.out).mono ?_; rw [HY1.out, HY2.out]; rintro e w8 ⟨rfl, hb8⟩; have HB8 := Lib.hid hb8; clear hb8)
                  | (go_at_call 36; refine (refFits_ok l7 S _ _ _ HY3.out HY4.out (by rw [HSL.out]; decide) (HR7.out.below HB8.out (Nat.le_refl _)) (HRS.out.below (HB7.out.trans (HB8.out.mono HB7.out.size)) (Nat.le_refl _))).mono ?_; rintro e w9 ⟨rfl, hb9⟩; have HB9 := Lib.hid hb9; clear hb9))
                go_roundw
                case rel =>
                  have hB79 := HB7.out.trans ((HB8.out.trans (HB9.out.mono HB8.out.size)).mono HB7.out.size)
                  exact ⟨q + 1, by omega, by go_num, by rw [HTK.out, HS1.out]; go_num, by rw [HTK.out, HS2.out, if_neg hN0, Nat.add_zero], HBE.out.trans (hB79.mono HBE.out.size)⟩
                case measure => simp [intOf]; omega
            · obtain rfl : q = 24 := by omega
              have hq' : decide (((24 : Nat) : Int) < 24) = false := by decide
              have hT : P.take 24 = P := List.take_of_length_le (by rw [HPL.out]; exact Nat.le_refl _)
              rw [hT, HTOT.out]
              have HLL := Lib.hid (fun W hr => Lost_any 4 S (.slice (some ⟨g12, 0, none⟩) 6 c12) W (by rw [HSL.out]; decide) hr)
              rw [HLO.out.1, HLO.out.2] at HLL
              obtain ⟨no, hno⟩ : ∃ no, lostK 1 S P = no := ⟨_, rfl⟩
              rw [hno] at HLL ⊢
              have HBE := Lib.hid hbel
              clear hT hno hbel
              go_wp2_with (first
                | (go_at_call 37; refine (HLL.out _ (HL5.out.below HBE.out (Nat.le_refl _))).mono ?_; rintro e w6 ⟨rfl, hb6⟩; have HB6 := Lib.hid hb6; clear hb6)
                | (go_at_call 39; refine (straight_any _).mono ?_; rintro e w7 ⟨rfl, hb7⟩; have HB7 := Lib.hid hb7; clear hb7))
              go_ret
              have d1 := HBW0.out.trans (HB04.out.mono HBW0.out.size)
              have d2 := d1.trans (HBO.out.mono d1.size)
              have d3 := d2.trans (HBL.out.mono d2.size)
              have d4 := d3.trans (HB5.out.mono d3.size)
              have d5 := d4.trans (HBE.out.mono d4.size)
              have d6 := d5.trans (HB6.out.mono d5.size)
              exact ⟨rfl, d6.trans (HB7.out.mono d6.size)⟩

set_option maxRecDepth 100000 in
set_option maxHeartbeats 1000000 in
theorem law_networks (v : Value) (p : List Int) (z0 z1 z2 z3 z4 z5 : Int) (w : World) (hv : Rd w v (ints p)) (_ : ∀ x ∈ p, (Lit.int .i64 x).wf = true)
    (h0 : (Lit.int .u8 z0).wf = true) (h1 : (Lit.int .u8 z1).wf = true) (h2 : (Lit.int .u8 z2).wf = true) (h3 : (Lit.int .u8 z3).wf = true) (h4 : (Lit.int .u8 z4).wf = true) (h5 : (Lit.int .u8 z5).wf = true) :
    Calls Try.prog 14 #[v, .agg #[.int .u8 z0, .int .u8 z1, .int .u8 z2, .int .u8 z3, .int .u8 z4, .int .u8 z5]] w fun e w' => e = .returned (.bool true) ∧ Below w.heap.size w w' := by
  have hb : ∀ z : Int, (Lit.int .u8 z).wf = true → 0 ≤ z ∧ z < 256 := fun z h => by
    simp [Lit.wf] at h
    have e1 : IntKind.u8.min = 0 := by decide
    have e2 : IntKind.u8.max = 255 := by decide
    omega
  by_cases hl : p.length ≤ 16
  · cases hp : permB p with
    | true =>
      refine networks_ok p v z0 z1 z2 z3 z4 z5 [z0, z1, z2, z3, z4, z5] rfl (fun z hz => ?_) w hv hl hp
      simp only [List.mem_cons, List.not_mem_nil, or_false] at hz
      rcases hz with rfl | rfl | rfl | rfl | rfl | rfl
      · exact hb _ h0
      · exact hb _ h1
      · exact hb _ h2
      · exact hb _ h3
      · exact hb _ h4
      · exact hb _ h5
    | false =>
      have HV := Lib.hid hv
      obtain ⟨a, cap, rfl, hc, hcm, _, _⟩ := hv
      rw [ints_length] at *
      have hl2 : decide ((16 : Int) < (p.length : Int)) = false := by simp; omega
      have hb0 : Below w.heap.size w (w.alloc (.cells #[.int .u8 z0, .int .u8 z1, .int .u8 z2, .int .u8 z3, .int .u8 z4, .int .u8 z5] 49)) := (Below.refl _ _).alloc (Nat.le_refl _) _
      have HSET := Lib.hid (Settings_any p (.slice a p.length cap) _ (HV.out.below hb0 (Nat.le_refl _)))
      have HIP := Lib.hid (fun W (hr : Rd W (.slice a p.length cap) (ints p)) => isPerm_any p (.slice a p.length cap) W hr)
      rw [hp] at HSET HIP
      have HQ : Hid (∀ W0 W u, SetP p W0 W u → u = .slice none 0 0) := Lib.hid fun W0 W u h => by unfold SetP at h; rw [hp] at h; exact h
      have HB0 := Lib.hid hb0
      clear hl hp hb0 h0 h1 h2 h3 h4 h5 hb
      go_enter Try.func14, Try.ntmps14
      go_wp2_with (first
        | (go_at_call 34; refine HSET.out.mono ?_; rintro e w1 ⟨⟨u, rfl, hu⟩, hb1⟩; obtain rfl := HQ.out _ _ _ hu; have HB1 := Lib.hid (HB0.out.trans (hb1.mono HB0.out.size)); clear hb1)
        | (go_at_call 30; refine (HIP.out _ (HV.out.below HB1.out (Nat.le_refl _))).mono ?_; rintro e w2 ⟨rfl, hb2⟩; have HB2 := Lib.hid (HB1.out.trans (hb2.mono HB1.out.size)); clear hb2)
        | (go_at_call 39; refine (straight_any _).mono ?_; rintro e w3 ⟨rfl, hb3⟩))
      go_ret
      exact ⟨rfl, HB2.out.trans (hb3.mono HB2.out.size)⟩
  · have HV := Lib.hid hv
    obtain ⟨a, cap, rfl, hc, hcm, _, _⟩ := hv
    rw [ints_length] at *
    have hl2 : decide ((16 : Int) < (p.length : Int)) = true := by simp; omega
    have hb0 : Below w.heap.size w (w.alloc (.cells #[.int .u8 z0, .int .u8 z1, .int .u8 z2, .int .u8 z3, .int .u8 z4, .int .u8 z5] 49)) := (Below.refl _ _).alloc (Nat.le_refl _) _
    have HB0 := Lib.hid hb0
    clear hl hb0 h0 h1 h2 h3 h4 h5 hb
    go_enter Try.func14, Try.ntmps14
    go_wp2_with (go_at_call 39; refine (straight_any _).mono ?_; rintro e w3 ⟨rfl, hb3⟩)
    go_ret
    exact ⟨rfl, HB0.out.trans (hb3.mono HB0.out.size)⟩
end Go.Proofs.Ytelnlmhelkcliaa

/- Benes: the reference's halves, walked. -/
import Derived.Test.YtelnlmhelkcliaaBWk1
namespace Go.Proofs.Ytelnlmhelkcliaa
open Go.RowKit Go.Shelf

theorem may_quiet (x : Int) (b : Bool) (W : World) : Calls Try.prog 59 #[.int .i64 x, .bool b] W fun e w' => e = .returned (.bool (mayB x b)) ∧ w' = W := (may_any x b W).mono fun _ _ ⟨h1, h2⟩ => ⟨h1, h2.symm⟩
/-- the sides from which the outputs get their light, when k inputs are through -/
def fromK (p : List Int) (s : Nat → Bool) (m k : Nat) : List Int := (List.range (2 * m)).map fun x => if rhoL p x < k then bI (sideB s (rhoL p x)) else 0
theorem fromK_len (p : List Int) (s : Nat → Bool) (m k : Nat) : (fromK p s m k).length = 2 * m := by simp [fromK]
theorem fromK_zero (p : List Int) (s : Nat → Bool) (m : Nat) : fromK p s m 0 = List.replicate (2 * m) 0 := by
  unfold fromK
  apply List.ext_getElem
  · simp
  · intro j h1 h2; simp
theorem fromK_step {p : List Int} (hp : PermP p) {m : Nat} (hl : p.length = 2 * m) (s : Nat → Bool) {k : Nat} (hk : k < 2 * m) : fromK p s m (k + 1) = (fromK p s m k).set (piL p k) (bI (sideB s k)) := by
  have hP := permN_of hp hl
  unfold fromK
  apply List.ext_getElem
  · simp
  · intro x h1 h2
    have hx : x < 2 * m := by simpa using h1
    simp only [List.getElem_map, List.getElem_range, List.getElem_set]
    by_cases e : piL p k = x
    · have hr : rhoL p x = k := by rw [← e]; exact hP.i1 k hk
      rw [if_pos e, hr, if_pos (by omega)]
    · have hr : rhoL p x ≠ k := fun h => e (by rw [← h]; exact hP.i2 x hx)
      rw [if_neg e]
      by_cases hlt : rhoL p x < k
      · rw [if_pos (by omega), if_pos hlt]
      · rw [if_neg (by omega), if_neg hlt]
theorem fromK_at {p : List Int} (hp : PermP p) {m : Nat} (hl : p.length = 2 * m) (s : Nat → Bool) {x : Nat} (hx : x < 2 * m) : (fromK p s m (2 * m)).getD x 0 = bI (sideB s (rhoL p x)) := by
  have hr := (permN_of hp hl).rlt x hx
  simp [fromK, hx, hr]
def okA (st : Nat → Int) (s : Nat → Bool) (k : Nat) : Bool := (List.range k).all fun j => mayB (st j) (s j)
def okB (p : List Int) (st : Nat → Int) (m : Nat) (s : Nat → Bool) (k : Nat) : Bool := (List.range k).all fun j => (sideB s (rhoL p (2 * j)) != sideB s (rhoL p (2 * j + 1))) && mayB (st (m + j)) (sideB s (rhoL p (2 * j)))
theorem okA_succ (st : Nat → Int) (s : Nat → Bool) (k : Nat) : okA st s (k + 1) = (okA st s k && mayB (st k) (s k)) := by unfold okA; rw [List.range_succ, List.all_append]; simp
theorem okB_succ (p : List Int) (st : Nat → Int) (m : Nat) (s : Nat → Bool) (k : Nat) : okB p st m s (k + 1) = (okB p st m s k && ((sideB s (rhoL p (2 * k)) != sideB s (rhoL p (2 * k + 1))) && mayB (st (m + k)) (sideB s (rhoL p (2 * k))))) := by unfold okB; rw [List.range_succ, List.all_append]; simp
theorem okA_no {st : Nat → Int} {s : Nat → Bool} {k m : Nat} (hk : k < m) (h : mayB (st k) (s k) = false) : okA st s m = false := by
  unfold okA; rw [List.all_eq_false]; exact ⟨k, List.mem_range.2 hk, by rw [h]; decide⟩
theorem okB_no {p : List Int} {st : Nat → Int} {m : Nat} {s : Nat → Bool} {k : Nat} (hk : k < m) (h : ((sideB s (rhoL p (2 * k)) != sideB s (rhoL p (2 * k + 1))) && mayB (st (m + k)) (sideB s (rhoL p (2 * k)))) = false) : okB p st m s m = false := by
  unfold okB; rw [List.all_eq_false]; exact ⟨k, List.mem_range.2 hk, by rw [h]; decide⟩
theorem okR_ab (p : List Int) (st : Nat → Int) (m : Nat) (s : Nat → Bool) : okR p st m s = (okA st s m && okB p st m s m) := rfl

/-- the two rows of ints behind the region -/
def Hv0 (w0 w : World) (m bu bl : Nat) : Prop := (w0.heap.size ≤ bu ∧ w0.heap.size ≤ bl ∧ bu ≠ bl) ∧ w.ownsRow w0.heap.size 3 1 (.slice (some ⟨bu, 0, none⟩) m m) m (ints (List.replicate m 0)) ∧ w.ownsRow w0.heap.size 3 1 (.slice (some ⟨bl, 0, none⟩) m m) m (ints (List.replicate m 0)) ∧ Below w0.heap.size w0 w
theorem hv0_a {m : Nat} {Z : Array Value} (HZ : ∀ W : World, (W.alloc (.cells Z 3)).ownsRow W.heap.size 3 1 (.slice (some ⟨W.heap.size, 0, none⟩) m m) m (ints (List.replicate m 0))) (w : World) : Hv0 w ((w.alloc (.cells Z 3)).alloc (.cells Z 3)).drew m w.heap.size (w.heap.size + 1) := by
  have e1 : (w.alloc (.cells Z 3)).heap.size = w.heap.size + 1 := by simp
  have hu := own_below (own_below (HZ w) ((Below.refl _ _).alloc (Nat.le_refl _) (.cells Z 3))) (Below.refl _ _).drew
  have hl := HZ (w.alloc (.cells Z 3))
  rw [e1] at hl
  exact ⟨by omega, hu, own_le (own_below hl (Below.refl _ _).drew) (by omega), (((Below.refl _ _).alloc (Nat.le_refl _) _).alloc (by simp) _).drew⟩
theorem hv0_b {m : Nat} {Z : Array Value} (HZ : ∀ W : World, (W.alloc (.cells Z 3)).ownsRow W.heap.size 3 1 (.slice (some ⟨W.heap.size, 0, none⟩) m m) m (ints (List.replicate m 0))) (w : World) : Hv0 w ((w.alloc (.cells Z 3)).alloc (.cells Z 3)).drew m (w.heap.size + 1) w.heap.size := by
  obtain ⟨⟨h1, h2, h3⟩, h4, h5, h6⟩ := hv0_a HZ w
  exact ⟨⟨h2, h1, h3.symm⟩, h5, h4, h6⟩
/-- the three rows when k inputs are through -/
structure Hv (w0 w : World) (m bu bl bf : Nat) (p : List Int) (s : Nat → Bool) (k : Nat) : Prop where
  ge : w0.heap.size ≤ bu ∧ w0.heap.size ≤ bl ∧ w0.heap.size ≤ bf
  ne : bu ≠ bl ∧ bu ≠ bf ∧ bl ≠ bf
  up : w.ownsRow w0.heap.size 3 1 (.slice (some ⟨bu, 0, none⟩) m m) m (ints (halfK p s false m k))
  low : w.ownsRow w0.heap.size 3 1 (.slice (some ⟨bl, 0, none⟩) m m) m (ints (halfK p s true m k))
  fr : w.ownsRow w0.heap.size 3 1 (.slice (some ⟨bf, 0, none⟩) (2 * m) (2 * m)) (2 * m) (ints (fromK p s m k))
  bel : Below w0.heap.size w0 w
theorem Hv.start {w0 w w' : World} {m bu bl : Nat} (h : Hv0 w0 w m bu bl) (p : List Int) (s : Nat → Bool) (hb : Below w.heap.size w w') (hf : w'.ownsRow w.heap.size 3 1 (.slice (some ⟨w.heap.size, 0, none⟩) (2 * m) (2 * m)) (2 * m) (ints (List.replicate (2 * m) 0))) : Hv w0 w' m bu bl w.heap.size p s 0 := by
  obtain ⟨⟨h1, h2, h3⟩, h4, h5, h6⟩ := h
  have l1 := (h4.lt bu rfl).2
  have l2 := (h5.lt bl rfl).2
  have z := h6.size
  exact ⟨by omega, by omega, by rw [halfK_zero]; exact own_below h4 hb, by rw [halfK_zero]; exact own_below h5 hb, by rw [fromK_zero]; exact own_le hf z, h6.trans (hb.mono z)⟩
theorem Hv.step0 {w0 w : World} {m bu bl bf k : Nat} {p : List Int} {s : Nat → Bool} (h : Hv w0 w m bu bl bf p s k) (hp : PermP p) (hl : p.length = 2 * m) (hk : k < 2 * m) (hs : sideB s k = false) :
    Hv w0 ((w.setCell ⟨bf, piL p k, none⟩ (.int .i64 0)).setCell ⟨bu, k / 2, none⟩ (.int .i64 ((piL p k / 2 : Nat) : Int))) m bu bl bf p s (k + 1) := by
  obtain ⟨a1, a2⟩ := h.fr.stored (piL p k) (.int .i64 0)
  have u1 := h.up.kept a2 (.inr fun e => h.ne.2.1 (Option.some.inj e))
  have l1 := h.low.kept a2 (.inr fun e => h.ne.2.2 (Option.some.inj e))
  obtain ⟨b1, b2⟩ := u1.stored (k / 2) (.int .i64 ((piL p k / 2 : Nat) : Int))
  refine ⟨h.ge, h.ne, ?_, ?_, ?_, (h.bel.setCell (p := ⟨bf, piL p k, none⟩) h.ge.2.2 _).setCell (p := ⟨bu, k / 2, none⟩) h.ge.1 _⟩
  · rw [halfK_hit hs, ← ints_set]; exact b1
  · rw [halfK_miss (by rw [hs]; decide)]; exact l1.kept b2 (.inr fun e => h.ne.1 (Option.some.inj e).symm)
  · rw [fromK_step hp hl s hk, hs, ← ints_set]; exact a1.kept b2 (.inr fun e => h.ne.2.1 (Option.some.inj e).symm)
theorem Hv.step1 {w0 w : World} {m bu bl bf k : Nat} {p : List Int} {s : Nat → Bool} (h : Hv w0 w m bu bl bf p s k) (hp : PermP p) (hl : p.length = 2 * m) (hk : k < 2 * m) (hs : sideB s k = true) :
    Hv w0 ((w.setCell ⟨bf, piL p k, none⟩ (.int .i64 1)).setCell ⟨bl, k / 2, none⟩ (.int .i64 ((piL p k / 2 : Nat) : Int))) m bu bl bf p s (k + 1) := by
  obtain ⟨a1, a2⟩ := h.fr.stored (piL p k) (.int .i64 1)
  have u1 := h.up.kept a2 (.inr fun e => h.ne.2.1 (Option.some.inj e))
  have l1 := h.low.kept a2 (.inr fun e => h.ne.2.2 (Option.some.inj e))
  obtain ⟨b1, b2⟩ := l1.stored (k / 2) (.int .i64 ((piL p k / 2 : Nat) : Int))
  refine ⟨h.ge, h.ne, ?_, ?_, ?_, (h.bel.setCell (p := ⟨bf, piL p k, none⟩) h.ge.2.2 _).setCell (p := ⟨bl, k / 2, none⟩) h.ge.2.1 _⟩
  · rw [halfK_miss (by rw [hs]; decide)]; exact u1.kept b2 (.inr fun e => h.ne.1 (Option.some.inj e))
  · rw [halfK_hit hs, ← ints_set]; exact b1
  · rw [fromK_step hp hl s hk, hs, ← ints_set]; exact a1.kept b2 (.inr fun e => h.ne.2.2 (Option.some.inj e).symm)
theorem Hv.rows {w0 w : World} {m bu bl bf k : Nat} {p : List Int} {s : Nat → Bool} (h : Hv w0 w m bu bl bf p s k) {j x : Nat} (hj : j < m) (hx : x < 2 * m) :
    (∃ v, w.cell? ⟨bu, j, none⟩ = some v) ∧ w.frozen? ⟨bu, j, none⟩ = false ∧ (∃ v, w.cell? ⟨bl, j, none⟩ = some v) ∧ w.frozen? ⟨bl, j, none⟩ = false ∧ (∃ v, w.cell? ⟨bf, x, none⟩ = some v) ∧ w.frozen? ⟨bf, x, none⟩ = false := by
  have e1 := h.up.cellAt j (by omega)
  have e2 := h.low.cellAt j (by omega)
  have e3 := h.fr.cellAt x (by omega)
  rw [ints_getD (by rw [halfK_len]; exact hj)] at e1 e2
  rw [ints_getD (by rw [fromK_len]; exact hx)] at e3
  exact ⟨⟨_, e1⟩, h.up.frozenAt j, ⟨_, e2⟩, h.low.frozenAt j, ⟨_, e3⟩, h.fr.frozenAt x⟩

set_option maxRecDepth 100000 in
set_option maxHeartbeats 4000000 in
theorem halves_any {p : List Int} (hp : PermP p) {m : Nat} (hl : p.length = 2 * m) (hm : m ≤ 8) (hm0 : 0 < m) (S : List Int) (base first : Nat) (st : Nat → Int) (v sv : Value) (w : World) (hv : Rd w v (ints p)) (hs : Rd w sv (ints S)) (hf : first < 256) (hb : base + 2 * m ≤ S.length) (hS : S.length ≤ 1000) (hst : ∀ i, i < 2 * m → S.getD (base + i) 0 = st i) :
    Calls Try.prog 70 #[v, sv, .int .i64 base, .int .i64 first] w fun e w' => (∃ x y, e = .returned (.tuple #[x, y, .bool (okR p st m fun j => first.testBit j)]) ∧ (okR p st m (fun j => first.testBit j) = true → w'.ownsRow w.heap.size 3 1 x m (ints (upL p (fun j => first.testBit j) m)) ∧ w'.ownsRow w.heap.size 3 1 y m (ints (lowL p (fun j => first.testBit j) m)))) ∧ Below w.heap.size w w' := by
  rw [okR_ab]
  obtain ⟨s, hss⟩ : ∃ s : Nat → Bool, (fun j => first.testBit j) = s := ⟨_, rfl⟩
  have HSS : Hid (∀ j, first.testBit j = s j) := Lib.hid fun j => congrFun hss j
  rw [hss]
  have HSB : Hid (∀ j, j < 8 → (bits .and .i64 ((first : Int) / 2 ^ j) 1 == 1) = s j) := Lib.hid fun j hj => by rw [bit_shr hf hj, ← hss]
  have HNA := Lib.hid (fun k (hk : k < m) => @okA_no st s k m hk)
  have HNB := Lib.hid (fun k (hk : k < m) => @okB_no p st m s k hk)
  have HSA := Lib.hid (okA_succ st s)
  have HSBB := Lib.hid (okB_succ p st m s)
  obtain ⟨OA, hOA⟩ : ∃ b, okA st s m = b := ⟨_, rfl⟩
  obtain ⟨OB, hOB⟩ : ∃ b, okB p st m s m = b := ⟨_, rfl⟩
  have HOA := Lib.hid hOA
  have HOB := Lib.hid hOB
  rw [hOA] at HNA ⊢
  rw [hOB] at HNB ⊢
  obtain ⟨a, cap, rfl, hc, hcm, ha, _⟩ := hv
  obtain ⟨a2, cap2, rfl, hc2, _, ha2, _⟩ := hs
  rw [ints_length, hl] at hc
  rw [ints_length] at hc2
  rw [ints_length, ints_length, hl]
  obtain ⟨n2, hn2⟩ : ∃ n2, S.length = n2 := ⟨_, rfl⟩
  have HA := Lib.hid ha
  have HA2 := Lib.hid ha2
  have HST := Lib.hid hst
  have HPP := Lib.hid hp
  have HPL := Lib.hid hl
  have HS2 := Lib.hid hn2
  rw [hn2] at hb hS hc2 ⊢
  have hq : IntKind.i64.wrap ((2 * (m : Int)).tdiv 2) = m := by rw [IntWalk.i64_quo _ _ (by omega)]; omega
  have HQ := Lib.hid hq
  clear hss hOA hOB ha ha2 hst hp hl hn2
  go_enter Try.func70, Try.ntmps70
  go_wp2_with fail
  go_loopw [12] (fun q wr => ∃ k : Nat, k ≤ m ∧ q = .int .i64 k ∧ Hid (okA st s k = true) ∧ Hid (Below w.heap.size w wr)) (fun q _ => m - (intOf q).toNat)
  case atStart => exact ⟨0, by omega, rfl, Lib.hid rfl, Lib.hid (Below.refl _ _)⟩
  case round =>
    obtain ⟨k, hk, rfl, HK, HB⟩ := hrel
    by_cases hkm : k < m
    · have hkm' : (k : Int) < (m : Int) := by omega
      obtain ⟨bk, hbk⟩ : ∃ bk, base + k = bk := ⟨_, rfl⟩
      have hw1 : IntKind.i64.wrap ((base : Int) + (k : Int)) = (bk : Int) := by rw [show (base : Int) + (k : Int) = (bk : Int) by omega]; exact IntWalk.i64_in _ (by omega)
      have hlt : bk < n2 := by omega
      obtain ⟨b, off, rfl, hcell⟩ := (HA2.out.below HB.out (Nat.le_refl _)).cell (j := bk) (by rw [ints_length, HS2.out]; exact hlt)
      have c0 := hcell bk _ (ints_getD (by rw [HS2.out]; exact hlt))
      rw [← hbk, HST.out k (by omega), hbk] at c0
      have hsb := HSB.out k (by omega)
      obtain ⟨t, ht⟩ : ∃ t, s k = t := ⟨_, rfl⟩
      obtain ⟨x, hx⟩ : ∃ x, st k = x := ⟨_, rfl⟩
      rw [ht] at hsb
      rw [hx] at c0
      have hN := Lib.hid (HNA.out k hkm)
      have hA1 := Lib.hid (HSA.out k)
      rw [ht, hx] at hN hA1
      have HMY := Lib.hid (fun n => may_quiet x t (wr.drewN n))
      obtain ⟨mb, hmb⟩ : ∃ mb, mayB x t = mb := ⟨_, rfl⟩
      rw [hmb] at HMY hN hA1
      have hlb := World.block_lt_of_cell? _ _ c0
      clear hcell ht hx hmb hbk
      go_wp2_with fail
      go_quiet (first | (go_at_call 59; refine Calls.quiet_of_same (HMY.out _)))
      cases mb with
      | true =>
        go_wp2_with fail
        go_roundw
        case rel => exact ⟨k + 1, by omega, by go_num, Lib.hid (by rw [hA1.out, HK.out]; rfl), Lib.hid (bel_drewN HB.out _)⟩
        case measure => simp [intOf]; omega
      | false =>
        have HOF : Hid (OA = false) := Lib.hid (hN.out rfl)
        go_wp2_with fail
        refine bodyPost_ret (results_tmp3 rfl _ _ _) rfl ?_
        exact ⟨⟨_, _, by rw [HOF.out]; rfl, fun e => by rw [HOF.out] at e; cases e⟩, bel_drewN HB.out _⟩
    · obtain rfl : m = k := by omega
      have hOA : OA = true := HOA.out.symm.trans HK.out
      subst hOA
      clear HNA HSA
      obtain ⟨wo, rfl⟩ : ∃ wo, wo = wr := ⟨_, rfl⟩
      obtain ⟨Z, hZ, HZO⟩ := makeI_run m (by omega)
      obtain ⟨Z2, hZ2, HZO2⟩ := makeI_run (2 * m) (by omega)
      have HZ := Lib.hid HZO
      have HZ2 := Lib.hid HZO2
      have hq2 : IntKind.i64.wrap (m : Int) = (m : Int) := IntWalk.i64_in _ (by omega)
      have hq3 : ((m : Nat) : Int).toNat = m := by omega
      rw [show ((2 * m : Nat) : Int) = 2 * (m : Int) by push_cast; rfl] at hZ2
      clear HZO HZO2
      go_upto_region 7 with fail
      go_cut [13, 14] from 40 to 45 (fun x y wx => ∃ bu bl : Nat, x = .slice (some ⟨bu, 0, none⟩) m m ∧ y = .slice (some ⟨bl, 0, none⟩) m m ∧ Hid (Hv0 wo wx m bu bl))
      case first =>
        go_region_held3 (fun w' => Hid (Below wo.heap.size wo w'))
          (first | exact Lib.hid (Below.refl _ _).drew | exact Lib.hid ((Below.refl _ _).alloc (Nat.le_refl _) _).drew | exact Lib.hid (((Below.refl _ _).alloc (Nat.le_refl _) _).alloc (by simp) _).drew)
          (fail)
        all_goals go_wp2_with fail
        all_goals (
          go_meet
          first
            | (refine ⟨wo.heap.size, wo.heap.size + 1, rfl, rfl, Lib.hid ?_⟩; with_reducible exact hv0_a HZ.out _)
            | (refine ⟨wo.heap.size + 1, wo.heap.size, rfl, rfl, Lib.hid ?_⟩; with_reducible exact hv0_b HZ.out _))
      case rest =>
        obtain ⟨bu, bl, rfl, rfl, H0⟩ := hcut
        obtain ⟨w1, rfl⟩ : ∃ w1, w1 = wc := ⟨_, rfl⟩
        have HV0 := Lib.hid (Hv.start H0.out p s ((Below.refl _ _).alloc (Nat.le_refl _) _) (HZ2.out w1))
        clear hZ HZ hq
        go_wp2_with fail
        clear hZ2 HZ2
        go_loopw [16] (fun q wr => ∃ k : Nat, k ≤ 2 * m ∧ q = .int .i64 k ∧ Hid (Hv wo wr m bu bl w1.heap.size p s k)) (fun q _ => 2 * m - (intOf q).toNat)
        case atStart => exact ⟨0, by omega, rfl, HV0⟩
        case round =>
          obtain ⟨k, hk, rfl, HV⟩ := hrel
          by_cases hkn : k < 2 * m
          · have hkn' : (k : Int) < 2 * (m : Int) := by omega
            have hkm : k / 2 < m := by omega
            have HBr := Lib.hid (HB.out.trans (HV.out.bel.mono HB.out.size))
            obtain ⟨b, off, rfl, hcell⟩ := HA.out.cell (j := k) (by rw [ints_length, HPL.out]; exact hkn)
            have c0 := hcell k _ (ints_getD (by rw [HPL.out]; exact hkn))
            have hlw := World.block_lt_of_cell? _ _ c0
            replace c0 := cell_below c0 HBr.out
            have hPE := piL_eq HPP.out (k := k) (by rw [HPL.out]; exact hkn)
            rw [hPE.1] at c0
            have hpo : piL p k < 2 * m := by have := hPE.2; rwa [HPL.out] at this
            obtain ⟨⟨x1, r1⟩, r2, ⟨x3, r3⟩, r4, ⟨x5, r5⟩, r6⟩ := HV.out.rows hkm hpo
            have hz0 := HB.out.size
            have hz1 := HV.out.ge
            have hz2 := HV.out.ne
            have hne1 : b ≠ w1.heap.size := by dsimp only at hlw; omega
            have hne2 : w1.heap.size ≠ b := hne1.symm
            have hne3 : bu ≠ w1.heap.size := hz2.2.1
            have hne4 : w1.heap.size ≠ bu := hz2.2.1.symm
            have hne5 : bl ≠ w1.heap.size := hz2.2.2
            have hne6 : w1.heap.size ≠ bl := hz2.2.2.symm
            obtain ⟨o, ho⟩ : ∃ o, piL p k = o := ⟨_, rfl⟩
            rw [ho] at c0 r5 r6 hpo
            have HO := Lib.hid ho
            have hsb := HSB.out (k / 2) (by omega)
            obtain ⟨t, ht⟩ : ∃ t, s (k / 2) = t := ⟨_, rfl⟩
            rw [ht] at hsb
            have HT := Lib.hid ht
            have hf1 := halfs (k := k) (by omega)
            have hf2 := halfs (k := o) (by omega)
            have hlb := World.block_lt_of_cell? _ _ c0
            have HS0 := Lib.hid (fun h => HV.out.step0 HPP.out HPL.out hkn h)
            have HS1 := Lib.hid (fun h => HV.out.step1 HPP.out HPL.out hkn h)
            rw [ho] at HS0 HS1
            clear hcell hPE ho ht hz0 hz1 hz2 hlw
            obtain ⟨od, hod⟩ : ∃ od, oddB k = od := ⟨_, rfl⟩
            have HSD : Hid (sideB s k = (od ^^ t)) := Lib.hid (by unfold sideB; rw [hod, HT.out])
            have hpar : (k : Int) % 2 = bI od := by
              rcases even_or (x := k) with ⟨h2, h3⟩ | ⟨h2, h3⟩
              · rw [← hod, h2]; show (k : Int) % 2 = 0; omega
              · rw [← hod, h2]; show (k : Int) % 2 = 1; omega
            clear hod
            cases od <;> cases t
            · rw [show bI false = 0 from rfl] at hpar
              have HNX := Lib.hid (HS0.out HSD.out)
              go_wp2_with fail
              go_roundw
              case rel => exact ⟨k + 1, by omega, by go_num, HNX⟩
              case measure => simp [intOf]; omega
            · rw [show bI false = 0 from rfl] at hpar
              have HNX := Lib.hid (HS1.out HSD.out)
              go_wp2_with fail
              go_roundw
              case rel => exact ⟨k + 1, by omega, by go_num, HNX⟩
              case measure => simp [intOf]; omega
            · rw [show bI true = 1 from rfl] at hpar
              have HNX := Lib.hid (HS1.out HSD.out)
              go_wp2_with fail
              go_roundw
              case rel => exact ⟨k + 1, by omega, by go_num, HNX⟩
              case measure => simp [intOf]; omega
            · rw [show bI true = 1 from rfl] at hpar
              have HNX := Lib.hid (HS0.out HSD.out)
              go_wp2_with fail
              go_roundw
              case rel => exact ⟨k + 1, by omega, by go_num, HNX⟩
              case measure => simp [intOf]; omega
          · have hkn' : ¬ ((k : Int) < 2 * (m : Int)) := by omega
            have HKK : Hid (k = 2 * m) := Lib.hid (by omega)
            rw [HKK.out] at HV
            obtain ⟨w3, rfl⟩ : ∃ w3, w3 = wr := ⟨_, rfl⟩
            have hq := HQ.out
            have HB3 := Lib.hid (HB.out.trans (HV.out.bel.mono HB.out.size))
            go_wp2_with fail
            go_loopw [18] (fun q wr => ∃ j : Nat, j ≤ m ∧ q = .int .i64 j ∧ Hid (okB p st m s j = true) ∧ Hid (Below w3.heap.size w3 wr)) (fun q _ => m - (intOf q).toNat)
            case atStart => exact ⟨0, by omega, rfl, Lib.hid rfl, Lib.hid (Below.refl _ _)⟩
            case round =>
              obtain ⟨j, hj, rfl, HJ, HW⟩ := hrel
              by_cases hjm : j < m
              · have hjm' : (j : Int) < (m : Int) := by omega
                have HB4 := Lib.hid (HB3.out.trans (HW.out.mono HB3.out.size))
                have hfr := own_below HV.out.fr HW.out
                have f0 := hfr.cellAt (2 * j) (by omega)
                have f1 := hfr.cellAt (2 * j + 1) (by omega)
                rw [ints_getD (by rw [fromK_len]; omega), fromK_at HPP.out HPL.out s (by omega)] at f0 f1
                obtain ⟨bm, hbm⟩ : ∃ bm, base + m = bm := ⟨_, rfl⟩
                obtain ⟨bj, hbj⟩ : ∃ bj, bm + j = bj := ⟨_, rfl⟩
                have hw1 : IntKind.i64.wrap ((base : Int) + (m : Int)) = (bm : Int) := by rw [show (base : Int) + (m : Int) = (bm : Int) by omega]; exact IntWalk.i64_in _ (by omega)
                have hw2 : IntKind.i64.wrap ((bm : Int) + (j : Int)) = (bj : Int) := by rw [show (bm : Int) + (j : Int) = (bj : Int) by omega]; exact IntWalk.i64_in _ (by omega)
                have hlt : bj < n2 := by omega
                obtain ⟨b, off, rfl, hcell⟩ := (HA2.out.below HB4.out (Nat.le_refl _)).cell (j := bj) (by rw [ints_length, HS2.out]; exact hlt)
                have c0 := hcell bj _ (ints_getD (by rw [HS2.out]; exact hlt))
                rw [show bj = base + (m + j) by omega, HST.out (m + j) (by omega), show base + (m + j) = bj by omega] at c0
                have hN := HNB.out j hjm
                have hB1 := HSBB.out j
                obtain ⟨x, hx⟩ : ∃ x, st (m + j) = x := ⟨_, rfl⟩
                obtain ⟨c, hc'⟩ : ∃ c, sideB s (rhoL p (2 * j)) = c := ⟨_, rfl⟩
                obtain ⟨d, hd'⟩ : ∃ d, sideB s (rhoL p (2 * j + 1)) = d := ⟨_, rfl⟩
                rw [hc', hd', hx] at hN hB1
                rw [hc'] at f0
                rw [hd'] at f1
                rw [hx] at c0
                obtain ⟨mb, hmb⟩ : ∃ mb, mayB x c = mb := ⟨_, rfl⟩
                rw [hmb] at hN hB1
                rw [HJ.out] at hB1
                have HMY := Lib.hid (fun n => may_quiet x c (wr.drewN n))
                rw [hmb] at HMY
                have hlb := World.block_lt_of_cell? _ _ c0
                have hlb2 := World.block_lt_of_cell? _ _ f0
                have HN := Lib.hid hN
                have HB1 := Lib.hid hB1
                clear hcell hx hc' hd' hmb hbm hbj hfr hN hB1
                cases c <;> cases d
                · have HOF : Hid (OB = false) := Lib.hid (HN.out rfl)
                  rw [show bI false = 0 from rfl] at f0 f1
                  go_wp2_with fail
                  go_quiet (fail)
                  go_wp2_with fail
                  refine bodyPost_ret (results_tmp3 rfl _ _ _) rfl ?_
                  exact ⟨⟨_, _, by rw [HOF.out]; rfl, fun e => by rw [HOF.out] at e; cases e⟩, bel_drewN HB4.out _⟩
                · skip
                  rw [show bI false = 0 from rfl] at f0
                  rw [show bI true = 1 from rfl] at f1
                  go_wp2_with fail
                  go_quiet (first | (go_at_call 59; refine Calls.quiet_of_same (HMY.out _)))
                  cases mb with
                  | true =>
                    have HJ1 := Lib.hid (HB1.out.trans rfl)
                    go_wp2_with fail
                    go_roundw
                    case rel => exact ⟨j + 1, by omega, by go_num, HJ1, Lib.hid (bel_drewN HW.out _)⟩
                    case measure => simp [intOf]; omega
                  | false =>
                    have HOF : Hid (OB = false) := Lib.hid (HN.out rfl)
                    go_wp2_with fail
                    refine bodyPost_ret (results_tmp3 rfl _ _ _) rfl ?_
                    exact ⟨⟨_, _, by rw [HOF.out]; rfl, fun e => by rw [HOF.out] at e; cases e⟩, bel_drewN HB4.out _⟩
                · skip
                  rw [show bI true = 1 from rfl] at f0
                  rw [show bI false = 0 from rfl] at f1
                  go_wp2_with fail
                  go_quiet (first | (go_at_call 59; refine Calls.quiet_of_same (HMY.out _)))
                  cases mb with
                  | true =>
                    have HJ1 := Lib.hid (HB1.out.trans rfl)
                    go_wp2_with fail
                    go_roundw
                    case rel => exact ⟨j + 1, by omega, by go_num, HJ1, Lib.hid (bel_drewN HW.out _)⟩
                    case measure => simp [intOf]; omega
                  | false =>
                    have HOF : Hid (OB = false) := Lib.hid (HN.out rfl)
                    go_wp2_with fail
                    refine bodyPost_ret (results_tmp3 rfl _ _ _) rfl ?_
                    exact ⟨⟨_, _, by rw [HOF.out]; rfl, fun e => by rw [HOF.out] at e; cases e⟩, bel_drewN HB4.out _⟩
                · have HOF : Hid (OB = false) := Lib.hid (HN.out rfl)
                  rw [show bI true = 1 from rfl] at f0 f1
                  go_wp2_with fail
                  go_quiet (fail)
                  go_wp2_with fail
                  refine bodyPost_ret (results_tmp3 rfl _ _ _) rfl ?_
                  exact ⟨⟨_, _, by rw [HOF.out]; rfl, fun e => by rw [HOF.out] at e; cases e⟩, bel_drewN HB4.out _⟩
              · obtain rfl : m = j := by omega
                have hOB : OB = true := HOB.out.symm.trans HJ.out
                subst hOB
                go_wp2_with fail
                refine bodyPost_ret (results_tmp3 rfl _ _ _) rfl ?_
                have hu := own_below HV.out.up HW.out
                have hl' := own_below HV.out.low HW.out
                rw [halfK_up] at hu
                rw [halfK_low] at hl'
                exact ⟨⟨_, _, rfl, fun _ => ⟨own_le hu HB.out.size, own_le hl' HB.out.size⟩⟩, HB3.out.trans (HW.out.mono HB3.out.size)⟩
end Go.Proofs.Ytelnlmhelkcliaa

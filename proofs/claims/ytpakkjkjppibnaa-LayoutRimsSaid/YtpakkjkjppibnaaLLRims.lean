/- Layout: the law LayoutRims, walked. -/
import Derived.Test.YtpakkjkjppibnaaGRefMust
import Derived.Test.YtpakkjkjppibnaaGRoutes
namespace Go.Proofs.Ytpakkjkjppibnaa
open Go.RowKit

set_option maxRecDepth 100000 in
set_option maxHeartbeats 2000000 in
theorem refRim_ok (w h : Nat) (mv bd : Int) (bv : Value) (bl : List Ce) (x y : Int) (W : World) (hv : RdP W bv bl) (hb : validP w h mv bd bl = true) :
    Calls Try.prog 25 #[.agg #[.int .i64 w, .int .i64 h, .int .i64 mv, .int .i64 bd, bv], .agg #[.int .i64 x, .int .i64 y]] W fun e w' => e = .returned (.tuple #[.int .i64 (rimF w h mv bd bl (x, y)).1, .bool (rimF w h mv bd bl (x, y)).2.1, .int .i64 (rimF w h mv bd bl (x, y)).2.2]) ∧ Below W.heap.size W w' := by
  have hV1 : Below W.heap.size W ((W.alloc (.cells #[.int .i64 w, .int .i64 h, .int .i64 mv, .int .i64 bd, bv] 24)).alloc (.cells #[.int .i64 x, .int .i64 y] 26)) := ((Below.refl W.heap.size W).alloc (Nat.le_refl _) _).alloc (by simp) _
  have hVX : ∀ V, Below ((W.alloc (.cells #[.int .i64 w, .int .i64 h, .int .i64 mv, .int .i64 bd, bv] 24)).alloc (.cells #[.int .i64 x, .int .i64 y] 26)).heap.size ((W.alloc (.cells #[.int .i64 w, .int .i64 h, .int .i64 mv, .int .i64 bd, bv] 24)).alloc (.cells #[.int .i64 x, .int .i64 y] 26)) V → V.cell? ⟨W.heap.size + 1, 0, none⟩ = some (.int .i64 x) ∧ V.cell? ⟨W.heap.size + 1, 1, none⟩ = some (.int .i64 y) := fun V hV =>
    ⟨cell_below (World.cell?_alloc_at _ _ _ _ (by simp)) hV, cell_below (World.cell?_alloc_at _ _ _ _ (by simp)) hV⟩
  have HG0 := Lib.hid ((GBx.new1 W w h mv bd bv 24).below ((Below.refl _ _).alloc (Nat.le_refl _) (.cells #[.int .i64 x, .int .i64 y] 26)))
  have HV1 := Lib.hid hV1
  have HVX := Lib.hid hVX
  have HVA := Lib.hid (fun V (hV : Below W.heap.size W V) => refValid_any w h mv bd bv bl V (hv.below hV))
  rw [hb] at HVA
  have hq := ((validP_iff _ _ _ _ _).1 hb).1
  have HON := Lib.hid (fun V => refOn_any w h mv bd bv x y V)
  have HRM := Lib.hid (fun V => refRim_any w h mv bd bv V (by omega) (by omega) (by omega) (by omega))
  have HIX := Lib.hid (fun V v (hr : RdP V v (rimL w h)) => refIndex_any (rimL w h) v x y V hr (by have := rimL_len w h (by omega) (by omega); omega))
  have hF : rimF w h mv bd bl (x, y) = if onP w h (x, y) = true then (max (idxC (rimL w h) (x, y)) 0, decide ((x, y) ∈ rimL w h), 0) else (0, false, 72) := by
    unfold rimF
    rw [if_pos hb]
    rfl
  rw [hF]
  obtain ⟨ba, bc, rfl, _, _, _, _⟩ := hv
  clear hb hq hF hV1 hVX
  cases ho : onP w h (x, y) with
  | false =>
    rw [ho] at HON
    rw [if_neg (by decide)]
    clear ho
    go_enter Try.func25, Try.ntmps25
    go_wp2_with (first
      | (go_at_call 22; (with_reducible refine (HVA.out _ HV1.out).mono ?_); rintro e w1 ⟨rfl, hb1⟩; have HB1 := Lib.hid hb1; have HGB := Lib.hid (HG0.out.below hb1); obtain ⟨c0, c1, c2, c3, c4⟩ := HGB.out; obtain ⟨d0, d1⟩ := HVX.out _ HB1.out; clear hb1)
      | (go_at_call 53; (with_reducible refine (HON.out _).mono ?_); rintro e w2 ⟨rfl, hb2⟩))
    go_ret3
    exact ⟨rfl, HV1.out.trans ((HB1.out.trans (hb2.mono HB1.out.size)).mono HV1.out.size)⟩
  | true =>
    rw [ho] at HON
    rw [if_pos rfl]
    clear ho
    have HGE := Lib.hid (idxC_ge (rimL w h) (x, y))
    generalize rimL w h = L at *
    go_enter Try.func25, Try.ntmps25
    go_wp2_with (first
      | (go_at_call 22; (with_reducible refine (HVA.out _ HV1.out).mono ?_); rintro e w1 ⟨rfl, hb1⟩; have HB1 := Lib.hid hb1; have HGB := Lib.hid (HG0.out.below hb1); obtain ⟨c0, c1, c2, c3, c4⟩ := HGB.out; obtain ⟨d0, d1⟩ := HVX.out _ HB1.out; clear hb1)
      | (go_at_call 53; (with_reducible refine (HON.out _).mono ?_); rintro e w2 ⟨rfl, hb2⟩; have HB2 := Lib.hid (HB1.out.trans (hb2.mono HB1.out.size)); have HGB2 := Lib.hid (HGB.out.below hb2); clear hb2 c0 c1 c2 c3 c4 d0 d1; obtain ⟨d0, d1⟩ := HVX.out _ HB2.out; obtain ⟨c0, c1, c2, c3, c4⟩ := HGB2.out))
    go_region_law (first
      | (go_simp; go_at_call 58; refine (HRM.out _).mono ?_; rintro e w3 ⟨u, rfl, ho3⟩; have HR3 := Lib.hid ho3.rd; have HB3 : Hid (Below w2.heap.size w2 w3) := Lib.hid ((Below.refl _ _).drew.trans ho3.2); replace d0 := cell_below d0 HB3.out; replace d1 := cell_below d1 HB3.out; clear ho3)
      | (go_simp; go_at_call 57; refine (HIX.out _ _ HR3.out).mono ?_; rintro e w4 ⟨rfl, hb4⟩; have HB4 := Lib.hid (HB3.out.trans (hb4.mono HB3.out.size)); clear hb4))
    all_goals (
      go_wp2_with fail
      go_ret3
      rw [HGE.out]
      exact ⟨rfl, HV1.out.trans ((HB2.out.trans (HB4.out.mono HB2.out.size)).mono HV1.out.size)⟩)

set_option maxHeartbeats 1000000 in
theorem Rim_bad (w h mv bd : Int) (bv : Value) (bl : List Ce) (x y : Int) (W : World) (hv : RdP W bv bl) (hb : validP w h mv bd bl = false) :
    Calls Try.prog 24 #[.agg #[.int .i64 w, .int .i64 h, .int .i64 mv, .int .i64 bd, bv], .agg #[.int .i64 x, .int .i64 y]] W fun e w' => e = .returned (.tuple #[.int .i64 0, .bool false, .int .i64 70]) ∧ Below W.heap.size W w' := by
  have HV1 : Hid (Below W.heap.size W ((W.alloc (.cells #[.int .i64 w, .int .i64 h, .int .i64 mv, .int .i64 bd, bv] 24)).alloc (.cells #[.int .i64 x, .int .i64 y] 26))) := Lib.hid (((Below.refl W.heap.size W).alloc (Nat.le_refl _) _).alloc (by simp) _)
  have HVA := Lib.hid (fun V (hV : Below W.heap.size W V) => opened_bad w h mv bd bv bl V (hv.below hV) hb)
  obtain ⟨ba, bc, rfl, _, _, _, _⟩ := hv
  clear hb
  go_enter Try.func24, Try.ntmps24
  go_wp2_with (go_at_call 38; (with_reducible refine (HVA.out _ HV1.out).mono ?_); rintro e w1 ⟨rfl, hb1⟩)
  go_ret3
  exact ⟨rfl, HV1.out.trans (hb1.mono HV1.out.size)⟩
set_option maxHeartbeats 1000000 in
theorem refRim_bad (w h mv bd : Int) (bv : Value) (bl : List Ce) (x y : Int) (W : World) (hv : RdP W bv bl) (hb : validP w h mv bd bl = false) :
    Calls Try.prog 25 #[.agg #[.int .i64 w, .int .i64 h, .int .i64 mv, .int .i64 bd, bv], .agg #[.int .i64 x, .int .i64 y]] W fun e w' => e = .returned (.tuple #[.int .i64 0, .bool false, .int .i64 70]) ∧ Below W.heap.size W w' := by
  have HV1 : Hid (Below W.heap.size W ((W.alloc (.cells #[.int .i64 w, .int .i64 h, .int .i64 mv, .int .i64 bd, bv] 24)).alloc (.cells #[.int .i64 x, .int .i64 y] 26))) := Lib.hid (((Below.refl W.heap.size W).alloc (Nat.le_refl _) _).alloc (by simp) _)
  have HVA := Lib.hid (fun V (hV : Below W.heap.size W V) => refValid_any w h mv bd bv bl V (hv.below hV))
  rw [hb] at HVA
  obtain ⟨ba, bc, rfl, _, _, _, _⟩ := hv
  clear hb
  go_enter Try.func25, Try.ntmps25
  go_wp2_with (go_at_call 22; (with_reducible refine (HVA.out _ HV1.out).mono ?_); rintro e w1 ⟨rfl, hb1⟩)
  go_ret3
  exact ⟨rfl, HV1.out.trans (hb1.mono HV1.out.size)⟩
theorem refValid_bad (w h mv bd : Int) (bv : Value) (bl : List Ce) (W : World) (hv : RdP W bv bl) (hb : validP w h mv bd bl = false) :
    Calls Try.prog 22 #[.agg #[.int .i64 w, .int .i64 h, .int .i64 mv, .int .i64 bd, bv]] W fun e w' => e = .returned (.bool false) ∧ Below W.heap.size W w' := by
  rw [← hb]; exact refValid_any w h mv bd bv bl W hv
set_option maxHeartbeats 1000000 in
theorem Must_bad (w h mv bd : Int) (bv : Value) (bl : List Ce) (a b c d : Ce) (W : World) (hv : RdP W bv bl) (hb : validP w h mv bd bl = false) :
    Calls Try.prog 26 #[.agg #[.int .i64 w, .int .i64 h, .int .i64 mv, .int .i64 bd, bv], .agg #[.int .i64 a.1, .int .i64 a.2], .agg #[.int .i64 b.1, .int .i64 b.2], .agg #[.int .i64 c.1, .int .i64 c.2], .agg #[.int .i64 d.1, .int .i64 d.2]] W fun e w' => e = .returned (.tuple #[.bool false, .int .i64 70]) ∧ Below W.heap.size W w' := by
  obtain ⟨wb, hwb⟩ : ∃ wb, ((((W.alloc (.cells #[.int .i64 w, .int .i64 h, .int .i64 mv, .int .i64 bd, bv] 24)).alloc (.cells #[.int .i64 a.1, .int .i64 a.2] 26)).alloc (.cells #[.int .i64 b.1, .int .i64 b.2] 26)).alloc (.cells #[.int .i64 c.1, .int .i64 c.2] 26)).alloc (.cells #[.int .i64 d.1, .int .i64 d.2] 26) = wb := ⟨_, rfl⟩
  have HV1 : Hid (Below W.heap.size W wb) := Lib.hid (by
    rw [← hwb]
    exact (((((Below.refl _ _).alloc (Nat.le_refl _) _).alloc (by simp) _).alloc (by simp; omega) _).alloc (by simp; omega) _).alloc (by simp; omega) _)
  have HM := Lib.hid (MBx.new W w h mv bd bv a b c d 24 26)
  have HVA := Lib.hid (fun V (hV : Below W.heap.size W V) => opened_bad w h mv bd bv bl V (hv.below hV) hb)
  obtain ⟨ba, bc, rfl, _, _, _, _⟩ := hv
  obtain ⟨a1, a2⟩ := a
  obtain ⟨b1, b2⟩ := b
  obtain ⟨c1, c2⟩ := c
  obtain ⟨d1, d2⟩ := d
  rw [hwb] at HM
  have HWB := Lib.hid hwb
  dsimp only at HWB ⊢
  clear hb hwb
  have hmb := HM.out
  unfold MBx XYc GBx at hmb
  dsimp only at hmb
  obtain ⟨⟨e0, e1, e2, e3, e4⟩, _⟩ := hmb
  go_enter Try.func26, Try.ntmps26
  go_wp2_with (go_at_call 38; rw [HWB.out]; (with_reducible refine (HVA.out _ HV1.out).mono ?_); rintro e w1 ⟨rfl, hb1⟩)
  go_ret2
  exact ⟨rfl, HV1.out.trans (hb1.mono HV1.out.size)⟩
set_option maxHeartbeats 1000000 in
theorem refMust_bad (w h mv bd : Int) (bv : Value) (bl : List Ce) (a b c d : Ce) (W : World) (hv : RdP W bv bl) (hb : validP w h mv bd bl = false) :
    Calls Try.prog 27 #[.agg #[.int .i64 w, .int .i64 h, .int .i64 mv, .int .i64 bd, bv], .agg #[.int .i64 a.1, .int .i64 a.2], .agg #[.int .i64 b.1, .int .i64 b.2], .agg #[.int .i64 c.1, .int .i64 c.2], .agg #[.int .i64 d.1, .int .i64 d.2]] W fun e w' => e = .returned (.tuple #[.bool false, .int .i64 70]) ∧ Below W.heap.size W w' := by
  obtain ⟨wb, hwb⟩ : ∃ wb, ((((W.alloc (.cells #[.int .i64 w, .int .i64 h, .int .i64 mv, .int .i64 bd, bv] 24)).alloc (.cells #[.int .i64 a.1, .int .i64 a.2] 26)).alloc (.cells #[.int .i64 b.1, .int .i64 b.2] 26)).alloc (.cells #[.int .i64 c.1, .int .i64 c.2] 26)).alloc (.cells #[.int .i64 d.1, .int .i64 d.2] 26) = wb := ⟨_, rfl⟩
  have HV1 : Hid (Below W.heap.size W wb) := Lib.hid (by
    rw [← hwb]
    exact (((((Below.refl _ _).alloc (Nat.le_refl _) _).alloc (by simp) _).alloc (by simp; omega) _).alloc (by simp; omega) _).alloc (by simp; omega) _)
  have HM := Lib.hid (MBx.new W w h mv bd bv a b c d 24 26)
  have HVA := Lib.hid (fun V (hV : Below W.heap.size W V) => refValid_bad w h mv bd bv bl V (hv.below hV) hb)
  obtain ⟨ba, bc, rfl, _, _, _, _⟩ := hv
  obtain ⟨a1, a2⟩ := a
  obtain ⟨b1, b2⟩ := b
  obtain ⟨c1, c2⟩ := c
  obtain ⟨d1, d2⟩ := d
  rw [hwb] at HM
  have HWB := Lib.hid hwb
  dsimp only at HWB ⊢
  clear hb hwb
  have hmb := HM.out
  unfold MBx XYc GBx at hmb
  dsimp only at hmb
  obtain ⟨⟨e0, e1, e2, e3, e4⟩, _⟩ := hmb
  go_enter Try.func27, Try.ntmps27
  go_wp2_with (go_at_call 22; rw [HWB.out]; (with_reducible refine (HVA.out _ HV1.out).mono ?_); rintro e w1 ⟨rfl, hb1⟩)
  go_ret2
  exact ⟨rfl, HV1.out.trans (hb1.mono HV1.out.size)⟩
theorem rims_pair (w h mv bd : Int) (bv : Value) (bl : List Ce) (x y : Int) (W : World) (hv : RdP W bv bl) : ∃ (n : Int) (t : Bool) (f : Int),
    (∀ V, Below W.heap.size W V → Calls Try.prog 24 #[.agg #[.int .i64 w, .int .i64 h, .int .i64 mv, .int .i64 bd, bv], .agg #[.int .i64 x, .int .i64 y]] V fun e w' => e = .returned (.tuple #[.int .i64 n, .bool t, .int .i64 f]) ∧ Below V.heap.size V w') ∧
    (∀ V, Below W.heap.size W V → Calls Try.prog 25 #[.agg #[.int .i64 w, .int .i64 h, .int .i64 mv, .int .i64 bd, bv], .agg #[.int .i64 x, .int .i64 y]] V fun e w' => e = .returned (.tuple #[.int .i64 n, .bool t, .int .i64 f]) ∧ Below V.heap.size V w') := by
  cases hb : validP w h mv bd bl with
  | false => exact ⟨_, _, _, fun V hV => Rim_bad w h mv bd bv bl x y V (hv.below hV) hb, fun V hV => refRim_bad w h mv bd bv bl x y V (hv.below hV) hb⟩
  | true =>
    obtain ⟨a, b, rfl, rfl⟩ := valid_nat hb
    exact ⟨_, _, _, fun V hV => Rim_ok a b mv bd bv bl x y V (hv.below hV) hb, fun V hV => refRim_ok a b mv bd bv bl x y V (hv.below hV) hb⟩
theorem musts_pair (w h mv bd : Int) (bv : Value) (bl : List Ce) (a b c d : Ce) (W : World) (hv : RdP W bv bl) : ∃ (t : Bool) (f : Int),
    (∀ V, Below W.heap.size W V → Calls Try.prog 26 #[.agg #[.int .i64 w, .int .i64 h, .int .i64 mv, .int .i64 bd, bv], .agg #[.int .i64 a.1, .int .i64 a.2], .agg #[.int .i64 b.1, .int .i64 b.2], .agg #[.int .i64 c.1, .int .i64 c.2], .agg #[.int .i64 d.1, .int .i64 d.2]] V fun e w' => e = .returned (.tuple #[.bool t, .int .i64 f]) ∧ Below V.heap.size V w') ∧
    (∀ V, Below W.heap.size W V → Calls Try.prog 27 #[.agg #[.int .i64 w, .int .i64 h, .int .i64 mv, .int .i64 bd, bv], .agg #[.int .i64 a.1, .int .i64 a.2], .agg #[.int .i64 b.1, .int .i64 b.2], .agg #[.int .i64 c.1, .int .i64 c.2], .agg #[.int .i64 d.1, .int .i64 d.2]] V fun e w' => e = .returned (.tuple #[.bool t, .int .i64 f]) ∧ Below V.heap.size V w') := by
  cases hb : validP w h mv bd bl with
  | false => exact ⟨_, _, fun V hV => Must_bad w h mv bd bv bl a b c d V (hv.below hV) hb, fun V hV => refMust_bad w h mv bd bv bl a b c d V (hv.below hV) hb⟩
  | true =>
    obtain ⟨x, y, rfl, rfl⟩ := valid_nat hb
    exact ⟨_, _, fun V hV => Must_ok x y mv bd bv bl a b c d V (hv.below hV) hb, fun V hV => refMust_ok x y mv bd bv bl a b c d V (hv.below hV) hb⟩

set_option maxRecDepth 100000 in
set_option maxHeartbeats 4000000 in
theorem law_rims (w h mv bd : Int) (bv : Value) (bl : List Ce) (a1 a2 b1 b2 c1 c2 d1 d2 : Int) (W : World) (hv : RdP W bv bl) :
    Calls Try.prog 7 #[.agg #[.int .i64 w, .int .i64 h, .int .i64 mv, .int .i64 bd, bv], .agg #[.int .i64 a1, .int .i64 a2], .agg #[.int .i64 b1, .int .i64 b2], .agg #[.int .i64 c1, .int .i64 c2], .agg #[.int .i64 d1, .int .i64 d2]] W fun e w' => e = .returned (.bool true) ∧ Below W.heap.size W w' := by
  have HAW := Lib.hid (fun V => awake_any V)
  obtain ⟨n, t, f, hr1, hr2⟩ := rims_pair w h mv bd bv bl a1 a2 W hv
  obtain ⟨s, q, hm1, hm2⟩ := musts_pair w h mv bd bv bl (a1, a2) (b1, b2) (c1, c2) (d1, d2) W hv
  dsimp only at hm1 hm2
  have HR1 := Lib.hid hr1
  have HR2 := Lib.hid hr2
  have HM1 := Lib.hid hm1
  have HM2 := Lib.hid hm2
  clear hr1 hr2 hm1 hm2
  obtain ⟨wb, hwb⟩ : ∃ wb, ((((W.alloc (.cells #[.int .i64 w, .int .i64 h, .int .i64 mv, .int .i64 bd, bv] 24)).alloc (.cells #[.int .i64 a1, .int .i64 a2] 26)).alloc (.cells #[.int .i64 b1, .int .i64 b2] 26)).alloc (.cells #[.int .i64 c1, .int .i64 c2] 26)).alloc (.cells #[.int .i64 d1, .int .i64 d2] 26) = wb := ⟨_, rfl⟩
  have HV1 : Hid (Below W.heap.size W wb) := Lib.hid (by
    rw [← hwb]
    exact (((((Below.refl _ _).alloc (Nat.le_refl _) _).alloc (by simp) _).alloc (by simp; omega) _).alloc (by simp; omega) _).alloc (by simp; omega) _)
  have HM := Lib.hid (MBx.new W w h mv bd bv (a1, a2) (b1, b2) (c1, c2) (d1, d2) 24 26)
  obtain ⟨ba, bc, rfl, _, _, _, _⟩ := hv
  dsimp only at HM
  rw [hwb] at HM
  have HWB := Lib.hid hwb
  clear hwb
  have hmb := HM.out
  unfold MBx XYc GBx at hmb
  dsimp only at hmb
  obtain ⟨⟨e0, e1, e2, e3, e4⟩, ⟨k0, k1⟩, ⟨k2, k3⟩, ⟨k4, k5⟩, ⟨k6, k7⟩⟩ := hmb
  go_enter Try.func7, Try.ntmps7
  go_wp2_with (first
    | (go_at_call 24; rw [HWB.out]; refine (HR1.out _ HV1.out).mono ?_; rintro e w1 ⟨rfl, hb1⟩; have HB1 := Lib.hid (HV1.out.trans (hb1.mono HV1.out.size)); have HX1 := Lib.hid (HM.out.below hb1); have hmb := HX1.out; unfold MBx XYc GBx at hmb; dsimp only at hmb; obtain ⟨⟨e0, e1, e2, e3, e4⟩, ⟨k0, k1⟩, ⟨k2, k3⟩, ⟨k4, k5⟩, ⟨k6, k7⟩⟩ := hmb; clear hb1)
    | (go_at_call 25; refine (HR2.out _ HB1.out).mono ?_; rintro e w2 ⟨rfl, hb2⟩; have HB2 := Lib.hid (HB1.out.trans (hb2.mono HB1.out.size)); have HX2 := Lib.hid (HX1.out.below hb2); have hmb := HX2.out; unfold MBx XYc GBx at hmb; dsimp only at hmb; obtain ⟨⟨e0, e1, e2, e3, e4⟩, ⟨k0, k1⟩, ⟨k2, k3⟩, ⟨k4, k5⟩, ⟨k6, k7⟩⟩ := hmb; clear hb2)
    | (go_at_call 26; refine (HM1.out _ HB2.out).mono ?_; rintro e w3 ⟨rfl, hb3⟩; have HB3 := Lib.hid (HB2.out.trans (hb3.mono HB2.out.size)); have HX3 := Lib.hid (HX2.out.below hb3); have hmb := HX3.out; unfold MBx XYc GBx at hmb; dsimp only at hmb; obtain ⟨⟨e0, e1, e2, e3, e4⟩, ⟨k0, k1⟩, ⟨k2, k3⟩, ⟨k4, k5⟩, ⟨k6, k7⟩⟩ := hmb; clear hb3)
    | (go_at_call 27; refine (HM2.out _ HB3.out).mono ?_; rintro e w4 ⟨rfl, hb4⟩; have HB4 := Lib.hid (HB3.out.trans (hb4.mono HB3.out.size)); clear hb4)
    | (go_at_call 13; refine (HAW.out _).mono ?_; rintro e w5 ⟨rfl, hb5⟩))
  go_ret
  exact ⟨rfl, HB4.out.trans (hb5.mono HB4.out.size)⟩
end Go.Proofs.Ytpakkjkjppibnaa

/- Layout: Rim. -/
import Derived.Test.YtpakkjkjppibnaaGRim
import Derived.Test.YtpakkjkjppibnaaGIdx
import Derived.Test.YtpakkjkjppibnaaGOpened
import Derived.Lib.MinMax
namespace Go.Proofs.Ytpakkjkjppibnaa
open Go.RowKit

def rimF (w h mv bd : Int) (bl : List Ce) (c : Ce) : Int × Bool × Int :=
  if validP w h mv bd bl = true then (if onP w h c = true then (max (idxC (rimL w.toNat h.toNat) c) 0, decide (c ∈ rimL w.toNat h.toNat), 0) else (0, false, 72)) else (0, false, 70)
theorem rimL_len (w h : Nat) (hw : 1 ≤ w ∧ w ≤ 30) (hh : 1 ≤ h ∧ h ≤ 30) : (rimL w h).length ≤ 120 := Nat.le_trans (ddL_len _) (rawR_len w h hw hh).1

set_option maxRecDepth 100000 in
set_option maxHeartbeats 2000000 in
theorem Rim_ok (w h : Nat) (mv bd : Int) (bv : Value) (bl : List Ce) (x y : Int) (W : World) (hv : RdP W bv bl) (hb : validP w h mv bd bl = true) :
    Calls Try.prog 24 #[.agg #[.int .i64 w, .int .i64 h, .int .i64 mv, .int .i64 bd, bv], .agg #[.int .i64 x, .int .i64 y]] W fun e w' => e = .returned (.tuple #[.int .i64 (rimF w h mv bd bl (x, y)).1, .bool (rimF w h mv bd bl (x, y)).2.1, .int .i64 (rimF w h mv bd bl (x, y)).2.2]) ∧ Below W.heap.size W w' := by
  have hV1 : Below W.heap.size W ((W.alloc (.cells #[.int .i64 w, .int .i64 h, .int .i64 mv, .int .i64 bd, bv] 24)).alloc (.cells #[.int .i64 x, .int .i64 y] 26)) := ((Below.refl W.heap.size W).alloc (Nat.le_refl _) _).alloc (by simp) _
  have hVX : ∀ V, Below ((W.alloc (.cells #[.int .i64 w, .int .i64 h, .int .i64 mv, .int .i64 bd, bv] 24)).alloc (.cells #[.int .i64 x, .int .i64 y] 26)).heap.size ((W.alloc (.cells #[.int .i64 w, .int .i64 h, .int .i64 mv, .int .i64 bd, bv] 24)).alloc (.cells #[.int .i64 x, .int .i64 y] 26)) V → V.cell? ⟨W.heap.size + 1, 0, none⟩ = some (.int .i64 x) ∧ V.cell? ⟨W.heap.size + 1, 1, none⟩ = some (.int .i64 y) := fun V hV =>
    ⟨cell_below (World.cell?_alloc_at _ _ _ _ (by simp)) hV, cell_below (World.cell?_alloc_at _ _ _ _ (by simp)) hV⟩
  have HG0 := Lib.hid ((GBx.new1 W w h mv bd bv 24).below ((Below.refl _ _).alloc (Nat.le_refl _) (.cells #[.int .i64 x, .int .i64 y] 26)))
  have HV1 := Lib.hid hV1
  have HVX := Lib.hid hVX
  have HVA := Lib.hid (fun V (hV : Below W.heap.size W V) => opened_ok w h mv bd bv bl V (hv.below hV) hb)
  have hq := ((validP_iff _ _ _ _ _).1 hb).1
  have HON := Lib.hid (fun V => on_any w h mv bd bv x y V (by omega) (by omega) (by omega) (by omega))
  have HRM : Hid (∀ (V : World) (Bg sb : Nat), GridAt V Bg (grK w h mv bd bl bl.length) bv (some ⟨sb, 0, none⟩) (w * h) → Calls Try.prog 56 #[.pointer (some ⟨Bg, 0, none⟩)] V fun e w' => ∃ u, e = .returned u ∧ w'.ownsRow V.heap.size 26 2 u (rimL w h).length (pairs (rimL w h)) ∧ Below V.heap.size V w') := Lib.hid (fun V Bg sb hg => rim_any Bg _ _ _ _ V hg)
  have HIX := Lib.hid (fun V v (hr : RdP V v (rimL w h)) => index_xy (rimL w h) v x y V hr (by have := rimL_len w h (by omega) (by omega); omega))
  have hF : rimF w h mv bd bl (x, y) = if onP w h (x, y) = true then (max (idxC (rimL w h) (x, y)) 0, decide ((x, y) ∈ rimL w h), 0) else (0, false, 72) := by
    unfold rimF
    rw [if_pos hb]
    rfl
  rw [hF]
  obtain ⟨ba, bc, rfl, _, _, _, _⟩ := hv
  clear hb hq hF hV1 hVX
  cases ho : onP w h (x, y) with
  | false =>
    rw [ho] at HON
    rw [if_neg (by decide)]
    clear ho
    go_enter Try.func24, Try.ntmps24
    go_wp2_with (first
      | (go_at_call 38; (with_reducible refine (HVA.out _ HV1.out).mono ?_); rintro e w1 ⟨Bg, sb, rfl, hg1, hb1⟩; have HB1 := Lib.hid hb1; have HGB := Lib.hid (HG0.out.below hb1); obtain ⟨c0, c1, c2, c3, c4⟩ := HGB.out; obtain ⟨d0, d1⟩ := HVX.out _ HB1.out; clear hg1 hb1)
      | (go_at_call 54; (with_reducible refine (HON.out _).mono ?_); rintro e w2 ⟨rfl, hb2⟩))
    go_ret3
    exact ⟨rfl, HV1.out.trans ((HB1.out.trans (hb2.mono HB1.out.size)).mono HV1.out.size)⟩
  | true =>
    rw [ho] at HON
    rw [if_pos rfl]
    clear ho
    have HGE := Lib.hid (idxC_ge (rimL w h) (x, y))
    generalize rimL w h = L at *
    go_enter Try.func24, Try.ntmps24
    go_wp2_with (first
      | (go_at_call 38; (with_reducible refine (HVA.out _ HV1.out).mono ?_); rintro e w1 ⟨Bg, sb, rfl, hg1, hb1⟩; have HG1 := Lib.hid hg1; have HB1 := Lib.hid hb1; have HGB := Lib.hid (HG0.out.below hb1); obtain ⟨c0, c1, c2, c3, c4⟩ := HGB.out; obtain ⟨d0, d1⟩ := HVX.out _ HB1.out; clear hg1 hb1)
      | (go_at_call 54; (with_reducible refine (HON.out _).mono ?_); rintro e w2 ⟨rfl, hb2⟩; have HG2 := Lib.hid (HG1.out.below hb2); have HB2 := Lib.hid (HB1.out.trans (hb2.mono HB1.out.size)); clear hb2 c0 c1 c2 c3 c4 d0 d1; obtain ⟨d0, d1⟩ := HVX.out _ HB2.out))
    go_region_law (first
      | (go_simp; go_at_call 56; refine (HRM.out _ _ _ (HG2.out.below (Below.refl _ _).drew)).mono ?_; rintro e w3 ⟨u, rfl, ho3, hb3⟩; have HR3 := Lib.hid (RdP.own ho3 rfl); have HB3 : Hid (Below w2.heap.size w2 w3) := Lib.hid ((Below.refl _ _).drew.trans hb3); replace d0 := cell_below d0 HB3.out; replace d1 := cell_below d1 HB3.out; clear hb3 ho3)
      | (go_simp; go_at_call 55; refine (HIX.out _ _ HR3.out).mono ?_; rintro e w4 ⟨rfl, hb4⟩; have HB4 := Lib.hid (HB3.out.trans (hb4.mono HB3.out.size)); clear hb4))
    all_goals (
      go_wp2_with fail
      go_ret3
      rw [HGE.out]
      exact ⟨rfl, HV1.out.trans ((HB2.out.trans (HB4.out.mono HB2.out.size)).mono HV1.out.size)⟩)
end Go.Proofs.Ytpakkjkjppibnaa

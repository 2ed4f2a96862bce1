/- Layout: a route that is found, in memory. -/
import Derived.Test.YtpakkjkjppibnaaGRoute
namespace Go.Proofs.Ytpakkjkjppibnaa
open Go.RowKit

set_option maxRecDepth 100000 in
theorem route_same (w h : Nat) (mv bd : Int) (bv : Value) (bl : List (Int × Int)) (to : Int × Int) (W : World) (hv : RdP W bv bl) (hb : validP w h mv bd bl = true) (ho : openP (grK w h mv bd bl bl.length) to = true) :
    Calls Try.prog 17 #[.agg #[.int .i64 w, .int .i64 h, .int .i64 mv, .int .i64 bd, bv], .agg #[.int .i64 to.1, .int .i64 to.2], .agg #[.int .i64 to.1, .int .i64 to.2]] W fun e w' => (∃ v, e = .returned (.tuple #[v, .int .i64 0, .int .i64 0]) ∧ w'.ownsRow W.heap.size 26 2 v 1 (pairs [to])) ∧ Below W.heap.size W w' := by
  have hbW := Lib.hid ((((Below.refl W.heap.size W).alloc (Nat.le_refl _) (.cells #[.int .i64 w, .int .i64 h, .int .i64 mv, .int .i64 bd, bv] 24)).alloc (by simp) (.cells #[.int .i64 to.1, .int .i64 to.2] 26)).alloc (by simp; omega) (.cells #[.int .i64 to.1, .int .i64 to.2] 26))
  have HBX := Lib.hid (Boxes.new W (.cells #[.int .i64 w, .int .i64 h, .int .i64 mv, .int .i64 bd, bv] 24) to.1 to.2 to.1 to.2 26)
  have HVA := Lib.hid (fun V (hV : Below W.heap.size W V) => opened_ok w h mv bd bv bl V (hv.below hV) hb)
  have HOA := Lib.hid (fun Bg sb V (hV : GridAt V Bg (grK w h mv bd bl bl.length) bv (some ⟨sb, 0, none⟩) (w * h)) => open_any Bg (grK w h mv bd bl bl.length) bv _ _ to V hV)
  rw [ho] at HOA
  have hEQ := fun a b c d W => eqXY a b c d W
  obtain ⟨a, cap, rfl, hc, hcm, _, _⟩ := hv
  obtain ⟨t1, t2⟩ := to
  clear hb ho
  dsimp only at *
  go_enter Try.func17, Try.ntmps17
  go_wp2_with (first
    | (go_at_call 38; (with_reducible refine (HVA.out _ hbW.out).mono ?_); rintro e w1 ⟨Bg, sb, rfl, hg1, hb1⟩; have HG1 := Lib.hid hg1; have HB1 := Lib.hid (hbW.out.trans (hb1.mono (by simp; omega))); have HX1 := Lib.hid (HBX.out.below hb1); obtain ⟨c1, c2, c3, c4⟩ := HX1.out; clear hg1 hb1)
    | (go_at_call 39; (with_reducible refine (HOA.out _ _ _ HG1.out).mono ?_); rintro e w2 ⟨rfl, hb2⟩; have HG2 := Lib.hid (HG1.out.below hb2); have HB2 := Lib.hid (HB1.out.trans (hb2.mono HB1.out.size)); have HX2 := Lib.hid (HX1.out.below hb2); clear c1 c2 c3 c4; obtain ⟨d1, d2, d3, d4⟩ := HX2.out; clear hb2 HG1 HB1 HX1)
    | (go_at_call 39; (with_reducible refine (HOA.out _ _ _ HG2.out).mono ?_); rintro e w3 ⟨rfl, hb3⟩; have HB3 := Lib.hid (HB2.out.trans (hb3.mono HB2.out.size)); obtain ⟨e1, e2, e3, e4⟩ := HX2.out.below hb3; clear hb3))
  go_ret3
  exact ⟨⟨_, rfl, own_lit2 w3 W.heap.size 26 #[.int .i64 t1, .int .i64 t2] 1 HB3.out.size rfl (by decide)⟩, HB3.out.alloc HB3.out.size _⟩

set_option maxRecDepth 100000 in
theorem route_none (w h : Nat) (mv bd : Int) (bv : Value) (bl : List (Int × Int)) (fr to : Int × Int) (W : World) (hv : RdP W bv bl) (hb : validP w h mv bd bl = true) (h1 : openP (grK w h mv bd bl bl.length) fr = true) (h2 : openP (grK w h mv bd bl bl.length) to = true) (hne : fr ≠ to)
    (hc0 : (beginsP (grK w h mv bd bl bl.length) (fieldP (grK w h mv bd bl bl.length) to) fr 4).1 < 0) :
    Calls Try.prog 17 #[.agg #[.int .i64 w, .int .i64 h, .int .i64 mv, .int .i64 bd, bv], .agg #[.int .i64 fr.1, .int .i64 fr.2], .agg #[.int .i64 to.1, .int .i64 to.2]] W fun e w' => e = .returned (.tuple #[.slice none 0 0, .int .i64 0, .int .i64 5]) ∧ Below W.heap.size W w' := by
  have hbW := Lib.hid ((((Below.refl W.heap.size W).alloc (Nat.le_refl _) (.cells #[.int .i64 w, .int .i64 h, .int .i64 mv, .int .i64 bd, bv] 24)).alloc (by simp) (.cells #[.int .i64 fr.1, .int .i64 fr.2] 26)).alloc (by simp; omega) (.cells #[.int .i64 to.1, .int .i64 to.2] 26))
  have HBX := Lib.hid (Boxes.new W (.cells #[.int .i64 w, .int .i64 h, .int .i64 mv, .int .i64 bd, bv] 24) fr.1 fr.2 to.1 to.2 26)
  have HVA := Lib.hid (fun V (hV : Below W.heap.size W V) => opened_ok w h mv bd bv bl V (hv.below hV) hb)
  have hon1 := openP_on h1
  have hon2 := openP_on h2
  have HOA := Lib.hid (fun Bg sb V (hV : GridAt V Bg (grK w h mv bd bl bl.length) bv (some ⟨sb, 0, none⟩) (w * h)) => open_any Bg (grK w h mv bd bl bl.length) bv _ _ fr V hV)
  have HOB := Lib.hid (fun Bg sb V (hV : GridAt V Bg (grK w h mv bd bl bl.length) bv (some ⟨sb, 0, none⟩) (w * h)) => open_any Bg (grK w h mv bd bl bl.length) bv _ _ to V hV)
  have HFA := Lib.hid (fun Bg sb V (hV : GridAt V Bg (grK w h mv bd bl bl.length) bv (some ⟨sb, 0, none⟩) (w * h)) => field_any Bg (grK w h mv bd bl bl.length) bv _ _ to V hV hon2)
  have HBA := Lib.hid (fun Bg sb V (hV : GridAt V Bg (grK w h mv bd bl bl.length) bv (some ⟨sb, 0, none⟩) (w * h)) fb cap (hf : FldAt V fb (w * h) (fieldP (grK w h mv bd bl bl.length) to)) (hob : ∀ i d, outGet (fieldP (grK w h mv bd bl bl.length) to) i d ≤ 1000000000) =>
    begins_any Bg (grK w h mv bd bl bl.length) bv _ _ fb cap _ fr V hV hf hob (by have := (Gr.small hV hon1); omega) (by have := (Gr.small hV hon1); omega) (by have := (Gr.small hV hon1); omega) (by have := (Gr.small hV hon1); omega))
  have HFI : Hid (∀ Bg sb V, GridAt V Bg (grK w h mv bd bl bl.length) bv (some ⟨sb, 0, none⟩) (w * h) → FInv (grK w h mv bd bl bl.length) ([], fieldP (grK w h mv bd bl bl.length) to)) := Lib.hid (fun Bg sb V hV => fieldP_inv hV.ok hon2)
  rw [h1] at HOA
  rw [h2] at HOB
  have hEQ := fun a b c d W => eqXY a b c d W
  obtain ⟨a, cap, rfl, hc, hcm, _, _⟩ := hv
  obtain ⟨f1, f2⟩ := fr
  obtain ⟨t1, t2⟩ := to
  have hne' : (f1 == t1 && f2 == t2) = false := by
    rw [Bool.eq_false_iff]; intro hh; simp at hh; exact hne (by rw [hh.1, hh.2])
  obtain ⟨c0, hc0e⟩ : ∃ c0, (beginsP (grK w h mv bd bl bl.length) (fieldP (grK w h mv bd bl bl.length) (t1, t2)) (f1, f2) 4).1 = c0 := ⟨_, rfl⟩
  rw [hc0e] at HBA hc0
  clear hb h1 h2 hon1 hon2 hne hc0e
  dsimp only at *
  have HWH : Hid ((grK w h mv bd bl bl.length).w * (grK w h mv bd bl bl.length).h = w * h) := Lib.hid rfl
  go_enter Try.func17, Try.ntmps17
  go_wp2_with (first
    | (go_at_call 38; (with_reducible refine (HVA.out _ hbW.out).mono ?_); rintro e w1 ⟨Bg, sb, rfl, hg1, hb1⟩; have HG1 := Lib.hid hg1; have HB1 := Lib.hid (hbW.out.trans (hb1.mono (by simp; omega))); have HX1 := Lib.hid (HBX.out.below hb1); obtain ⟨c1, c2, c3, c4⟩ := HX1.out; clear hg1 hb1)
    | (go_at_call 39; (with_reducible refine (HOA.out _ _ _ HG1.out).mono ?_); rintro e w2 ⟨rfl, hb2⟩; have HG2 := Lib.hid (HG1.out.below hb2); have HB2 := Lib.hid (HB1.out.trans (hb2.mono HB1.out.size)); have HX2 := Lib.hid (HX1.out.below hb2); clear c1 c2 c3 c4; obtain ⟨d1, d2, d3, d4⟩ := HX2.out; clear hb2 HG1 HB1 HX1)
    | (go_at_call 39; (with_reducible refine (HOB.out _ _ _ HG2.out).mono ?_); rintro e w3 ⟨rfl, hb3⟩; have HG3 := Lib.hid (HG2.out.below hb3); have HB3 := Lib.hid (HB2.out.trans (hb3.mono HB2.out.size)); have HX3 := Lib.hid (HX2.out.below hb3); clear d1 d2 d3 d4; obtain ⟨e1, e2, e3, e4⟩ := HX3.out; clear hb3)
    | (go_at_call 40; (with_reducible refine (HFA.out _ _ _ HG3.out).mono ?_); rintro e w4 ⟨fb, rfl, ho4, hb4⟩; have HFI4 := Lib.hid (HFI.out _ _ _ HG3.out); have HO4 : Hid (FldAt w4 fb (w * h) (fieldP (grK w h mv bd bl bl.length) (t1, t2))) := Lib.hid (own_fld ho4 HFI4.out.four HFI4.out.len); have HG4 := Lib.hid (HG3.out.below hb4); have HB4 := Lib.hid (HB3.out.trans (hb4.mono HB3.out.size)); have HX4 := Lib.hid (HX3.out.below hb4); clear e1 e2 e3 e4; obtain ⟨k1, k2, k3, k4⟩ := HX4.out; clear hb4 ho4)
    | (go_at_call 42; (with_reducible refine (HBA.out _ _ _ HG4.out fb _ HO4.out (fun i d => by have h5 := HFI4.out.out i d; have h6 := HG4.out.ok.cells; dsimp only at h5; omega)).mono ?_); rintro e w5 ⟨rfl, hb5⟩))
  go_ret3
  exact ⟨rfl, HB4.out.trans (hb5.mono HB4.out.size)⟩
end Go.Proofs.Ytpakkjkjppibnaa

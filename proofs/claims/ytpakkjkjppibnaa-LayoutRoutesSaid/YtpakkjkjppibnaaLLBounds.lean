/- Layout: the law LayoutBounds, walked. -/
import Derived.Test.YtpakkjkjppibnaaGSmall
namespace Go.Proofs.Ytpakkjkjppibnaa
open Go.RowKit

set_option maxRecDepth 100000 in
theorem bounds_big (w h mv bd : Int) (bv : Value) (bl : List (Int × Int)) (t1 t2 : Int) (fv : Value) (far : List Int) (W : World) (hv : RdP W bv bl) (hf : Rd W fv (ints far)) (hs : (!validP w h mv bd bl || decide (w * h ≤ 144)) = false) :
    Calls Try.prog 6 #[.agg #[.int .i64 w, .int .i64 h, .int .i64 mv, .int .i64 bd, bv], .agg #[.int .i64 t1, .int .i64 t2], fv] W fun e w' => e = .returned (.bool true) ∧ Below W.heap.size W w' := by
  have hbW := Lib.hid (((Below.refl W.heap.size W).alloc (Nat.le_refl _) (.cells #[.int .i64 w, .int .i64 h, .int .i64 mv, .int .i64 bd, bv] 24)).alloc (by simp) (.cells #[.int .i64 t1, .int .i64 t2] 26))
  have HSM := Lib.hid (fun V (hV : Below W.heap.size W V) => small_any w h mv bd bv bl V (hv.below hV))
  have HAW := Lib.hid (fun V => awake_any V)
  rw [hs] at HSM
  obtain ⟨a, cap, rfl, hc, hcm, _, _⟩ := hv
  obtain ⟨fa, fcap, rfl, hfc, hfcm, hfa, _⟩ := hf
  clear hs hfa
  go_enter Try.func6, Try.ntmps6
  go_wp2_with (first
    | (go_at_call 12; (with_reducible refine (HSM.out _ hbW.out).mono ?_); rintro e w1 ⟨rfl, hb1⟩; have HB1 := Lib.hid (hbW.out.trans (hb1.mono (by simp; omega))))
    | (go_at_call 13; refine (HAW.out _).mono ?_; rintro e w3 ⟨rfl, hb3⟩))
  go_ret
  exact ⟨rfl, HB1.out.trans (hb3.mono HB1.out.size)⟩

set_option maxRecDepth 100000 in
theorem bounds_err (w h mv bd : Int) (bv : Value) (bl : List (Int × Int)) (t1 t2 : Int) (fv : Value) (far : List Int) (W : World) (hv : RdP W bv bl) (hf : Rd W fv (ints far)) (hs : (!validP w h mv bd bl || decide (w * h ≤ 144)) = true)
    (pe : Int) (hpe : (pe != 0) = true) (HFR : Hid (∀ V, Below W.heap.size W V → Calls Try.prog 14 #[.agg #[.int .i64 w, .int .i64 h, .int .i64 mv, .int .i64 bd, bv], .agg #[.int .i64 t1, .int .i64 t2]] V fun e w' => e = .returned (.tuple #[.slice none 0 0, .int .i64 pe]) ∧ Below V.heap.size V w')) :
    Calls Try.prog 6 #[.agg #[.int .i64 w, .int .i64 h, .int .i64 mv, .int .i64 bd, bv], .agg #[.int .i64 t1, .int .i64 t2], fv] W fun e w' => e = .returned (.bool true) ∧ Below W.heap.size W w' := by
  have hbW := Lib.hid (((Below.refl W.heap.size W).alloc (Nat.le_refl _) (.cells #[.int .i64 w, .int .i64 h, .int .i64 mv, .int .i64 bd, bv] 24)).alloc (by simp) (.cells #[.int .i64 t1, .int .i64 t2] 26))
  have HBX := Lib.hid (BxAt.new W (.cells #[.int .i64 w, .int .i64 h, .int .i64 mv, .int .i64 bd, bv] 24) t1 t2 26)
  have HGX := Lib.hid (GBx.new W w h mv bd bv 24 (.cells #[.int .i64 t1, .int .i64 t2] 26))
  have HSM := Lib.hid (fun V (hV : Below W.heap.size W V) => small_any w h mv bd bv bl V (hv.below hV))
  have HAW := Lib.hid (fun V => awake_any V)
  rw [hs] at HSM
  obtain ⟨a, cap, rfl, hc, hcm, _, _⟩ := hv
  obtain ⟨fa, fcap, rfl, hfc, hfcm, hfa, _⟩ := hf
  clear hs hfa
  go_enter Try.func6, Try.ntmps6
  go_wp2_with (first
    | (go_at_call 12; (with_reducible refine (HSM.out _ hbW.out).mono ?_); rintro e w1 ⟨rfl, hb1⟩; have HB1 := Lib.hid (hbW.out.trans (hb1.mono (by simp; omega))); obtain ⟨c0, c1, c2, c3, c4⟩ := HGX.out.below hb1; obtain ⟨c5, c6⟩ := HBX.out.below hb1; clear hb1)
    | (go_at_call 14; (with_reducible refine (HFR.out _ HB1.out).mono ?_); rintro e w2 ⟨rfl, hb2⟩; have HB2 := Lib.hid (HB1.out.trans (hb2.mono HB1.out.size)))
    | (go_at_call 13; refine (HAW.out _).mono ?_; rintro e w3 ⟨rfl, hb3⟩))
  go_ret
  exact ⟨rfl, HB2.out.trans (hb3.mono HB2.out.size)⟩
end Go.Proofs.Ytpakkjkjppibnaa

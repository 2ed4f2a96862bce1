/- Layout: the law LayoutRoutes, walked. -/
import Derived.Test.YtpakkjkjppibnaaGRoutes
import Derived.Test.YtpakkjkjppibnaaLLBlocks
namespace Go.Proofs.Ytpakkjkjppibnaa
open Go.RowKit

set_option maxRecDepth 100000 in
theorem routes_big (w h mv bd : Int) (bv : Value) (bl : List (Int × Int)) (f1 f2 t1 t2 : Int) (W : World) (hv : RdP W bv bl) (hs : (!validP w h mv bd bl || decide (w * h ≤ 144)) = false) :
    Calls Try.prog 3 #[.agg #[.int .i64 w, .int .i64 h, .int .i64 mv, .int .i64 bd, bv], .agg #[.int .i64 f1, .int .i64 f2], .agg #[.int .i64 t1, .int .i64 t2]] W fun e w' => e = .returned (.bool true) ∧ Below W.heap.size W w' := by
  have hbW := Lib.hid ((((Below.refl W.heap.size W).alloc (Nat.le_refl _) (.cells #[.int .i64 w, .int .i64 h, .int .i64 mv, .int .i64 bd, bv] 24)).alloc (by simp) (.cells #[.int .i64 f1, .int .i64 f2] 26)).alloc (by simp; omega) (.cells #[.int .i64 t1, .int .i64 t2] 26))
  have HSM := Lib.hid (fun V (hV : Below W.heap.size W V) => small_any w h mv bd bv bl V (hv.below hV))
  have HAW := Lib.hid (fun V => awake_any V)
  rw [hs] at HSM
  obtain ⟨a, cap, rfl, hc, hcm, _, _⟩ := hv
  clear hs
  go_enter Try.func3, Try.ntmps3
  go_wp2_with (first
    | (go_at_call 12; (with_reducible refine (HSM.out _ hbW.out).mono ?_); rintro e w1 ⟨rfl, hb1⟩; have HB1 := Lib.hid (hbW.out.trans (hb1.mono (by simp; omega))))
    | (go_at_call 13; refine (HAW.out _).mono ?_; rintro e w3 ⟨rfl, hb3⟩))
  go_ret
  exact ⟨rfl, HB1.out.trans (hb3.mono HB1.out.size)⟩

set_option maxRecDepth 100000 in
set_option maxHeartbeats 1000000 in
theorem routes_run (w h mv bd : Int) (bv : Value) (bl : List (Int × Int)) (f1 f2 t1 t2 : Int) (W : World) (hv : RdP W bv bl) (hs : (!validP w h mv bd bl || decide (w * h ≤ 144)) = true) :
    Calls Try.prog 3 #[.agg #[.int .i64 w, .int .i64 h, .int .i64 mv, .int .i64 bd, bv], .agg #[.int .i64 f1, .int .i64 f2], .agg #[.int .i64 t1, .int .i64 t2]] W fun e w' => e = .returned (.bool true) ∧ Below W.heap.size W w' := by
  obtain ⟨p, n, er, hr⟩ := rt_exists w h mv bd bl (f1, f2) (t1, t2)
  have hbW := Lib.hid ((((Below.refl W.heap.size W).alloc (Nat.le_refl _) (.cells #[.int .i64 w, .int .i64 h, .int .i64 mv, .int .i64 bd, bv] 24)).alloc (by simp) (.cells #[.int .i64 f1, .int .i64 f2] 26)).alloc (by simp; omega) (.cells #[.int .i64 t1, .int .i64 t2] 26))
  have HBX := Lib.hid (Boxes.new W (.cells #[.int .i64 w, .int .i64 h, .int .i64 mv, .int .i64 bd, bv] 24) f1 f2 t1 t2 26)
  have HGX := Lib.hid (GBx.new3 W w h mv bd bv 24 (.cells #[.int .i64 f1, .int .i64 f2] 26) (.cells #[.int .i64 t1, .int .i64 t2] 26))
  have HSM := Lib.hid (fun V (hV : Below W.heap.size W V) => small_any w h mv bd bv bl V (hv.below hV))
  have HAW := Lib.hid (fun V => awake_any V)
  have HFR := Lib.hid (fun V (hV : Below W.heap.size W V) => far_any w h mv bd bv bl (t1, t2) V (hv.below hV))
  have HFF := Lib.hid (fun V (hV : Below W.heap.size W V) => refFar_any w h mv bd bv bl (t1, t2) V (hv.below hV))
  have HRA := Lib.hid (fun V (hV : Below W.heap.size W V) => route_any w h mv bd bv bl (f1, f2) (t1, t2) V (hv.below hV) hr)
  have HRB := Lib.hid (fun V (hV : Below W.heap.size W V) => refRoute_any w h mv bd bv bl (f1, f2) (t1, t2) V (hv.below hV) hr)
  have HLA := @farF_len w h mv bd bl (t1, t2)
  have HLP := rt_len hr
  generalize farF w h mv bd bl (t1, t2) = fa at *
  obtain ⟨la, ea⟩ := fa
  have HSI := Lib.hid (fun v u V hv hu => sameInts_any la la v u V hv hu (by dsimp only at HLA; omega))
  have HSP := Lib.hid (fun v u V hv hu => same_any p p v u V hv hu (by omega))
  rw [decide_eq_true (rfl : la = la)] at HSI
  rw [decide_eq_true (rfl : p = p)] at HSP
  rw [hs] at HSM
  obtain ⟨a, cap, rfl, hc, hcm, _, _⟩ := hv
  clear hs hr HLA HLP
  dsimp only at *
  go_enter Try.func3, Try.ntmps3
  go_wp2_with (first
    | (go_at_call 12; (with_reducible refine (HSM.out _ hbW.out).mono ?_); rintro e w1 ⟨rfl, hb1⟩; have HB1 := Lib.hid (hbW.out.trans (hb1.mono (by simp; omega))); have HX1 := Lib.hid (HBX.out.below hb1); have HG1 := Lib.hid (HGX.out.below hb1); obtain ⟨c0, c1, c2, c3, c4⟩ := HG1.out; obtain ⟨c5, c6, c7, c8⟩ := HX1.out; clear hb1)
    | (go_at_call 14; (with_reducible refine (HFR.out _ HB1.out).mono ?_); rintro e w2 ⟨⟨cv, rfl, hco⟩, hb2⟩; have HCO := Lib.hid (Rd.own hco); have HB2 := Lib.hid (HB1.out.trans (hb2.mono HB1.out.size)); have HG2 := Lib.hid (HG1.out.below hb2); have HX2 := Lib.hid (HX1.out.below hb2); clear c0 c1 c2 c3 c4 c5 c6 c7 c8 hb2 hco; obtain ⟨c0, c1, c2, c3, c4⟩ := HG2.out; obtain ⟨c5, c6, c7, c8⟩ := HX2.out)
    | (go_at_call 15; (with_reducible refine (HFF.out _ HB2.out).mono ?_); rintro e w3 ⟨⟨cu, rfl, hco⟩, hb3⟩; have HCU := Lib.hid (Rd.own hco); have HCO3 := Lib.hid (HCO.out.below hb3 (Nat.le_refl _)); have HB3 := Lib.hid (HB2.out.trans (hb3.mono HB2.out.size)); have HG3 := Lib.hid (HG2.out.below hb3); have HX3 := Lib.hid (HX2.out.below hb3); clear c0 c1 c2 c3 c4 c5 c6 c7 c8 hb3 hco)
    | (go_at_call 16; (with_reducible refine (HSI.out _ _ _ HCO3.out HCU.out).mono ?_); rintro e w4 ⟨rfl, hb4⟩; have HB4 := Lib.hid (HB3.out.trans (hb4.mono HB3.out.size)); have HG4 := Lib.hid (HG3.out.below hb4); have HX4 := Lib.hid (HX3.out.below hb4); clear hb4; obtain ⟨c0, c1, c2, c3, c4⟩ := HG4.out; obtain ⟨c5, c6, c7, c8⟩ := HX4.out)
    | (go_at_call 17; (with_reducible refine (HRA.out _ HB4.out).mono ?_); rintro e w5 ⟨⟨pv, rfl, hco⟩, hb5⟩; have HPV := Lib.hid (RdP.own hco rfl); have HB5 := Lib.hid (HB4.out.trans (hb5.mono HB4.out.size)); have HG5 := Lib.hid (HG4.out.below hb5); have HX5 := Lib.hid (HX4.out.below hb5); clear c0 c1 c2 c3 c4 c5 c6 c7 c8 hb5 hco; obtain ⟨c0, c1, c2, c3, c4⟩ := HG5.out; obtain ⟨c5, c6, c7, c8⟩ := HX5.out)
    | (go_at_call 18; (with_reducible refine (HRB.out _ HB5.out).mono ?_); rintro e w6 ⟨⟨qv, rfl, hco⟩, hb6⟩; have HQV := Lib.hid (RdP.own hco rfl); have HPV6 := Lib.hid (HPV.out.below hb6); have HB6 := Lib.hid (HB5.out.trans (hb6.mono HB5.out.size)); clear c0 c1 c2 c3 c4 c5 c6 c7 c8 hb6 hco)
    | (go_at_call 19; (with_reducible refine (HSP.out _ _ _ HPV6.out HQV.out).mono ?_); rintro e w7 ⟨rfl, hb7⟩; have HB7 := Lib.hid (HB6.out.trans (hb7.mono HB6.out.size)); clear hb7)
    | (go_at_call 13; refine (HAW.out _).mono ?_; rintro e w8 ⟨rfl, hb8⟩))
  go_ret
  exact ⟨rfl, HB7.out.trans (hb8.mono HB7.out.size)⟩
theorem law_routes (w h mv bd : Int) (bv : Value) (bl : List (Int × Int)) (f1 f2 t1 t2 : Int) (W : World) (hv : RdP W bv bl) :
    Calls Try.prog 3 #[.agg #[.int .i64 w, .int .i64 h, .int .i64 mv, .int .i64 bd, bv], .agg #[.int .i64 f1, .int .i64 f2], .agg #[.int .i64 t1, .int .i64 t2]] W fun e w' => e = .returned (.bool true) ∧ Below W.heap.size W w' := by
  cases hs : (!validP w h mv bd bl || decide (w * h ≤ 144)) with
  | false => exact routes_big w h mv bd bv bl f1 f2 t1 t2 W hv hs
  | true => exact routes_run w h mv bd bv bl f1 f2 t1 t2 W hv hs
end Go.Proofs.Ytpakkjkjppibnaa

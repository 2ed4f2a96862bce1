/- Layout: the law LayoutProofs, walked. -/
import Derived.Test.YtpakkjkjppibnaaKProofR
namespace Go.Proofs.Ytpakkjkjppibnaa
open Go.RowKit

set_option maxRecDepth 100000 in
theorem law_proofs (w h mv bd : Int) (bv : Value) (bl : List (Int × Int)) (t1 t2 : Int) (fv : Value) (far : List Int) (W : World) (hv : RdP W bv bl) (hf : Rd W fv (ints far)) :
    Calls Try.prog 5 #[.agg #[.int .i64 w, .int .i64 h, .int .i64 mv, .int .i64 bd, bv], .agg #[.int .i64 t1, .int .i64 t2], fv] W fun e w' => e = .returned (.bool true) ∧ Below W.heap.size W w' := by
  have hbW := Lib.hid (((Below.refl W.heap.size W).alloc (Nat.le_refl _) (.cells #[.int .i64 w, .int .i64 h, .int .i64 mv, .int .i64 bd, bv] 24)).alloc (by simp) (.cells #[.int .i64 t1, .int .i64 t2] 26))
  have HBX := Lib.hid (BxAt.new W (.cells #[.int .i64 w, .int .i64 h, .int .i64 mv, .int .i64 bd, bv] 24) t1 t2 26)
  have HGX := Lib.hid (GBx.new W w h mv bd bv 24 (.cells #[.int .i64 t1, .int .i64 t2] 26))
  have HA := Lib.hid (fun V (hV : Below W.heap.size W V) => isProof_any w h mv bd bv bl (t1, t2) fv far V (hv.below hV) (hf.below hV (Nat.le_refl _)))
  have HB := Lib.hid (fun V (hV : Below W.heap.size W V) => refProof_any w h mv bd bv bl (t1, t2) fv far V (hv.below hV) (hf.below hV (Nat.le_refl _)))
  have HAW := Lib.hid (fun V => awake_any V)
  obtain ⟨a, cap, rfl, hc, hcm, _, _⟩ := hv
  obtain ⟨fa, fcap, rfl, hfc, hfcm, hfa, _⟩ := hf
  generalize (isProofP w h mv bd bl (t1, t2) far).1 = pb at HA HB
  generalize (isProofP w h mv bd bl (t1, t2) far).2 = pe at HA HB
  clear hfa
  dsimp only at *
  go_enter Try.func5, Try.ntmps5
  go_wp2_with (first
    | (go_at_call 20; (with_reducible refine (HA.out _ hbW.out).mono ?_); rintro e w1 ⟨rfl, hb1⟩; have HB1 := Lib.hid (hbW.out.trans (hb1.mono (by simp; omega))); have HG1 := Lib.hid (HGX.out.below hb1); have HX1 := Lib.hid (HBX.out.below hb1); obtain ⟨c0, c1, c2, c3, c4⟩ := HG1.out; obtain ⟨c5, c6⟩ := HX1.out; clear hb1)
    | (go_at_call 21; (with_reducible refine (HB.out _ HB1.out).mono ?_); rintro e w2 ⟨rfl, hb2⟩; have HB2 := Lib.hid (HB1.out.trans (hb2.mono HB1.out.size)); clear hb2)
    | (go_at_call 13; refine (HAW.out _).mono ?_; rintro e w3 ⟨rfl, hb3⟩))
  go_ret
  exact ⟨rfl, HB2.out.trans (hb3.mono HB2.out.size)⟩
end Go.Proofs.Ytpakkjkjppibnaa

/- Layout: small. -/
import Derived.Test.YtpakkjkjppibnaaGBoundP
namespace Go.Proofs.Ytpakkjkjppibnaa
open Go.RowKit

set_option maxRecDepth 100000 in
theorem small_any (w h mv bd : Int) (bv : Value) (bl : List (Int × Int)) (W : World) (hv : RdP W bv bl) :
    Calls Try.prog 12 #[.agg #[.int .i64 w, .int .i64 h, .int .i64 mv, .int .i64 bd, bv]] W fun e w' => e = .returned (.bool (!validP w h mv bd bl || decide (w * h ≤ 144))) ∧ Below W.heap.size W w' := by
  have hbW := Lib.hid ((Below.refl W.heap.size W).alloc (Nat.le_refl _) (.cells #[.int .i64 w, .int .i64 h, .int .i64 mv, .int .i64 bd, bv] 24))
  have HGX := Lib.hid (GBx.new1 W w h mv bd bv 24)
  have HVA := Lib.hid (fun V (hV : Below W.heap.size W V) => refValid_any w h mv bd bv bl V (hv.below hV))
  obtain ⟨a, cap, rfl, hc, hcm, _, _⟩ := hv
  cases hb : validP w h mv bd bl with
  | false =>
    rw [hb] at HVA
    clear hb
    go_enter Try.func12, Try.ntmps12
    go_wp2_with (go_at_call 22; (with_reducible refine (HVA.out _ hbW.out).mono ?_); rintro e w1 ⟨rfl, hb1⟩)
    go_ret
    exact ⟨rfl, hbW.out.trans (hb1.mono (by simp))⟩
  | true =>
    rw [hb] at HVA
    have hp := ((validP_iff _ _ _ _ _).1 hb).1
    have h0 : 0 ≤ w * h ∧ w * h ≤ 900 := ⟨Int.mul_nonneg (by omega) (by omega), Int.mul_le_mul (by omega : w ≤ 30) (by omega : h ≤ 30) (by omega) (by omega)⟩
    obtain ⟨n, hn⟩ : ∃ n, w * h = n := ⟨_, rfl⟩
    rw [hn] at h0 ⊢
    have hwn : IntKind.i64.wrap n = n := IntWalk.i64_in _ (by clear hn; omega)
    clear hb hp
    go_enter Try.func12, Try.ntmps12
    go_wp2_with (go_at_call 22; (with_reducible refine (HVA.out _ hbW.out).mono ?_); rintro e w1 ⟨rfl, hb1⟩; obtain ⟨c0, c1, c2, c3, c4⟩ := HGX.out.below hb1)
    go_ret
    exact ⟨by simp, hbW.out.trans (hb1.mono (by simp))⟩
end Go.Proofs.Ytpakkjkjppibnaa

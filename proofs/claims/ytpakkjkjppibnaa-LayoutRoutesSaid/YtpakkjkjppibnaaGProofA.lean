/- Layout: IsProof: both texts, whatever the input. -/
import Derived.Test.YtpakkjkjppibnaaGProofR2
namespace Go.Proofs.Ytpakkjkjppibnaa
open Go.RowKit

theorem valid_nat {w h mv bd : Int} {bl : List (Int × Int)} (hb : validP w h mv bd bl = true) : ∃ n m : Nat, w = n ∧ h = m := by
  have := ((validP_iff _ _ _ _ _).1 hb).1
  exact ⟨w.toNat, h.toNat, by omega, by omega⟩
theorem isProofP_bad {w h mv bd : Int} {bl : List (Int × Int)} {to : Int × Int} {far : List Int} (hb : validP w h mv bd bl = false) : isProofP w h mv bd bl to far = (false, 70) := by
  unfold isProofP; rw [hb]; rfl
theorem isProofP_block {w h mv bd : Int} {bl : List (Int × Int)} {to : Int × Int} {far : List Int} (hb : validP w h mv bd bl = true) (ho : refOpenP w h bl to = false) : isProofP w h mv bd bl to far = (false, 72) := by
  unfold isProofP; rw [hb, ho]; rfl
theorem isProofP_arg {w h : Nat} {mv bd : Int} {bl : List (Int × Int)} {to : Int × Int} {far : List Int} (hb : validP w h mv bd bl = true) (ho : refOpenP w h bl to = true) (hbad : ¬ (far.length = w * h ∧ (far.all fun n => inB (-1000000000) n 1000000000) = true)) : isProofP w h mv bd bl to far = (false, 2) := by
  unfold isProofP
  rw [hb, ho, if_pos rfl, if_pos rfl, if_neg]
  rintro ⟨h1, h2⟩
  exact hbad ⟨by exact_mod_cast h1, h2⟩
theorem isProofP_run {w h : Nat} {mv bd : Int} {bl : List (Int × Int)} {to : Int × Int} {far : List Int} (hb : validP w h mv bd bl = true) (ho : refOpenP w h bl to = true) (hlen : far.length = w * h) (hall : (far.all fun n => inB (-1000000000) n 1000000000) = true) : isProofP w h mv bd bl to far = (proofB (grK w h mv bd bl bl.length) to far, 0) := by
  unfold isProofP
  rw [hb, ho, if_pos rfl, if_pos rfl, if_pos ⟨by exact_mod_cast hlen, hall⟩]
  rfl

theorem isProof_any (w h mv bd : Int) (bv : Value) (bl : List (Int × Int)) (to : Int × Int) (fv : Value) (far : List Int) (W : World) (hv : RdP W bv bl) (hf : Rd W fv (ints far)) :
    Calls Try.prog 20 #[.agg #[.int .i64 w, .int .i64 h, .int .i64 mv, .int .i64 bd, bv], .agg #[.int .i64 to.1, .int .i64 to.2], fv] W fun e w' => e = .returned (.tuple #[.bool (isProofP w h mv bd bl to far).1, .int .i64 (isProofP w h mv bd bl to far).2]) ∧ Below W.heap.size W w' := by
  cases hb : validP w h mv bd bl with
  | false => rw [isProofP_bad hb]; exact isProof_bad w h mv bd bv bl to fv W hv hb
  | true =>
    obtain ⟨n, m, rfl, rfl⟩ := valid_nat hb
    cases ho : refOpenP n m bl to with
    | false => rw [isProofP_block hb ho]; exact isProof_block n m mv bd bv bl to fv W hv hb ((open_eq hb to).trans ho)
    | true =>
      by_cases hg : far.length = n * m ∧ (far.all fun n => inB (-1000000000) n 1000000000) = true
      · rw [isProofP_run hb ho hg.1 hg.2]; exact isProof_run n m mv bd bv bl to fv far W hv hb ((open_eq hb to).trans ho) hf hg.1 hg.2
      · rw [isProofP_arg hb ho hg]; exact isProof_arg n m mv bd bv bl to fv far W hv hb ((open_eq hb to).trans ho) hf hg
theorem refProof_any (w h mv bd : Int) (bv : Value) (bl : List (Int × Int)) (to : Int × Int) (fv : Value) (far : List Int) (W : World) (hv : RdP W bv bl) (hf : Rd W fv (ints far)) :
    Calls Try.prog 21 #[.agg #[.int .i64 w, .int .i64 h, .int .i64 mv, .int .i64 bd, bv], .agg #[.int .i64 to.1, .int .i64 to.2], fv] W fun e w' => e = .returned (.tuple #[.bool (isProofP w h mv bd bl to far).1, .int .i64 (isProofP w h mv bd bl to far).2]) ∧ Below W.heap.size W w' := by
  cases hb : validP w h mv bd bl with
  | false => rw [isProofP_bad hb]; exact refProof_bad w h mv bd bv bl to fv W hv hb
  | true =>
    obtain ⟨n, m, rfl, rfl⟩ := valid_nat hb
    cases ho : refOpenP n m bl to with
    | false => rw [isProofP_block hb ho]; exact refProof_block n m mv bd bv bl to fv W hv hb ho
    | true =>
      by_cases hlen : far.length = n * m
      · cases hall : (far.all fun n => inB (-1000000000) n 1000000000) with
        | true => rw [isProofP_run hb ho hlen hall]; exact refProof_run n m mv bd bv bl to fv far W hv hb ho hf hlen hall
        | false => rw [isProofP_arg hb ho (fun hg => by rw [hall] at hg; exact absurd hg.2 (by decide))]; exact refProof_arg n m mv bd bv bl to fv far W hv hb ho hf hlen hall
      · rw [isProofP_arg hb ho (fun hg => hlen hg.1)]; exact refProof_len n m mv bd bv bl to fv far W hv hb ho hf hlen
end Go.Proofs.Ytpakkjkjppibnaa

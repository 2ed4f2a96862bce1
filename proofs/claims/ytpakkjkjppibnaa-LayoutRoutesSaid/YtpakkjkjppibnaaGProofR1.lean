/- Layout: IsProof, as the document computes it. -/
import Derived.Test.YtpakkjkjppibnaaGProof2
namespace Go.Proofs.Ytpakkjkjppibnaa
open Go.RowKit

/-- a grid that is boxed -/
def GBx (V : World) (B : Nat) (w h mv bd : Int) (bv : Value) : Prop := V.cell? ⟨B, 0, none⟩ = some (.int .i64 w) ∧ V.cell? ⟨B, 1, none⟩ = some (.int .i64 h) ∧ V.cell? ⟨B, 2, none⟩ = some (.int .i64 mv) ∧ V.cell? ⟨B, 3, none⟩ = some (.int .i64 bd) ∧ V.cell? ⟨B, 4, none⟩ = some bv
theorem GBx.below {V V' : World} {B : Nat} {w h mv bd : Int} {bv : Value} (hh : GBx V B w h mv bd bv) (hb : Below V.heap.size V V') : GBx V' B w h mv bd bv :=
  ⟨cell_below hh.1 hb, cell_below hh.2.1 hb, cell_below hh.2.2.1 hb, cell_below hh.2.2.2.1 hb, cell_below hh.2.2.2.2 hb⟩
theorem GBx.new1 (W : World) (w h mv bd : Int) (bv : Value) (t : TypeId) : GBx (W.alloc (.cells #[.int .i64 w, .int .i64 h, .int .i64 mv, .int .i64 bd, bv] t)) W.heap.size w h mv bd bv :=
  ⟨World.cell?_alloc_at _ _ _ _ rfl, World.cell?_alloc_at _ _ _ _ rfl, World.cell?_alloc_at _ _ _ _ rfl, World.cell?_alloc_at _ _ _ _ rfl, World.cell?_alloc_at _ _ _ _ rfl⟩
theorem GBx.new (W : World) (w h mv bd : Int) (bv : Value) (t : TypeId) (o : Obj) : GBx ((W.alloc (.cells #[.int .i64 w, .int .i64 h, .int .i64 mv, .int .i64 bd, bv] t)).alloc o) W.heap.size w h mv bd bv :=
  (GBx.new1 W w h mv bd bv t).below ((Below.refl _ _).alloc (Nat.le_refl _) _)

set_option maxRecDepth 100000 in
theorem refProof_bad (w h : Int) (mv bd : Int) (bv : Value) (bl : List (Int × Int)) (to : Int × Int) (fv : Value) (W : World) (hv : RdP W bv bl) (hb : validP w h mv bd bl = false) :
    Calls Try.prog 21 #[.agg #[.int .i64 w, .int .i64 h, .int .i64 mv, .int .i64 bd, bv], .agg #[.int .i64 to.1, .int .i64 to.2], fv] W fun e w' => e = .returned (.tuple #[.bool false, .int .i64 70]) ∧ Below W.heap.size W w' := by
  have hbW := Lib.hid (((Below.refl W.heap.size W).alloc (Nat.le_refl _) (.cells #[.int .i64 w, .int .i64 h, .int .i64 mv, .int .i64 bd, bv] 24)).alloc (by simp) (.cells #[.int .i64 to.1, .int .i64 to.2] 26))
  have HBX := Lib.hid (BxAt.new W (.cells #[.int .i64 w, .int .i64 h, .int .i64 mv, .int .i64 bd, bv] 24) to.1 to.2 26)
  have HGX := Lib.hid (GBx.new W w h mv bd bv 24 (.cells #[.int .i64 to.1, .int .i64 to.2] 26))
  have HVA := Lib.hid (fun V (hV : Below W.heap.size W V) => refValid_any w h mv bd bv bl V (hv.below hV))
  rw [hb] at HVA
  obtain ⟨a, cap, rfl, hc, hcm, _, _⟩ := hv
  obtain ⟨t1, t2⟩ := to
  clear hb
  dsimp only at *
  go_enter Try.func21, Try.ntmps21
  go_wp2_with (go_at_call 22; (with_reducible refine (HVA.out _ hbW.out).mono ?_); rintro e w1 ⟨rfl, hb1⟩)
  go_ret2
  exact ⟨rfl, hbW.out.trans (hb1.mono (by simp; omega))⟩

set_option maxRecDepth 100000 in
theorem refProof_block (w h : Nat) (mv bd : Int) (bv : Value) (bl : List (Int × Int)) (to : Int × Int) (fv : Value) (W : World) (hv : RdP W bv bl) (hb : validP w h mv bd bl = true) (ho : refOpenP w h bl to = false) :
    Calls Try.prog 21 #[.agg #[.int .i64 w, .int .i64 h, .int .i64 mv, .int .i64 bd, bv], .agg #[.int .i64 to.1, .int .i64 to.2], fv] W fun e w' => e = .returned (.tuple #[.bool false, .int .i64 72]) ∧ Below W.heap.size W w' := by
  have hbW := Lib.hid (((Below.refl W.heap.size W).alloc (Nat.le_refl _) (.cells #[.int .i64 w, .int .i64 h, .int .i64 mv, .int .i64 bd, bv] 24)).alloc (by simp) (.cells #[.int .i64 to.1, .int .i64 to.2] 26))
  have HBX := Lib.hid (BxAt.new W (.cells #[.int .i64 w, .int .i64 h, .int .i64 mv, .int .i64 bd, bv] 24) to.1 to.2 26)
  have HGX := Lib.hid (GBx.new W w h mv bd bv 24 (.cells #[.int .i64 to.1, .int .i64 to.2] 26))
  have HVA := Lib.hid (fun V (hV : Below W.heap.size W V) => refValid_any w h mv bd bv bl V (hv.below hV))
  rw [hb] at HVA
  have h4m : bl.length ≤ 4000000 := by have := ((validP_iff _ _ _ _ _).1 hb).1; omega
  have HOV := Lib.hid (fun c V (hV : Below W.heap.size W V) => refOpen_any w h mv bd bv bl c V (hv.below hV) h4m)
  have HOA := Lib.hid (HOV.out to)
  rw [ho] at HOA
  obtain ⟨a, cap, rfl, hc, hcm, _, _⟩ := hv
  obtain ⟨t1, t2⟩ := to
  clear hb ho h4m HOV
  dsimp only at *
  go_enter Try.func21, Try.ntmps21
  go_wp2_with (first
    | (go_at_call 22; (with_reducible refine (HVA.out _ hbW.out).mono ?_); rintro e w1 ⟨rfl, hb1⟩; have HG1 := Lib.hid (HGX.out.below hb1); have HB1 := Lib.hid (hbW.out.trans (hb1.mono (by simp; omega))); have HX1 := Lib.hid (HBX.out.below hb1); obtain ⟨c0, c1, c2, c3, c4⟩ := HG1.out; obtain ⟨c5, c6⟩ := HX1.out; clear hb1)
    | (go_at_call 43; (with_reducible refine (HOA.out _ HB1.out).mono ?_); rintro e w2 ⟨rfl, hb2⟩))
  go_ret2
  exact ⟨rfl, HB1.out.trans (hb2.mono HB1.out.size)⟩

set_option maxRecDepth 100000 in
theorem refProof_len (w h : Nat) (mv bd : Int) (bv : Value) (bl : List (Int × Int)) (to : Int × Int) (fv : Value) (far : List Int) (W : World) (hv : RdP W bv bl) (hb : validP w h mv bd bl = true) (ho : refOpenP w h bl to = true) (hf : Rd W fv (ints far)) (hbad : far.length ≠ w * h) :
    Calls Try.prog 21 #[.agg #[.int .i64 w, .int .i64 h, .int .i64 mv, .int .i64 bd, bv], .agg #[.int .i64 to.1, .int .i64 to.2], fv] W fun e w' => e = .returned (.tuple #[.bool false, .int .i64 2]) ∧ Below W.heap.size W w' := by
  have hbW := Lib.hid (((Below.refl W.heap.size W).alloc (Nat.le_refl _) (.cells #[.int .i64 w, .int .i64 h, .int .i64 mv, .int .i64 bd, bv] 24)).alloc (by simp) (.cells #[.int .i64 to.1, .int .i64 to.2] 26))
  have HBX := Lib.hid (BxAt.new W (.cells #[.int .i64 w, .int .i64 h, .int .i64 mv, .int .i64 bd, bv] 24) to.1 to.2 26)
  have HGX := Lib.hid (GBx.new W w h mv bd bv 24 (.cells #[.int .i64 to.1, .int .i64 to.2] 26))
  have HVA := Lib.hid (fun V (hV : Below W.heap.size W V) => refValid_any w h mv bd bv bl V (hv.below hV))
  rw [hb] at HVA
  have h4m : bl.length ≤ 4000000 := by have := ((validP_iff _ _ _ _ _).1 hb).1; omega
  have HOV := Lib.hid (fun c V (hV : Below W.heap.size W V) => refOpen_any w h mv bd bv bl c V (hv.below hV) h4m)
  have HOA := Lib.hid (HOV.out to)
  rw [ho] at HOA
  obtain ⟨a, cap, rfl, hc, hcm, _, _⟩ := hv
  obtain ⟨t1, t2⟩ := to
  obtain ⟨fa, fcap, rfl, hfc, hfcm, hfa, _⟩ := hf
  obtain ⟨N, hN⟩ : ∃ N, w * h = N := ⟨_, rfl⟩
  have HN := Lib.hid hN
  have hcells : 1 ≤ w * h ∧ w * h ≤ 900 := (grK_ok hb bl.length).cells
  rw [hN] at hcells
  have hNi : (w : Int) * (h : Int) = (N : Int) := by rw [← hN]; simp
  have hwN : IntKind.i64.wrap (N : Int) = (N : Int) := IntWalk.i64_in _ (by clear hNi; omega)
  rw [ints_length] at *
  obtain ⟨M, hM⟩ : ∃ M, far.length = M := ⟨_, rfl⟩
  rw [hM] at hfc hbad ⊢
  rw [hN] at hbad
  have hMN' : ((M : Int) != (N : Int)) = true := by simp; omega
  clear hb ho hN hM hfa h4m HOV hbad
  dsimp only at *
  go_enter Try.func21, Try.ntmps21
  go_wp2_with (first
    | (go_at_call 22; (with_reducible refine (HVA.out _ hbW.out).mono ?_); rintro e w1 ⟨rfl, hb1⟩; have HG1 := Lib.hid (HGX.out.below hb1); have HB1 := Lib.hid (hbW.out.trans (hb1.mono (by simp; omega))); have HX1 := Lib.hid (HBX.out.below hb1); obtain ⟨c0, c1, c2, c3, c4⟩ := HG1.out; obtain ⟨c5, c6⟩ := HX1.out; clear hb1)
    | (go_at_call 43; (with_reducible refine (HOA.out _ HB1.out).mono ?_); rintro e w2 ⟨rfl, hb2⟩; have HG2 := Lib.hid (HG1.out.below hb2); have HB2 := Lib.hid (HB1.out.trans (hb2.mono HB1.out.size)); have HX2 := Lib.hid (HX1.out.below hb2); clear c0 c1 c2 c3 c4 c5 c6 hb2; obtain ⟨c0, c1, c2, c3, c4⟩ := HG2.out; obtain ⟨c5, c6⟩ := HX2.out))
  go_ret2
  exact ⟨rfl, HB2.out⟩

set_option maxRecDepth 100000 in
theorem refProof_arg (w h : Nat) (mv bd : Int) (bv : Value) (bl : List (Int × Int)) (to : Int × Int) (fv : Value) (far : List Int) (W : World) (hv : RdP W bv bl) (hb : validP w h mv bd bl = true) (ho : refOpenP w h bl to = true) (hf : Rd W fv (ints far)) (hlen : far.length = w * h) (hall : (far.all fun n => inB (-1000000000) n 1000000000) = false) :
    Calls Try.prog 21 #[.agg #[.int .i64 w, .int .i64 h, .int .i64 mv, .int .i64 bd, bv], .agg #[.int .i64 to.1, .int .i64 to.2], fv] W fun e w' => e = .returned (.tuple #[.bool false, .int .i64 2]) ∧ Below W.heap.size W w' := by
  have hbW := Lib.hid (((Below.refl W.heap.size W).alloc (Nat.le_refl _) (.cells #[.int .i64 w, .int .i64 h, .int .i64 mv, .int .i64 bd, bv] 24)).alloc (by simp) (.cells #[.int .i64 to.1, .int .i64 to.2] 26))
  have HBX := Lib.hid (BxAt.new W (.cells #[.int .i64 w, .int .i64 h, .int .i64 mv, .int .i64 bd, bv] 24) to.1 to.2 26)
  have HGX := Lib.hid (GBx.new W w h mv bd bv 24 (.cells #[.int .i64 to.1, .int .i64 to.2] 26))
  have HVA := Lib.hid (fun V (hV : Below W.heap.size W V) => refValid_any w h mv bd bv bl V (hv.below hV))
  rw [hb] at HVA
  have h4m : bl.length ≤ 4000000 := by have := ((validP_iff _ _ _ _ _).1 hb).1; omega
  have HOV := Lib.hid (fun c V (hV : Below W.heap.size W V) => refOpen_any w h mv bd bv bl c V (hv.below hV) h4m)
  have HOA := Lib.hid (HOV.out to)
  rw [ho] at HOA
  obtain ⟨a, cap, rfl, hc, hcm, _, _⟩ := hv
  obtain ⟨t1, t2⟩ := to
  obtain ⟨fa, fcap, rfl, hfc, hfcm, hfa, _⟩ := hf
  obtain ⟨N, hN⟩ : ∃ N, w * h = N := ⟨_, rfl⟩
  have HN := Lib.hid hN
  have hcells : 1 ≤ w * h ∧ w * h ≤ 900 := (grK_ok hb bl.length).cells
  rw [hN] at hcells
  have hNi : (w : Int) * (h : Int) = (N : Int) := by rw [← hN]; simp
  have hwN : IntKind.i64.wrap (N : Int) = (N : Int) := IntWalk.i64_in _ (by clear hNi; omega)
  rw [ints_length] at *
  have HE : Hid ((∀ k, k < N → inB (-1000000000) (far.getD k 0) 1000000000 = true) → False) := Lib.hid (fun hh => by
    rw [Bool.eq_false_iff] at hall
    apply hall
    rw [List.all_eq_true]
    intro x hx
    obtain ⟨j, hj, rfl⟩ := List.mem_iff_getElem.1 hx
    have := hh j (by omega)
    rwa [List.getD_eq_getElem?_getD, List.getElem?_eq_getElem hj] at this)
  rw [hlen, hN] at hfc ⊢
  rw [hN] at hlen
  have HM := Lib.hid hlen
  have HFA := Lib.hid hfa
  clear hb ho hN hlen hfa h4m HOV hall
  dsimp only at *
  go_enter Try.func21, Try.ntmps21
  go_wp2_with (first
    | (go_at_call 22; (with_reducible refine (HVA.out _ hbW.out).mono ?_); rintro e w1 ⟨rfl, hb1⟩; have HG1 := Lib.hid (HGX.out.below hb1); have HB1 := Lib.hid (hbW.out.trans (hb1.mono (by simp; omega))); have HX1 := Lib.hid (HBX.out.below hb1); obtain ⟨c0, c1, c2, c3, c4⟩ := HG1.out; obtain ⟨c5, c6⟩ := HX1.out; clear hb1)
    | (go_at_call 43; (with_reducible refine (HOA.out _ HB1.out).mono ?_); rintro e w2 ⟨rfl, hb2⟩; have HG2 := Lib.hid (HG1.out.below hb2); have HB2 := Lib.hid (HB1.out.trans (hb2.mono HB1.out.size)); have HX2 := Lib.hid (HX1.out.below hb2); clear c0 c1 c2 c3 c4 c5 c6 hb2; obtain ⟨c0, c1, c2, c3, c4⟩ := HG2.out; obtain ⟨c5, c6⟩ := HX2.out))
  go_loopw [32] (fun p wr => ∃ k : Nat, k ≤ N ∧ p = .int .i64 k ∧ Hid (Below w2.heap.size w2 wr) ∧ Hid (∀ i, i < k → inB (-1000000000) (far.getD i 0) 1000000000 = true)) (fun p _ => N - (intOf p).toNat)
  case atStart => exact ⟨0, Nat.zero_le _, rfl, Lib.hid (Below.refl _ _), Lib.hid fun i h => absurd h (Nat.not_lt_zero _)⟩
  case round =>
    obtain ⟨k, hk, rfl, HR, HA⟩ := hrel
    by_cases hkN : k < N
    · have hkN' : (k : Int) < (N : Int) := by omega
      obtain ⟨fb, fo, rfl, hcell⟩ := ((HFA.out.below HB2.out (Nat.le_refl _)).below HR.out (Nat.le_refl _)).cell (j := k) (by rw [ints_length, HM.out]; exact hkN)
      have f0 := hcell k _ (ints_getD (by rw [HM.out]; exact hkN))
      have HAN : Hid (inB (-1000000000) (far.getD k 0) 1000000000 = true → ∀ i, i < k + 1 → inB (-1000000000) (far.getD i 0) 1000000000 = true) := Lib.hid (fun h i hi => by
        rcases (by omega : i < k ∨ i = k) with h1 | rfl
        · exact HA.out i h1
        · exact h)
      obtain ⟨v, hv⟩ : ∃ v, far.getD k 0 = v := ⟨_, rfl⟩
      rw [hv] at f0 HAN
      clear hv hcell
      by_cases h1 : v < -1000000000
      · go_wp2_with fail
        go_ret2
        exact ⟨rfl, HB2.out.trans (HR.out.mono HB2.out.size)⟩
      · by_cases h2 : 1000000000 < v
        · go_wp2_with fail
          go_ret2
          exact ⟨rfl, HB2.out.trans (HR.out.mono HB2.out.size)⟩
        · have HA' := Lib.hid (HAN.out (by unfold inB; simp; omega))
          go_wp2_with fail
          go_roundw
          case rel => exact ⟨k + 1, by omega, by go_num, HR, HA'⟩
          case measure => simp [intOf]; omega
    · obtain rfl : k = N := by omega
      exact (HE.out HA.out).elim
end Go.Proofs.Ytpakkjkjppibnaa

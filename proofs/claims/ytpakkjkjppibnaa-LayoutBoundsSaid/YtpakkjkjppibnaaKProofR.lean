/- Layout: IsProof, as the document computes it.
   Layout: IsProof, as the document computes it: the loops.
   Layout: IsProof: both texts, whatever the input. -/
import Derived.Test.YtpakkjkjppibnaaKProof
import Derived.Outline
namespace Go.Proofs.Ytpakkjkjppibnaa
open Go.RowKit

/-- a grid that is boxed -/
def GBx (V : World) (B : Nat) (w h mv bd : Int) (bv : Value) : Prop := V.cell? ⟨B, 0, none⟩ = some (.int .i64 w) ∧ V.cell? ⟨B, 1, none⟩ = some (.int .i64 h) ∧ V.cell? ⟨B, 2, none⟩ = some (.int .i64 mv) ∧ V.cell? ⟨B, 3, none⟩ = some (.int .i64 bd) ∧ V.cell? ⟨B, 4, none⟩ = some bv
theorem GBx.below {V V' : World} {B : Nat} {w h mv bd : Int} {bv : Value} (hh : GBx V B w h mv bd bv) (hb : Below V.heap.size V V') : GBx V' B w h mv bd bv :=
  ⟨cell_below hh.1 hb, cell_below hh.2.1 hb, cell_below hh.2.2.1 hb, cell_below hh.2.2.2.1 hb, cell_below hh.2.2.2.2 hb⟩
theorem GBx.new1 (W : World) (w h mv bd : Int) (bv : Value) (t : TypeId) : GBx (W.alloc (.cells #[.int .i64 w, .int .i64 h, .int .i64 mv, .int .i64 bd, bv] t)) W.heap.size w h mv bd bv :=
  ⟨World.cell?_alloc_at _ _ _ _ rfl, World.cell?_alloc_at _ _ _ _ rfl, World.cell?_alloc_at _ _ _ _ rfl, World.cell?_alloc_at _ _ _ _ rfl, World.cell?_alloc_at _ _ _ _ rfl⟩
theorem GBx.new (W : World) (w h mv bd : Int) (bv : Value) (t : TypeId) (o : Obj) : GBx ((W.alloc (.cells #[.int .i64 w, .int .i64 h, .int .i64 mv, .int .i64 bd, bv] t)).alloc o) W.heap.size w h mv bd bv :=
  (GBx.new1 W w h mv bd bv t).below ((Below.refl _ _).alloc (Nat.le_refl _) _)

set_option maxRecDepth 100000 in
theorem refProof_bad (w h : Int) (mv bd : Int) (bv : Value) (bl : List (Int × Int)) (to : Int × Int) (fv : Value) (W : World) (hv : RdP W bv bl) (hb : validP w h mv bd bl = false) :
    Calls Try.prog 21 #[.agg #[.int .i64 w, .int .i64 h, .int .i64 mv, .int .i64 bd, bv], .agg #[.int .i64 to.1, .int .i64 to.2], fv] W fun e w' => e = .returned (.tuple #[.bool false, .int .i64 70]) ∧ Below W.heap.size W w' := by
  have hbW := Lib.hid (((Below.refl W.heap.size W).alloc (Nat.le_refl _) (.cells #[.int .i64 w, .int .i64 h, .int .i64 mv, .int .i64 bd, bv] 24)).alloc (by simp) (.cells #[.int .i64 to.1, .int .i64 to.2] 26))
  have HBX := Lib.hid (BxAt.new W (.cells #[.int .i64 w, .int .i64 h, .int .i64 mv, .int .i64 bd, bv] 24) to.1 to.2 26)
  have HGX := Lib.hid (GBx.new W w h mv bd bv 24 (.cells #[.int .i64 to.1, .int .i64 to.2] 26))
  have HVA := Lib.hid (fun V (hV : Below W.heap.size W V) => refValid_any w h mv bd bv bl V (hv.below hV))
  rw [hb] at HVA
  obtain ⟨a, cap, rfl, hc, hcm, _, _⟩ := hv
  obtain ⟨t1, t2⟩ := to
  clear hb
  dsimp only at *
  go_enter Try.func21, Try.ntmps21
  go_wp2_with (go_at_call 22; (with_reducible refine (HVA.out _ hbW.out).mono ?_); rintro e w1 ⟨rfl, hb1⟩)
  go_ret2
  exact ⟨rfl, hbW.out.trans (hb1.mono (by simp; omega))⟩

set_option maxRecDepth 100000 in
theorem refProof_block (w h : Nat) (mv bd : Int) (bv : Value) (bl : List (Int × Int)) (to : Int × Int) (fv : Value) (W : World) (hv : RdP W bv bl) (hb : validP w h mv bd bl = true) (ho : refOpenP w h bl to = false) :
    Calls Try.prog 21 #[.agg #[.int .i64 w, .int .i64 h, .int .i64 mv, .int .i64 bd, bv], .agg #[.int .i64 to.1, .int .i64 to.2], fv] W fun e w' => e = .returned (.tuple #[.bool false, .int .i64 72]) ∧ Below W.heap.size W w' := by
  have hbW := Lib.hid (((Below.refl W.heap.size W).alloc (Nat.le_refl _) (.cells #[.int .i64 w, .int .i64 h, .int .i64 mv, .int .i64 bd, bv] 24)).alloc (by simp) (.cells #[.int .i64 to.1, .int .i64 to.2] 26))
  have HBX := Lib.hid (BxAt.new W (.cells #[.int .i64 w, .int .i64 h, .int .i64 mv, .int .i64 bd, bv] 24) to.1 to.2 26)
  have HGX := Lib.hid (GBx.new W w h mv bd bv 24 (.cells #[.int .i64 to.1, .int .i64 to.2] 26))
  have HVA := Lib.hid (fun V (hV : Below W.heap.size W V) => refValid_any w h mv bd bv bl V (hv.below hV))
  rw [hb] at HVA
  have h4m : bl.length ≤ 4000000 := by have := ((validP_iff _ _ _ _ _).1 hb).1; omega
  have HOV := Lib.hid (fun c V (hV : Below W.heap.size W V) => refOpen_any w h mv bd bv bl c V (hv.below hV) h4m)
  have HOA := Lib.hid (HOV.out to)
  rw [ho] at HOA
  obtain ⟨a, cap, rfl, hc, hcm, _, _⟩ := hv
  obtain ⟨t1, t2⟩ := to
  clear hb ho h4m HOV
  dsimp only at *
  go_enter Try.func21, Try.ntmps21
  go_wp2_with (first
    | (go_at_call 22; (with_reducible refine (HVA.out _ hbW.out).mono ?_); rintro e w1 ⟨rfl, hb1⟩; have HG1 := Lib.hid (HGX.out.below hb1); have HB1 := Lib.hid (hbW.out.trans (hb1.mono (by simp; omega))); have HX1 := Lib.hid (HBX.out.below hb1); obtain ⟨c0, c1, c2, c3, c4⟩ := HG1.out; obtain ⟨c5, c6⟩ := HX1.out; clear hb1)
    | (go_at_call 43; (with_reducible refine (HOA.out _ HB1.out).mono ?_); rintro e w2 ⟨rfl, hb2⟩))
  go_ret2
  exact ⟨rfl, HB1.out.trans (hb2.mono HB1.out.size)⟩

set_option maxRecDepth 100000 in
theorem refProof_len (w h : Nat) (mv bd : Int) (bv : Value) (bl : List (Int × Int)) (to : Int × Int) (fv : Value) (far : List Int) (W : World) (hv : RdP W bv bl) (hb : validP w h mv bd bl = true) (ho : refOpenP w h bl to = true) (hf : Rd W fv (ints far)) (hbad : far.length ≠ w * h) :
    Calls Try.prog 21 #[.agg #[.int .i64 w, .int .i64 h, .int .i64 mv, .int .i64 bd, bv], .agg #[.int .i64 to.1, .int .i64 to.2], fv] W fun e w' => e = .returned (.tuple #[.bool false, .int .i64 2]) ∧ Below W.heap.size W w' := by
  have hbW := Lib.hid (((Below.refl W.heap.size W).alloc (Nat.le_refl _) (.cells #[.int .i64 w, .int .i64 h, .int .i64 mv, .int .i64 bd, bv] 24)).alloc (by simp) (.cells #[.int .i64 to.1, .int .i64 to.2] 26))
  have HBX := Lib.hid (BxAt.new W (.cells #[.int .i64 w, .int .i64 h, .int .i64 mv, .int .i64 bd, bv] 24) to.1 to.2 26)
  have HGX := Lib.hid (GBx.new W w h mv bd bv 24 (.cells #[.int .i64 to.1, .int .i64 to.2] 26))
  have HVA := Lib.hid (fun V (hV : Below W.heap.size W V) => refValid_any w h mv bd bv bl V (hv.below hV))
  rw [hb] at HVA
  have h4m : bl.length ≤ 4000000 := by have := ((validP_iff _ _ _ _ _).1 hb).1; omega
  have HOV := Lib.hid (fun c V (hV : Below W.heap.size W V) => refOpen_any w h mv bd bv bl c V (hv.below hV) h4m)
  have HOA := Lib.hid (HOV.out to)
  rw [ho] at HOA
  obtain ⟨a, cap, rfl, hc, hcm, _, _⟩ := hv
  obtain ⟨t1, t2⟩ := to
  obtain ⟨fa, fcap, rfl, hfc, hfcm, hfa, _⟩ := hf
  obtain ⟨N, hN⟩ : ∃ N, w * h = N := ⟨_, rfl⟩
  have HN := Lib.hid hN
  have hcells : 1 ≤ w * h ∧ w * h ≤ 900 := (grK_ok hb bl.length).cells
  rw [hN] at hcells
  have hNi : (w : Int) * (h : Int) = (N : Int) := by rw [← hN]; simp
  have hwN : IntKind.i64.wrap (N : Int) = (N : Int) := IntWalk.i64_in _ (by clear hNi; omega)
  rw [ints_length] at *
  obtain ⟨M, hM⟩ : ∃ M, far.length = M := ⟨_, rfl⟩
  rw [hM] at hfc hbad ⊢
  rw [hN] at hbad
  have hMN' : ((M : Int) != (N : Int)) = true := by simp; omega
  clear hb ho hN hM hfa h4m HOV hbad
  dsimp only at *
  go_enter Try.func21, Try.ntmps21
  go_wp2_with (first
    | (go_at_call 22; (with_reducible refine (HVA.out _ hbW.out).mono ?_); rintro e w1 ⟨rfl, hb1⟩; have HG1 := Lib.hid (HGX.out.below hb1); have HB1 := Lib.hid (hbW.out.trans (hb1.mono (by simp; omega))); have HX1 := Lib.hid (HBX.out.below hb1); obtain ⟨c0, c1, c2, c3, c4⟩ := HG1.out; obtain ⟨c5, c6⟩ := HX1.out; clear hb1)
    | (go_at_call 43; (with_reducible refine (HOA.out _ HB1.out).mono ?_); rintro e w2 ⟨rfl, hb2⟩; have HG2 := Lib.hid (HG1.out.below hb2); have HB2 := Lib.hid (HB1.out.trans (hb2.mono HB1.out.size)); have HX2 := Lib.hid (HX1.out.below hb2); clear c0 c1 c2 c3 c4 c5 c6 hb2; obtain ⟨c0, c1, c2, c3, c4⟩ := HG2.out; obtain ⟨c5, c6⟩ := HX2.out))
  go_ret2
  exact ⟨rfl, HB2.out⟩

set_option maxRecDepth 100000 in
theorem refProof_arg (w h : Nat) (mv bd : Int) (bv : Value) (bl : List (Int × Int)) (to : Int × Int) (fv : Value) (far : List Int) (W : World) (hv : RdP W bv bl) (hb : validP w h mv bd bl = true) (ho : refOpenP w h bl to = true) (hf : Rd W fv (ints far)) (hlen : far.length = w * h) (hall : (far.all fun n => inB (-1000000000) n 1000000000) = false) :
    Calls Try.prog 21 #[.agg #[.int .i64 w, .int .i64 h, .int .i64 mv, .int .i64 bd, bv], .agg #[.int .i64 to.1, .int .i64 to.2], fv] W fun e w' => e = .returned (.tuple #[.bool false, .int .i64 2]) ∧ Below W.heap.size W w' := by
  have hbW := Lib.hid (((Below.refl W.heap.size W).alloc (Nat.le_refl _) (.cells #[.int .i64 w, .int .i64 h, .int .i64 mv, .int .i64 bd, bv] 24)).alloc (by simp) (.cells #[.int .i64 to.1, .int .i64 to.2] 26))
  have HBX := Lib.hid (BxAt.new W (.cells #[.int .i64 w, .int .i64 h, .int .i64 mv, .int .i64 bd, bv] 24) to.1 to.2 26)
  have HGX := Lib.hid (GBx.new W w h mv bd bv 24 (.cells #[.int .i64 to.1, .int .i64 to.2] 26))
  have HVA := Lib.hid (fun V (hV : Below W.heap.size W V) => refValid_any w h mv bd bv bl V (hv.below hV))
  rw [hb] at HVA
  have h4m : bl.length ≤ 4000000 := by have := ((validP_iff _ _ _ _ _).1 hb).1; omega
  have HOV := Lib.hid (fun c V (hV : Below W.heap.size W V) => refOpen_any w h mv bd bv bl c V (hv.below hV) h4m)
  have HOA := Lib.hid (HOV.out to)
  rw [ho] at HOA
  obtain ⟨a, cap, rfl, hc, hcm, _, _⟩ := hv
  obtain ⟨t1, t2⟩ := to
  obtain ⟨fa, fcap, rfl, hfc, hfcm, hfa, _⟩ := hf
  obtain ⟨N, hN⟩ : ∃ N, w * h = N := ⟨_, rfl⟩
  have HN := Lib.hid hN
  have hcells : 1 ≤ w * h ∧ w * h ≤ 900 := (grK_ok hb bl.length).cells
  rw [hN] at hcells
  have hNi : (w : Int) * (h : Int) = (N : Int) := by rw [← hN]; simp
  have hwN : IntKind.i64.wrap (N : Int) = (N : Int) := IntWalk.i64_in _ (by clear hNi; omega)
  rw [ints_length] at *
  have HE : Hid ((∀ k, k < N → inB (-1000000000) (far.getD k 0) 1000000000 = true) → False) := Lib.hid (fun hh => by
    rw [Bool.eq_false_iff] at hall
    apply hall
    rw [List.all_eq_true]
    intro x hx
    obtain ⟨j, hj, rfl⟩ := List.mem_iff_getElem.1 hx
    have := hh j (by omega)
    rwa [List.getD_eq_getElem?_getD, List.getElem?_eq_getElem hj] at this)
  rw [hlen, hN] at hfc ⊢
  rw [hN] at hlen
  have HM := Lib.hid hlen
  have HFA := Lib.hid hfa
  clear hb ho hN hlen hfa h4m HOV hall
  dsimp only at *
  go_enter Try.func21, Try.ntmps21
  go_wp2_with (first
    | (go_at_call 22; (with_reducible refine (HVA.out _ hbW.out).mono ?_); rintro e w1 ⟨rfl, hb1⟩; have HG1 := Lib.hid (HGX.out.below hb1); have HB1 := Lib.hid (hbW.out.trans (hb1.mono (by simp; omega))); have HX1 := Lib.hid (HBX.out.below hb1); obtain ⟨c0, c1, c2, c3, c4⟩ := HG1.out; obtain ⟨c5, c6⟩ := HX1.out; clear hb1)
    | (go_at_call 43; (with_reducible refine (HOA.out _ HB1.out).mono ?_); rintro e w2 ⟨rfl, hb2⟩; have HG2 := Lib.hid (HG1.out.below hb2); have HB2 := Lib.hid (HB1.out.trans (hb2.mono HB1.out.size)); have HX2 := Lib.hid (HX1.out.below hb2); clear c0 c1 c2 c3 c4 c5 c6 hb2; obtain ⟨c0, c1, c2, c3, c4⟩ := HG2.out; obtain ⟨c5, c6⟩ := HX2.out))
  go_loopw [32] (fun p wr => ∃ k : Nat, k ≤ N ∧ p = .int .i64 k ∧ Hid (Below w2.heap.size w2 wr) ∧ Hid (∀ i, i < k → inB (-1000000000) (far.getD i 0) 1000000000 = true)) (fun p _ => N - (intOf p).toNat)
  case atStart => exact ⟨0, Nat.zero_le _, rfl, Lib.hid (Below.refl _ _), Lib.hid fun i h => absurd h (Nat.not_lt_zero _)⟩
  case round =>
    obtain ⟨k, hk, rfl, HR, HA⟩ := hrel
    by_cases hkN : k < N
    · have hkN' : (k : Int) < (N : Int) := by omega
      obtain ⟨fb, fo, rfl, hcell⟩ := ((HFA.out.below HB2.out (Nat.le_refl _)).below HR.out (Nat.le_refl _)).cell (j := k) (by rw [ints_length, HM.out]; exact hkN)
      have f0 := hcell k _ (ints_getD (by rw [HM.out]; exact hkN))
      have HAN : Hid (inB (-1000000000) (far.getD k 0) 1000000000 = true → ∀ i, i < k + 1 → inB (-1000000000) (far.getD i 0) 1000000000 = true) := Lib.hid (fun h i hi => by
        rcases (by omega : i < k ∨ i = k) with h1 | rfl
        · exact HA.out i h1
        · exact h)
      obtain ⟨v, hv⟩ : ∃ v, far.getD k 0 = v := ⟨_, rfl⟩
      rw [hv] at f0 HAN
      clear hv hcell
      by_cases h1 : v < -1000000000
      · go_wp2_with fail
        go_ret2
        exact ⟨rfl, HB2.out.trans (HR.out.mono HB2.out.size)⟩
      · by_cases h2 : 1000000000 < v
        · go_wp2_with fail
          go_ret2
          exact ⟨rfl, HB2.out.trans (HR.out.mono HB2.out.size)⟩
        · have HA' := Lib.hid (HAN.out (by unfold inB; simp; omega))
          go_wp2_with fail
          go_roundw
          case rel => exact ⟨k + 1, by omega, by go_num, HR, HA'⟩
          case measure => simp [intOf]; omega
    · obtain rfl : k = N := by omega
      exact (HE.out HA.out).elim
end Go.Proofs.Ytpakkjkjppibnaa

namespace Go.Proofs.Ytpakkjkjppibnaa
open Go.RowKit

theorem Gr.okSmall {g : Gr} (h : GrOk g) {c : Int × Int} (hc : onP g.w g.h c = true) : 0 ≤ c.1 ∧ c.1 ≤ 29 ∧ 0 ≤ c.2 ∧ c.2 ≤ 29 ∧ 0 ≤ indexP g c ∧ indexP g c < g.w * g.h ∧ indexP g c ≤ 899 ∧ c.2 * (g.w : Int) ≤ 870 ∧ 0 ≤ c.2 * (g.w : Int) := by
  have h1 := h.index hc
  obtain ⟨a1, a2, a3, a4, a5, a6⟩ := h1
  have w2 := h.w2
  have g2 := h.h2
  have h2 := h.cells.2
  have h3 : indexP g c = c.2 * (g.w : Int) + c.1 := rfl
  have h5 : 0 ≤ c.2 * (g.w : Int) := Int.mul_nonneg a3 (by omega)
  have h6 : c.2 * (g.w : Int) ≤ 29 * 30 := Int.mul_le_mul (by omega) (by omega) (by omega) (by omega)
  have a7 := a6
  rw [Int.natCast_mul] at a7
  exact ⟨a1, by omega, a3, by omega, a5, a7, by omega, by omega, h5⟩

set_option maxRecDepth 100000 in
set_option maxHeartbeats 1000000 in
theorem refProof_run (w h : Nat) (mv bd : Int) (bv : Value) (bl : List (Int × Int)) (to : Int × Int) (fv : Value) (far : List Int) (W : World) (hv : RdP W bv bl) (hb : validP w h mv bd bl = true) (ho : refOpenP w h bl to = true) (hf : Rd W fv (ints far)) (hlen : far.length = w * h) (hall : (far.all fun n => inB (-1000000000) n 1000000000) = true) :
    Calls Try.prog 21 #[.agg #[.int .i64 w, .int .i64 h, .int .i64 mv, .int .i64 bd, bv], .agg #[.int .i64 to.1, .int .i64 to.2], fv] W fun e w' => e = .returned (.tuple #[.bool (proofB (grK w h mv bd bl bl.length) to far), .int .i64 0]) ∧ Below W.heap.size W w' := by
  have hbW := Lib.hid (((Below.refl W.heap.size W).alloc (Nat.le_refl _) (.cells #[.int .i64 w, .int .i64 h, .int .i64 mv, .int .i64 bd, bv] 24)).alloc (by simp) (.cells #[.int .i64 to.1, .int .i64 to.2] 26))
  have HBX := Lib.hid (BxAt.new W (.cells #[.int .i64 w, .int .i64 h, .int .i64 mv, .int .i64 bd, bv] 24) to.1 to.2 26)
  have HGX := Lib.hid (GBx.new W w h mv bd bv 24 (.cells #[.int .i64 to.1, .int .i64 to.2] 26))
  have HVA := Lib.hid (fun V (hV : Below W.heap.size W V) => refValid_any w h mv bd bv bl V (hv.below hV))
  rw [hb] at HVA
  have h4m : bl.length ≤ 4000000 := by have := ((validP_iff _ _ _ _ _).1 hb).1; omega
  have HOV := Lib.hid (fun c V (hV : Below W.heap.size W V) => refOpen_any w h mv bd bv bl c V (hv.below hV) h4m)
  have HOA := Lib.hid (HOV.out to)
  rw [ho] at HOA
  have hok := grK_ok hb bl.length
  have HOK := Lib.hid hok
  have HOE := Lib.hid (open_eq hb)
  obtain ⟨g, hgd⟩ : ∃ g, grK w h mv bd bl bl.length = g := ⟨_, rfl⟩
  have HGW : Hid (g.w = w ∧ g.h = h) := Lib.hid (by rw [← hgd]; exact ⟨rfl, rfl⟩)
  have HGM : Hid (g.move = mv) := Lib.hid (by rw [← hgd]; rfl)
  rw [hgd] at HOK HOE
  have HFB : Hid (∀ i, -1000000000 ≤ far.getD i 0 ∧ far.getD i 0 ≤ 1000000000) := Lib.hid (fun i => by
    by_cases hi : i < far.length
    · have h1 := List.all_eq_true.1 hall (far[i]) (List.getElem_mem hi)
      unfold inB at h1
      simp at h1
      rw [List.getD_eq_getElem?_getD, List.getElem?_eq_getElem hi]
      simpa using h1
    · rw [List.getD_eq_getElem?_getD, List.getElem?_eq_none (by omega)]; simp)
  obtain ⟨a, cap, rfl, hc, hcm, _, _⟩ := hv
  obtain ⟨t1, t2⟩ := to
  obtain ⟨fa, fcap, rfl, hfc, hfcm, hfa, _⟩ := hf
  obtain ⟨N, hN⟩ : ∃ N, w * h = N := ⟨_, rfl⟩
  have HN := Lib.hid hN
  have hcells : 1 ≤ w * h ∧ w * h ≤ 900 := (grK_ok hb bl.length).cells
  rw [hN] at hcells
  have hNi : (w : Int) * (h : Int) = (N : Int) := by rw [← hN]; simp
  have hwN : IntKind.i64.wrap (N : Int) = (N : Int) := IntWalk.i64_in _ (by clear hNi; omega)
  rw [ints_length] at *
  rw [hgd]
  rw [hlen, hN] at hfc ⊢
  rw [hN] at hlen
  have HM := Lib.hid hlen
  rw [← HGM.out] at HGX HVA HOV HOA
  have HT : Hid (∀ i, i < N → cellBad g (t1, t2) far i = true → proofB g (t1, t2) far = false) := Lib.hid (fun i hi => proofB_false (by rw [HGW.out.1, HGW.out.2, HN.out]; exact hi))
  have HF : Hid ((∀ i, i < N → cellBad g (t1, t2) far i = false) → proofB g (t1, t2) far = true) := Lib.hid (fun hh => proofB_true (by rw [HGW.out.1, HGW.out.2, HN.out]; exact hh))
  have HFA := Lib.hid hfa
  have hEQ := fun a b c d W => eqXY a b c d W
  have hm1 : 1 ≤ g.move ∧ g.move ≤ 1000 := ⟨HOK.out.m1, HOK.out.m2⟩
  have hw1 : 1 ≤ w := by have := HOK.out.w1; rw [HGW.out.1] at this; exact this
  obtain rfl := HGM.out
  clear hb ho hgd hok hN hlen hfa hall h4m
  dsimp only at *
  go_enter Try.func21, Try.ntmps21
  go_wp2_with (first
    | (go_at_call 22; (with_reducible refine (HVA.out _ hbW.out).mono ?_); rintro e w1 ⟨rfl, hb1⟩; have HG1 := Lib.hid (HGX.out.below hb1); have HB1 := Lib.hid (hbW.out.trans (hb1.mono (by simp; omega))); have HX1 := Lib.hid (HBX.out.below hb1); obtain ⟨c0, c1, c2, c3, c4⟩ := HG1.out; obtain ⟨c5, c6⟩ := HX1.out; clear hb1)
    | (go_at_call 43; (with_reducible refine (HOA.out _ HB1.out).mono ?_); rintro e w2 ⟨rfl, hb2⟩; have HG2 := Lib.hid (HG1.out.below hb2); have HB2 := Lib.hid (HB1.out.trans (hb2.mono HB1.out.size)); have HX2 := Lib.hid (HX1.out.below hb2); clear c0 c1 c2 c3 c4 c5 c6 hb2; obtain ⟨c0, c1, c2, c3, c4⟩ := HG2.out; obtain ⟨c5, c6⟩ := HX2.out))
  go_loopw [32] (fun p wr => ∃ k : Nat, k ≤ N ∧ p = .int .i64 k ∧ wr = w2) (fun p _ => N - (intOf p).toNat)
  case atStart => exact ⟨0, Nat.zero_le _, rfl, rfl⟩
  case round =>
    obtain ⟨k, hk, rfl, hw2⟩ := hrel
    obtain rfl : w2 = wr := hw2.symm
    by_cases hkN : k < N
    · have hkN' : (k : Int) < (N : Int) := by omega
      obtain ⟨fb, fo, rfl, hcell⟩ := (HFA.out.below HB2.out (Nat.le_refl _)).cell (j := k) (by rw [ints_length, HM.out]; exact hkN)
      have f0 := hcell k _ (ints_getD (by rw [HM.out]; exact hkN))
      have hfb := HFB.out k
      obtain ⟨v, hv⟩ : ∃ v, far.getD k 0 = v := ⟨_, rfl⟩
      rw [hv] at f0 hfb
      clear hv hcell
      have h1 : ¬ v < -1000000000 := by omega
      have h2 : ¬ 1000000000 < v := by omega
      clear hfb
      go_wp2_with fail
      go_roundw
      case rel => exact ⟨k + 1, by omega, by go_num, trivial⟩
      case measure => simp [intOf]; omega
    · obtain rfl : N = k := by omega
      have HFA3 := Lib.hid (HFA.out.below HB2.out (Nat.le_refl _))
      clear hNi hwN c0 c1 c2 c3 c4 c5 c6
      go_wp2_with fail
      go_loopw [45] (fun p wr => ∃ k : Nat, k ≤ N ∧ p = .int .i64 k ∧ Hid (Below w2.heap.size w2 wr) ∧ Hid (∀ i, i < k → cellBad g (t1, t2) far i = false)) (fun p _ => N - (intOf p).toNat)
      case atStart => exact ⟨0, Nat.zero_le _, rfl, Lib.hid (Below.refl _ _), Lib.hid fun i h => absurd h (Nat.not_lt_zero _)⟩
      case round =>
        obtain ⟨k, hk, rfl, HR, HA⟩ := hrel
        obtain ⟨wo, rfl⟩ : ∃ wo, wo = wr := ⟨_, rfl⟩
        by_cases hkN : k < N
        · have hkN' : (k : Int) < (N : Int) := by omega
          obtain ⟨fb, fo, rfl, hcell⟩ := (HFA3.out.below HR.out (Nat.le_refl _)).cell (j := k) (by rw [ints_length, HM.out]; exact hkN)
          have f0 := hcell k _ (ints_getD (by rw [HM.out]; exact hkN))
          obtain ⟨v, hv⟩ : ∃ v, far.getD k 0 = v := ⟨_, rfl⟩
          rw [hv] at f0
          have HGR := Lib.hid (fun (V : World) (hV : Below wo.heap.size wo V) => (HG2.out.below HR.out).below hV)
          have HXR := Lib.hid (fun (V : World) (hV : Below wo.heap.size wo V) => (HX2.out.below HR.out).below hV)
          have HBWo := Lib.hid (HB2.out.trans (HR.out.mono HB2.out.size))
          obtain ⟨u0, _⟩ := HGR.out _ (Below.refl _ _)
          have q0 : ∀ V : World, Hid (Below wo.heap.size wo V) → V.cell? ⟨W.heap.size, 0, none⟩ = some (.int .i64 w) := fun V h => cell_below u0 h.out
          have hnear := cellP_near HOK.out (i := k) (by rw [HGW.out.1, HGW.out.2, HN.out]; exact hkN)
          obtain ⟨⟨c1, c2⟩, hc12⟩ : ∃ c, cellP g k = c := ⟨_, rfl⟩
          rw [hc12] at hnear
          have HNR := Lib.hid hnear
          have HTB : Hid (topBad g (t1, t2) far k = (decide ((c1, c2) = (t1, t2)) && decide (0 < v))) := Lib.hid (by unfold topBad; rw [hc12, hv])
          have HSB : Hid (∀ d, stepBad g far k d = (openP g (c1, c2) && openP g (besideP (c1, c2) d) && decide (far.getD (indexP g (besideP (c1, c2) d)).toNat 0 + g.move < v))) := Lib.hid (fun d => by unfold stepBad; rw [hc12, hv])
          have HCELL := Lib.hid hcell
          have hcc : ((k % w : Nat) : Int) = c1 ∧ ((k / w : Nat) : Int) = c2 := by
            have : cellP g k = (((k % g.w : Nat) : Int), ((k / g.w : Nat) : Int)) := rfl
            rw [HGW.out.1, hc12] at this
            injection this with h1 h2
            exact ⟨h1.symm, h2.symm⟩
          have hr : ((k : Int)).tmod (w : Int) = c1 := (Int.ofNat_tmod _ _).symm.trans hcc.1
          have hq : ((k : Int)).tdiv (w : Int) = c2 := (Int.ofNat_tdiv _ _).symm.trans hcc.2
          have hwq : IntKind.i64.wrap c2 = c2 := IntWalk.i64_in _ (by
            have := Nat.div_le_self k w
            have := hcc.2
            omega)
          have hn0 : ¬ ((w : Int) = 0) := by omega
          have hnz : ¬ (w = 0) := by omega
          dsimp only at hnear
          clear hcell hv hc12 hnear hcc u0
          go_wp2_with fail
          go_region_held3 (fun w' => Hid (Below wo.heap.size wo w'))
            (first | exact Lib.hid (Below.refl _ _).drew | exact heldA _ (by assumption) | exact Lib.hid ((Below.refl _ _).alloc (Nat.le_refl _) _).drew)
            (fail)
          have b0 : ((wo.alloc (.cells #[.int .i64 c1, .int .i64 c2] 26)).drew).cell? ⟨wo.heap.size, 0, none⟩ = some (.int .i64 c1) := cell_below (World.cell?_alloc_at _ _ _ _ rfl) (Below.refl _ _).drew
          have b1 : ((wo.alloc (.cells #[.int .i64 c1, .int .i64 c2] 26)).drew).cell? ⟨wo.heap.size, 1, none⟩ = some (.int .i64 c2) := cell_below (World.cell?_alloc_at _ _ _ _ rfl) (Below.refl _ _).drew
          have HB5 := Lib.hid (((Below.refl wo.heap.size wo).alloc (Nat.le_refl _) (.cells #[.int .i64 c1, .int .i64 c2] 26)).drew)
          generalize (wo.alloc (.cells #[.int .i64 c1, .int .i64 c2] 26)).drew = w5 at *
          have HG0 := Lib.hid b0
          have HG1' := Lib.hid b1
          obtain ⟨x1, x2⟩ := HXR.out _ HB5.out
          clear q0 hr hq hwq hn0 hnz f0
          by_cases heq : c1 = t1 ∧ c2 = t2
          · obtain ⟨rfl, rfl⟩ := heq
            by_cases hv0 : 0 < v
            · have HR1 := Lib.hid (HT.out k hkN (by unfold cellBad; rw [HTB.out]; simp [hv0]))
              go_wp2_with fail
              go_ret2
              exact ⟨by rw [HR1.out]; rfl, HB2.out.trans ((HR.out.trans (HB5.out.mono HR.out.size)).mono HB2.out.size)⟩
            · have HTF : Hid (topBad g (c1, c2) far k = false) := Lib.hid (by rw [HTB.out]; simp [hv0])
              go_wp2_with fail
              clear b0 b1 x1 x2
              go_loopw [66] (fun p wr2 => ∃ m : Nat, m ≤ 4 ∧ p = .int .i64 m ∧ Hid (Below w5.heap.size w5 wr2) ∧ Hid (∀ d, d < m → stepBad g far k d = false)) (fun p _ => 4 - (intOf p).toNat)
              case atStart => exact ⟨0, Nat.zero_le _, rfl, Lib.hid (Below.refl _ _), Lib.hid fun i h => absurd h (Nat.not_lt_zero _)⟩
              case round =>
                obtain ⟨m, hm4, rfl, HR5, HS⟩ := hrel
                by_cases hm : m < 4
                · have d0 := cell_below HG0.out HR5.out
                  have d1 := cell_below HG1'.out HR5.out
                  obtain ⟨⟨n1, n2⟩, hn12⟩ : ∃ n, besideP (c1, c2) m = n := ⟨_, rfl⟩
                  have HSM := Lib.hid (HSB.out m)
                  have HBSM := Lib.hid (fun V => refNext_any (c1, c2) m (by omega) V (by have := HNR.out; dsimp only at *; omega) (by have := HNR.out; dsimp only at *; omega) (by have := HNR.out; dsimp only at *; omega) (by have := HNR.out; dsimp only at *; omega))
                  rw [hn12] at HBSM HSM
                  dsimp only at HBSM
                  clear hn12
                  have HAN : Hid (stepBad g far k m = false → ∀ d, d < m + 1 → stepBad g far k d = false) := Lib.hid (fun h d hd => by
                    rcases (by omega : d < m ∨ d = m) with h1 | rfl
                    · exact HS.out d h1
                    · exact h)
                  go_wp2_with (go_at_call 49; (with_reducible refine (HBSM.out _).mono ?_); rintro e w6 ⟨rfl, hb6⟩; have HB6 := Lib.hid (HR5.out.trans (hb6.mono HR5.out.size)); clear hb6)
                  have HB7 : Hid (Below w5.heap.size w5 (w6.alloc (.cells #[.int .i64 n1, .int .i64 n2] 26))) := Lib.hid (HB6.out.alloc HB6.out.size _)
                  have g0 : (w6.alloc (.cells #[.int .i64 n1, .int .i64 n2] 26)).cell? ⟨w6.heap.size, 0, none⟩ = some (.int .i64 n1) := World.cell?_alloc_at _ _ _ _ rfl
                  have g1 : (w6.alloc (.cells #[.int .i64 n1, .int .i64 n2] 26)).cell? ⟨w6.heap.size, 1, none⟩ = some (.int .i64 n2) := World.cell?_alloc_at _ _ _ _ rfl
                  generalize hW7 : w6.alloc (.cells #[.int .i64 n1, .int .i64 n2] 26) = w7 at *
                  generalize w6.heap.size = nb at *
                  have HBo7 := Lib.hid (HB5.out.trans (HB7.out.mono HB5.out.size))
                  have h0 := cell_below HG0.out HB7.out
                  have h1 := cell_below HG1'.out HB7.out
                  obtain ⟨q0, q1, q2, q3, q4⟩ := HGR.out _ HBo7.out
                  have e0 := fun x : Grow w7 => grow_cell h0 x
                  have e1 := fun x : Grow w7 => grow_cell h1 x
                  have e2 := fun x : Grow w7 => grow_cell g0 x
                  have e3 := fun x : Grow w7 => grow_cell g1 x
                  have e4 := fun x : Grow w7 => grow_cell q2 x
                  have e6 := fun x : Grow w7 => grow_cell q0 x
                  have e7 := fun x : Grow w7 => grow_cell q1 x
                  have e8 := fun x : Grow w7 => grow_cell q3 x
                  have e9 := fun x : Grow w7 => grow_cell q4 x
                  have HBW7 := Lib.hid (HBWo.out.trans (HBo7.out.mono HBWo.out.size))
                  have HOPC := Lib.hid (fun x : Grow w7 => HOV.out (c1, c2) (grow x) (HBW7.out.trans ((grow_below x).mono HBW7.out.size)))
                  have HOPV := Lib.hid (fun x : Grow w7 => HOV.out (n1, n2) (grow x) (HBW7.out.trans ((grow_below x).mono HBW7.out.size)))
                  dsimp only at HOPC HOPV
                  clear hW7 d0 d1 h0 h1 g0 g1 q0 q1 q2 q3 q4 HBSM
                  cases hoc : refOpenP w h bl (c1, c2) with
                  | false =>
                    rw [hoc] at HOPC
                    rw [HOE.out, hoc] at HSM
                    have HA' := Lib.hid (HAN.out (by rw [HSM.out]; rfl))
                    clear hoc
                    refine wp_region_grow (by kernel_rfl) (by kernel_rfl) ?_
                    repeat (go_big_quiet_step (first | (go_at_call 43; (with_reducible refine grow_of (HOPC.out _))) | (go_at_call 43; (with_reducible refine grow_of (HOPV.out _)))))
                    refine wpQuiet_nil ?_
                    intro _ hw'
                    obtain ⟨xq, hw''⟩ := hw'
                    subst hw''
                    have HBq := Lib.hid (grow_below xq)
                    clear e0 e1 e2 e3 e4 e6 e7 e8 e9
                    generalize grow xq = w8 at *
                    have HB8 := Lib.hid (HB7.out.trans (HBq.out.mono HB7.out.size))
                    go_wp2_with fail
                    go_roundw
                    case rel => exact ⟨m + 1, by omega, by go_num, HB8, HA'⟩
                    case measure => simp [intOf]; omega
                  | true =>
                    rw [hoc] at HOPC
                    rw [HOE.out, hoc] at HSM
                    clear hoc
                    cases hon : refOpenP w h bl (n1, n2) with
                    | false =>
                      rw [hon] at HOPV
                      rw [HOE.out, hon] at HSM
                      have HA' := Lib.hid (HAN.out (by rw [HSM.out]; rfl))
                      clear hon
                      refine wp_region_grow (by kernel_rfl) (by kernel_rfl) ?_
                      repeat (go_big_quiet_step (first | (go_at_call 43; (with_reducible refine grow_of (HOPC.out _))) | (go_at_call 43; (with_reducible refine grow_of (HOPV.out _)))))
                      refine wpQuiet_nil ?_
                      intro _ hw'
                      obtain ⟨xq, hw''⟩ := hw'
                      subst hw''
                      have HBq := Lib.hid (grow_below xq)
                      clear e0 e1 e2 e3 e4 e6 e7 e8 e9
                      generalize grow xq = w8 at *
                      have HB8 := Lib.hid (HB7.out.trans (HBq.out.mono HB7.out.size))
                      go_wp2_with fail
                      go_roundw
                      case rel => exact ⟨m + 1, by omega, by go_num, HB8, HA'⟩
                      case measure => simp [intOf]; omega
                    | true =>
                      rw [hon] at HOPV
                      rw [HOE.out, hon] at HSM
                      have hnn : onP g.w g.h (n1, n2) = true := openP_on ((HOE.out (n1, n2)).trans hon)
                      have hsm := Gr.okSmall HOK.out hnn
                      obtain ⟨j, hj⟩ : ∃ j : Nat, indexP g (n1, n2) = j := ⟨(indexP g (n1, n2)).toNat, by omega⟩
                      rw [hj] at hsm HSM
                      have hj' : n2 * (w : Int) + n1 = (j : Int) := by rw [← hj, ← HGW.out.1]; rfl
                      have hjN : j < N := by have h5 := hsm.2.2.2.2.2.1; rw [← HN.out, ← HGW.out.1, ← HGW.out.2]; exact_mod_cast h5
                      have hjN' : (j : Int) < (N : Int) := by omega
                      have f1 := cell_below (HCELL.out j _ (ints_getD (by rw [HM.out]; exact hjN))) HBo7.out
                      have hq9 := HFB.out j
                      obtain ⟨q, hq⟩ : ∃ q, far.getD j 0 = q := ⟨_, rfl⟩
                      rw [Int.toNat_natCast, hq] at HSM
                      rw [hq] at f1 hq9
                      have e5 := fun x : Grow w7 => grow_cell f1 x
                      have hws : IntKind.i64.wrap (q + g.move) = q + g.move := IntWalk.i64_in _ (by omega)
                      rw [HGW.out.1] at hsm
                      have hwm : IntKind.i64.wrap (n2 * (w : Int)) = n2 * (w : Int) := IntWalk.i64_in _ (by dsimp only at hsm; omega)
                      have hwa : IntKind.i64.wrap (n2 * (w : Int) + n1) = (j : Int) := by rw [hj']; exact IntWalk.i64_in _ (by clear hwm; omega)
                      clear hon hnn hsm hj hj' hq f1 hq9
                      by_cases hlt : q + g.move < v
                      · have HR1 := Lib.hid (HT.out k hkN (cellBad_step (by omega) (by rw [HSM.out, decide_eq_true hlt]; rfl)))
                        refine wp_region_grow (by kernel_rfl) (by kernel_rfl) ?_
                        repeat (go_big_quiet_step (first | (go_at_call 43; (with_reducible refine grow_of (HOPC.out _))) | (go_at_call 43; (with_reducible refine grow_of (HOPV.out _)))))
                        refine wpQuiet_nil ?_
                        intro _ hw'
                        obtain ⟨xq, hw''⟩ := hw'
                        subst hw''
                        have HBq := Lib.hid (grow_below xq)
                        clear e0 e1 e2 e3 e4 e6 e7 e8 e9 e5 hws hwm hwa
                        generalize grow xq = w8 at *
                        have HB8 := Lib.hid (HB7.out.trans (HBq.out.mono HB7.out.size))
                        go_wp2_with fail
                        go_ret2
                        exact ⟨by rw [HR1.out]; rfl, HB2.out.trans ((HR.out.trans ((HB5.out.trans (HB8.out.mono HB5.out.size)).mono HR.out.size)).mono HB2.out.size)⟩
                      · have HA' := Lib.hid (HAN.out (by rw [HSM.out, decide_eq_false hlt]; rfl))
                        refine wp_region_grow (by kernel_rfl) (by kernel_rfl) ?_
                        repeat (go_big_quiet_step (first | (go_at_call 43; (with_reducible refine grow_of (HOPC.out _))) | (go_at_call 43; (with_reducible refine grow_of (HOPV.out _)))))
                        refine wpQuiet_nil ?_
                        intro _ hw'
                        obtain ⟨xq, hw''⟩ := hw'
                        subst hw''
                        have HBq := Lib.hid (grow_below xq)
                        clear e0 e1 e2 e3 e4 e6 e7 e8 e9 e5 hws hwm hwa
                        generalize grow xq = w8 at *
                        have HB8 := Lib.hid (HB7.out.trans (HBq.out.mono HB7.out.size))
                        go_wp2_with fail
                        go_roundw
                        case rel => exact ⟨m + 1, by omega, by go_num, HB8, HA'⟩
                        case measure => simp [intOf]; omega
                · obtain rfl : m = 4 := by omega
                  have HA' : Hid (∀ i, i < k + 1 → cellBad g (c1, c2) far i = false) := Lib.hid (fun i hi => by
                    rcases (by omega : i < k ∨ i = k) with h1 | rfl
                    · exact HA.out i h1
                    · exact cellBad_not HTF.out HS.out)
                  go_wp2_with fail
                  go_roundw
                  case rel => exact ⟨k + 1, by omega, by go_num, Lib.hid (HR.out.trans ((HB5.out.trans (HR5.out.mono HB5.out.size)).mono HR.out.size)), HA'⟩
                  case measure => simp [intOf]; omega
          · have heq' : (c1 == t1 && c2 == t2) = false := by
              rw [Bool.eq_false_iff]; intro hh; simp at hh; exact heq hh
            have HTF : Hid (topBad g (t1, t2) far k = false) := Lib.hid (by
              rw [HTB.out, decide_eq_false (fun e => heq ⟨by injection e, by injection e⟩), Bool.false_and])
            go_wp2_with fail
            clear b0 b1 x1 x2
            go_loopw [66] (fun p wr2 => ∃ m : Nat, m ≤ 4 ∧ p = .int .i64 m ∧ Hid (Below w5.heap.size w5 wr2) ∧ Hid (∀ d, d < m → stepBad g far k d = false)) (fun p _ => 4 - (intOf p).toNat)
            case atStart => exact ⟨0, Nat.zero_le _, rfl, Lib.hid (Below.refl _ _), Lib.hid fun i h => absurd h (Nat.not_lt_zero _)⟩
            case round =>
              obtain ⟨m, hm4, rfl, HR5, HS⟩ := hrel
              by_cases hm : m < 4
              · have d0 := cell_below HG0.out HR5.out
                have d1 := cell_below HG1'.out HR5.out
                obtain ⟨⟨n1, n2⟩, hn12⟩ : ∃ n, besideP (c1, c2) m = n := ⟨_, rfl⟩
                have HSM := Lib.hid (HSB.out m)
                have HBSM := Lib.hid (fun V => refNext_any (c1, c2) m (by omega) V (by have := HNR.out; dsimp only at *; omega) (by have := HNR.out; dsimp only at *; omega) (by have := HNR.out; dsimp only at *; omega) (by have := HNR.out; dsimp only at *; omega))
                rw [hn12] at HBSM HSM
                dsimp only at HBSM
                clear hn12
                have HAN : Hid (stepBad g far k m = false → ∀ d, d < m + 1 → stepBad g far k d = false) := Lib.hid (fun h d hd => by
                  rcases (by omega : d < m ∨ d = m) with h1 | rfl
                  · exact HS.out d h1
                  · exact h)
                go_wp2_with (go_at_call 49; (with_reducible refine (HBSM.out _).mono ?_); rintro e w6 ⟨rfl, hb6⟩; have HB6 := Lib.hid (HR5.out.trans (hb6.mono HR5.out.size)); clear hb6)
                have HB7 : Hid (Below w5.heap.size w5 (w6.alloc (.cells #[.int .i64 n1, .int .i64 n2] 26))) := Lib.hid (HB6.out.alloc HB6.out.size _)
                have g0 : (w6.alloc (.cells #[.int .i64 n1, .int .i64 n2] 26)).cell? ⟨w6.heap.size, 0, none⟩ = some (.int .i64 n1) := World.cell?_alloc_at _ _ _ _ rfl
                have g1 : (w6.alloc (.cells #[.int .i64 n1, .int .i64 n2] 26)).cell? ⟨w6.heap.size, 1, none⟩ = some (.int .i64 n2) := World.cell?_alloc_at _ _ _ _ rfl
                generalize hW7 : w6.alloc (.cells #[.int .i64 n1, .int .i64 n2] 26) = w7 at *
                generalize w6.heap.size = nb at *
                have HBo7 := Lib.hid (HB5.out.trans (HB7.out.mono HB5.out.size))
                have h0 := cell_below HG0.out HB7.out
                have h1 := cell_below HG1'.out HB7.out
                obtain ⟨q0, q1, q2, q3, q4⟩ := HGR.out _ HBo7.out
                have e0 := fun x : Grow w7 => grow_cell h0 x
                have e1 := fun x : Grow w7 => grow_cell h1 x
                have e2 := fun x : Grow w7 => grow_cell g0 x
                have e3 := fun x : Grow w7 => grow_cell g1 x
                have e4 := fun x : Grow w7 => grow_cell q2 x
                have e6 := fun x : Grow w7 => grow_cell q0 x
                have e7 := fun x : Grow w7 => grow_cell q1 x
                have e8 := fun x : Grow w7 => grow_cell q3 x
                have e9 := fun x : Grow w7 => grow_cell q4 x
                have HBW7 := Lib.hid (HBWo.out.trans (HBo7.out.mono HBWo.out.size))
                have HOPC := Lib.hid (fun x : Grow w7 => HOV.out (c1, c2) (grow x) (HBW7.out.trans ((grow_below x).mono HBW7.out.size)))
                have HOPV := Lib.hid (fun x : Grow w7 => HOV.out (n1, n2) (grow x) (HBW7.out.trans ((grow_below x).mono HBW7.out.size)))
                dsimp only at HOPC HOPV
                clear hW7 d0 d1 h0 h1 g0 g1 q0 q1 q2 q3 q4 HBSM
                cases hoc : refOpenP w h bl (c1, c2) with
                | false =>
                  rw [hoc] at HOPC
                  rw [HOE.out, hoc] at HSM
                  have HA' := Lib.hid (HAN.out (by rw [HSM.out]; rfl))
                  clear hoc
                  refine wp_region_grow (by kernel_rfl) (by kernel_rfl) ?_
                  repeat (go_big_quiet_step (first | (go_at_call 43; (with_reducible refine grow_of (HOPC.out _))) | (go_at_call 43; (with_reducible refine grow_of (HOPV.out _)))))
                  refine wpQuiet_nil ?_
                  intro _ hw'
                  obtain ⟨xq, hw''⟩ := hw'
                  subst hw''
                  have HBq := Lib.hid (grow_below xq)
                  clear e0 e1 e2 e3 e4 e6 e7 e8 e9
                  generalize grow xq = w8 at *
                  have HB8 := Lib.hid (HB7.out.trans (HBq.out.mono HB7.out.size))
                  go_wp2_with fail
                  go_roundw
                  case rel => exact ⟨m + 1, by omega, by go_num, HB8, HA'⟩
                  case measure => simp [intOf]; omega
                | true =>
                  rw [hoc] at HOPC
                  rw [HOE.out, hoc] at HSM
                  clear hoc
                  cases hon : refOpenP w h bl (n1, n2) with
                  | false =>
                    rw [hon] at HOPV
                    rw [HOE.out, hon] at HSM
                    have HA' := Lib.hid (HAN.out (by rw [HSM.out]; rfl))
                    clear hon
                    refine wp_region_grow (by kernel_rfl) (by kernel_rfl) ?_
                    repeat (go_big_quiet_step (first | (go_at_call 43; (with_reducible refine grow_of (HOPC.out _))) | (go_at_call 43; (with_reducible refine grow_of (HOPV.out _)))))
                    refine wpQuiet_nil ?_
                    intro _ hw'
                    obtain ⟨xq, hw''⟩ := hw'
                    subst hw''
                    have HBq := Lib.hid (grow_below xq)
                    clear e0 e1 e2 e3 e4 e6 e7 e8 e9
                    generalize grow xq = w8 at *
                    have HB8 := Lib.hid (HB7.out.trans (HBq.out.mono HB7.out.size))
                    go_wp2_with fail
                    go_roundw
                    case rel => exact ⟨m + 1, by omega, by go_num, HB8, HA'⟩
                    case measure => simp [intOf]; omega
                  | true =>
                    rw [hon] at HOPV
                    rw [HOE.out, hon] at HSM
                    have hnn : onP g.w g.h (n1, n2) = true := openP_on ((HOE.out (n1, n2)).trans hon)
                    have hsm := Gr.okSmall HOK.out hnn
                    obtain ⟨j, hj⟩ : ∃ j : Nat, indexP g (n1, n2) = j := ⟨(indexP g (n1, n2)).toNat, by omega⟩
                    rw [hj] at hsm HSM
                    have hj' : n2 * (w : Int) + n1 = (j : Int) := by rw [← hj, ← HGW.out.1]; rfl
                    have hjN : j < N := by have h5 := hsm.2.2.2.2.2.1; rw [← HN.out, ← HGW.out.1, ← HGW.out.2]; exact_mod_cast h5
                    have hjN' : (j : Int) < (N : Int) := by omega
                    have f1 := cell_below (HCELL.out j _ (ints_getD (by rw [HM.out]; exact hjN))) HBo7.out
                    have hq9 := HFB.out j
                    obtain ⟨q, hq⟩ : ∃ q, far.getD j 0 = q := ⟨_, rfl⟩
                    rw [Int.toNat_natCast, hq] at HSM
                    rw [hq] at f1 hq9
                    have e5 := fun x : Grow w7 => grow_cell f1 x
                    have hws : IntKind.i64.wrap (q + g.move) = q + g.move := IntWalk.i64_in _ (by omega)
                    rw [HGW.out.1] at hsm
                    have hwm : IntKind.i64.wrap (n2 * (w : Int)) = n2 * (w : Int) := IntWalk.i64_in _ (by dsimp only at hsm; omega)
                    have hwa : IntKind.i64.wrap (n2 * (w : Int) + n1) = (j : Int) := by rw [hj']; exact IntWalk.i64_in _ (by clear hwm; omega)
                    clear hon hnn hsm hj hj' hq f1 hq9
                    by_cases hlt : q + g.move < v
                    · have HR1 := Lib.hid (HT.out k hkN (cellBad_step (by omega) (by rw [HSM.out, decide_eq_true hlt]; rfl)))
                      refine wp_region_grow (by kernel_rfl) (by kernel_rfl) ?_
                      repeat (go_big_quiet_step (first | (go_at_call 43; (with_reducible refine grow_of (HOPC.out _))) | (go_at_call 43; (with_reducible refine grow_of (HOPV.out _)))))
                      refine wpQuiet_nil ?_
                      intro _ hw'
                      obtain ⟨xq, hw''⟩ := hw'
                      subst hw''
                      have HBq := Lib.hid (grow_below xq)
                      clear e0 e1 e2 e3 e4 e6 e7 e8 e9 e5 hws hwm hwa
                      generalize grow xq = w8 at *
                      have HB8 := Lib.hid (HB7.out.trans (HBq.out.mono HB7.out.size))
                      go_wp2_with fail
                      go_ret2
                      exact ⟨by rw [HR1.out]; rfl, HB2.out.trans ((HR.out.trans ((HB5.out.trans (HB8.out.mono HB5.out.size)).mono HR.out.size)).mono HB2.out.size)⟩
                    · have HA' := Lib.hid (HAN.out (by rw [HSM.out, decide_eq_false hlt]; rfl))
                      refine wp_region_grow (by kernel_rfl) (by kernel_rfl) ?_
                      repeat (go_big_quiet_step (first | (go_at_call 43; (with_reducible refine grow_of (HOPC.out _))) | (go_at_call 43; (with_reducible refine grow_of (HOPV.out _)))))
                      refine wpQuiet_nil ?_
                      intro _ hw'
                      obtain ⟨xq, hw''⟩ := hw'
                      subst hw''
                      have HBq := Lib.hid (grow_below xq)
                      clear e0 e1 e2 e3 e4 e6 e7 e8 e9 e5 hws hwm hwa
                      generalize grow xq = w8 at *
                      have HB8 := Lib.hid (HB7.out.trans (HBq.out.mono HB7.out.size))
                      go_wp2_with fail
                      go_roundw
                      case rel => exact ⟨m + 1, by omega, by go_num, HB8, HA'⟩
                      case measure => simp [intOf]; omega
              · obtain rfl : m = 4 := by omega
                have HA' : Hid (∀ i, i < k + 1 → cellBad g (t1, t2) far i = false) := Lib.hid (fun i hi => by
                  rcases (by omega : i < k ∨ i = k) with h1 | rfl
                  · exact HA.out i h1
                  · exact cellBad_not HTF.out HS.out)
                go_wp2_with fail
                go_roundw
                case rel => exact ⟨k + 1, by omega, by go_num, Lib.hid (HR.out.trans ((HB5.out.trans (HR5.out.mono HB5.out.size)).mono HR.out.size)), HA'⟩
                case measure => simp [intOf]; omega
        · obtain rfl : k = N := by omega
          have HR1 := Lib.hid (HF.out HA.out)
          go_wp2_with fail
          go_ret2
          exact ⟨by rw [HR1.out]; rfl, HB2.out.trans (HR.out.mono HB2.out.size)⟩
end Go.Proofs.Ytpakkjkjppibnaa

namespace Go.Proofs.Ytpakkjkjppibnaa
open Go.RowKit

theorem valid_nat {w h mv bd : Int} {bl : List (Int × Int)} (hb : validP w h mv bd bl = true) : ∃ n m : Nat, w = n ∧ h = m := by
  have := ((validP_iff _ _ _ _ _).1 hb).1
  exact ⟨w.toNat, h.toNat, by omega, by omega⟩
theorem isProofP_bad {w h mv bd : Int} {bl : List (Int × Int)} {to : Int × Int} {far : List Int} (hb : validP w h mv bd bl = false) : isProofP w h mv bd bl to far = (false, 70) := by
  unfold isProofP; rw [hb]; rfl
theorem isProofP_block {w h mv bd : Int} {bl : List (Int × Int)} {to : Int × Int} {far : List Int} (hb : validP w h mv bd bl = true) (ho : refOpenP w h bl to = false) : isProofP w h mv bd bl to far = (false, 72) := by
  unfold isProofP; rw [hb, ho]; rfl
theorem isProofP_arg {w h : Nat} {mv bd : Int} {bl : List (Int × Int)} {to : Int × Int} {far : List Int} (hb : validP w h mv bd bl = true) (ho : refOpenP w h bl to = true) (hbad : ¬ (far.length = w * h ∧ (far.all fun n => inB (-1000000000) n 1000000000) = true)) : isProofP w h mv bd bl to far = (false, 2) := by
  unfold isProofP
  rw [hb, ho, if_pos rfl, if_pos rfl, if_neg]
  rintro ⟨h1, h2⟩
  exact hbad ⟨by exact_mod_cast h1, h2⟩
theorem isProofP_run {w h : Nat} {mv bd : Int} {bl : List (Int × Int)} {to : Int × Int} {far : List Int} (hb : validP w h mv bd bl = true) (ho : refOpenP w h bl to = true) (hlen : far.length = w * h) (hall : (far.all fun n => inB (-1000000000) n 1000000000) = true) : isProofP w h mv bd bl to far = (proofB (grK w h mv bd bl bl.length) to far, 0) := by
  unfold isProofP
  rw [hb, ho, if_pos rfl, if_pos rfl, if_pos ⟨by exact_mod_cast hlen, hall⟩]
  rfl

theorem isProof_any (w h mv bd : Int) (bv : Value) (bl : List (Int × Int)) (to : Int × Int) (fv : Value) (far : List Int) (W : World) (hv : RdP W bv bl) (hf : Rd W fv (ints far)) :
    Calls Try.prog 20 #[.agg #[.int .i64 w, .int .i64 h, .int .i64 mv, .int .i64 bd, bv], .agg #[.int .i64 to.1, .int .i64 to.2], fv] W fun e w' => e = .returned (.tuple #[.bool (isProofP w h mv bd bl to far).1, .int .i64 (isProofP w h mv bd bl to far).2]) ∧ Below W.heap.size W w' := by
  cases hb : validP w h mv bd bl with
  | false => rw [isProofP_bad hb]; exact isProof_bad w h mv bd bv bl to fv W hv hb
  | true =>
    obtain ⟨n, m, rfl, rfl⟩ := valid_nat hb
    cases ho : refOpenP n m bl to with
    | false => rw [isProofP_block hb ho]; exact isProof_block n m mv bd bv bl to fv W hv hb ((open_eq hb to).trans ho)
    | true =>
      by_cases hg : far.length = n * m ∧ (far.all fun n => inB (-1000000000) n 1000000000) = true
      · rw [isProofP_run hb ho hg.1 hg.2]; exact isProof_run n m mv bd bv bl to fv far W hv hb ((open_eq hb to).trans ho) hf hg.1 hg.2
      · rw [isProofP_arg hb ho hg]; exact isProof_arg n m mv bd bv bl to fv far W hv hb ((open_eq hb to).trans ho) hf hg
theorem refProof_any (w h mv bd : Int) (bv : Value) (bl : List (Int × Int)) (to : Int × Int) (fv : Value) (far : List Int) (W : World) (hv : RdP W bv bl) (hf : Rd W fv (ints far)) :
    Calls Try.prog 21 #[.agg #[.int .i64 w, .int .i64 h, .int .i64 mv, .int .i64 bd, bv], .agg #[.int .i64 to.1, .int .i64 to.2], fv] W fun e w' => e = .returned (.tuple #[.bool (isProofP w h mv bd bl to far).1, .int .i64 (isProofP w h mv bd bl to far).2]) ∧ Below W.heap.size W w' := by
  cases hb : validP w h mv bd bl with
  | false => rw [isProofP_bad hb]; exact refProof_bad w h mv bd bv bl to fv W hv hb
  | true =>
    obtain ⟨n, m, rfl, rfl⟩ := valid_nat hb
    cases ho : refOpenP n m bl to with
    | false => rw [isProofP_block hb ho]; exact refProof_block n m mv bd bv bl to fv W hv hb ho
    | true =>
      by_cases hlen : far.length = n * m
      · cases hall : (far.all fun n => inB (-1000000000) n 1000000000) with
        | true => rw [isProofP_run hb ho hlen hall]; exact refProof_run n m mv bd bv bl to fv far W hv hb ho hf hlen hall
        | false => rw [isProofP_arg hb ho (fun hg => by rw [hall] at hg; exact absurd hg.2 (by decide))]; exact refProof_arg n m mv bd bv bl to fv far W hv hb ho hf hlen hall
      · rw [isProofP_arg hb ho (fun hg => hlen hg.1)]; exact refProof_len n m mv bd bv bl to fv far W hv hb ho hf hlen
end Go.Proofs.Ytpakkjkjppibnaa

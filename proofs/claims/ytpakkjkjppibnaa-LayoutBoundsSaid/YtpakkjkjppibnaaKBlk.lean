/- Layout: the law LayoutBounds, walked.
   Layout: the law LayoutBounds, walked: where there are costs.
   Layout: Far in one form; a list of cells appended in a region that draws its order; LayoutBlocks: plain. -/
import Derived.Test.YtpakkjkjppibnaaKShort
import Derived.Outline
namespace Go.Proofs.Ytpakkjkjppibnaa
open Go.RowKit

set_option maxRecDepth 100000 in
theorem bounds_big (w h mv bd : Int) (bv : Value) (bl : List (Int × Int)) (t1 t2 : Int) (fv : Value) (far : List Int) (W : World) (hv : RdP W bv bl) (hf : Rd W fv (ints far)) (hs : (!validP w h mv bd bl || decide (w * h ≤ 144)) = false) :
    Calls Try.prog 6 #[.agg #[.int .i64 w, .int .i64 h, .int .i64 mv, .int .i64 bd, bv], .agg #[.int .i64 t1, .int .i64 t2], fv] W fun e w' => e = .returned (.bool true) ∧ Below W.heap.size W w' := by
  have hbW := Lib.hid (((Below.refl W.heap.size W).alloc (Nat.le_refl _) (.cells #[.int .i64 w, .int .i64 h, .int .i64 mv, .int .i64 bd, bv] 24)).alloc (by simp) (.cells #[.int .i64 t1, .int .i64 t2] 26))
  have HSM := Lib.hid (fun V (hV : Below W.heap.size W V) => small_any w h mv bd bv bl V (hv.below hV))
  have HAW := Lib.hid (fun V => awake_any V)
  rw [hs] at HSM
  obtain ⟨a, cap, rfl, hc, hcm, _, _⟩ := hv
  obtain ⟨fa, fcap, rfl, hfc, hfcm, hfa, _⟩ := hf
  clear hs hfa
  go_enter Try.func6, Try.ntmps6
  go_wp2_with (first
    | (go_at_call 12; (with_reducible refine (HSM.out _ hbW.out).mono ?_); rintro e w1 ⟨rfl, hb1⟩; have HB1 := Lib.hid (hbW.out.trans (hb1.mono (by simp; omega))))
    | (go_at_call 13; refine (HAW.out _).mono ?_; rintro e w3 ⟨rfl, hb3⟩))
  go_ret
  exact ⟨rfl, HB1.out.trans (hb3.mono HB1.out.size)⟩

set_option maxRecDepth 100000 in
theorem bounds_err (w h mv bd : Int) (bv : Value) (bl : List (Int × Int)) (t1 t2 : Int) (fv : Value) (far : List Int) (W : World) (hv : RdP W bv bl) (hf : Rd W fv (ints far)) (hs : (!validP w h mv bd bl || decide (w * h ≤ 144)) = true)
    (pe : Int) (hpe : (pe != 0) = true) (HFR : Hid (∀ V, Below W.heap.size W V → Calls Try.prog 14 #[.agg #[.int .i64 w, .int .i64 h, .int .i64 mv, .int .i64 bd, bv], .agg #[.int .i64 t1, .int .i64 t2]] V fun e w' => e = .returned (.tuple #[.slice none 0 0, .int .i64 pe]) ∧ Below V.heap.size V w')) :
    Calls Try.prog 6 #[.agg #[.int .i64 w, .int .i64 h, .int .i64 mv, .int .i64 bd, bv], .agg #[.int .i64 t1, .int .i64 t2], fv] W fun e w' => e = .returned (.bool true) ∧ Below W.heap.size W w' := by
  have hbW := Lib.hid (((Below.refl W.heap.size W).alloc (Nat.le_refl _) (.cells #[.int .i64 w, .int .i64 h, .int .i64 mv, .int .i64 bd, bv] 24)).alloc (by simp) (.cells #[.int .i64 t1, .int .i64 t2] 26))
  have HBX := Lib.hid (BxAt.new W (.cells #[.int .i64 w, .int .i64 h, .int .i64 mv, .int .i64 bd, bv] 24) t1 t2 26)
  have HGX := Lib.hid (GBx.new W w h mv bd bv 24 (.cells #[.int .i64 t1, .int .i64 t2] 26))
  have HSM := Lib.hid (fun V (hV : Below W.heap.size W V) => small_any w h mv bd bv bl V (hv.below hV))
  have HAW := Lib.hid (fun V => awake_any V)
  rw [hs] at HSM
  obtain ⟨a, cap, rfl, hc, hcm, _, _⟩ := hv
  obtain ⟨fa, fcap, rfl, hfc, hfcm, hfa, _⟩ := hf
  clear hs hfa
  go_enter Try.func6, Try.ntmps6
  go_wp2_with (first
    | (go_at_call 12; (with_reducible refine (HSM.out _ hbW.out).mono ?_); rintro e w1 ⟨rfl, hb1⟩; have HB1 := Lib.hid (hbW.out.trans (hb1.mono (by simp; omega))); obtain ⟨c0, c1, c2, c3, c4⟩ := HGX.out.below hb1; obtain ⟨c5, c6⟩ := HBX.out.below hb1; clear hb1)
    | (go_at_call 14; (with_reducible refine (HFR.out _ HB1.out).mono ?_); rintro e w2 ⟨rfl, hb2⟩; have HB2 := Lib.hid (HB1.out.trans (hb2.mono HB1.out.size)))
    | (go_at_call 13; refine (HAW.out _).mono ?_; rintro e w3 ⟨rfl, hb3⟩))
  go_ret
  exact ⟨rfl, HB2.out.trans (hb3.mono HB2.out.size)⟩
end Go.Proofs.Ytpakkjkjppibnaa

namespace Go.Proofs.Ytpakkjkjppibnaa
open Go.RowKit

theorem Rd.cellsAt {w : World} {a : Option Addr} {n c : Nat} {cs : List Value} (h : Rd w (.slice a n c) cs) : CellsAt w a cs := by
  obtain ⟨a', cap', he, _, _, h, _⟩ := h
  injection he with h1 _ _
  rw [h1]; exact h

set_option maxRecDepth 100000 in
set_option maxHeartbeats 1000000 in
theorem bounds_ok (w h : Nat) (mv bd : Int) (bv : Value) (bl : List (Int × Int)) (t1 t2 : Int) (fv : Value) (far : List Int) (W : World) (hv : RdP W bv bl) (hf : Rd W fv (ints far)) (hb : validP w h mv bd bl = true) (ho : openP (grK w h mv bd bl bl.length) (t1, t2) = true) (h144 : (w : Int) * (h : Int) ≤ 144) :
    Calls Try.prog 6 #[.agg #[.int .i64 w, .int .i64 h, .int .i64 mv, .int .i64 bd, bv], .agg #[.int .i64 t1, .int .i64 t2], fv] W fun e w' => e = .returned (.bool true) ∧ Below W.heap.size W w' := by
  have hbW := Lib.hid (((Below.refl W.heap.size W).alloc (Nat.le_refl _) (.cells #[.int .i64 w, .int .i64 h, .int .i64 mv, .int .i64 bd, bv] 24)).alloc (by simp) (.cells #[.int .i64 t1, .int .i64 t2] 26))
  have HBX := Lib.hid (BxAt.new W (.cells #[.int .i64 w, .int .i64 h, .int .i64 mv, .int .i64 bd, bv] 24) t1 t2 26)
  have HGX := Lib.hid (GBx.new W w h mv bd bv 24 (.cells #[.int .i64 t1, .int .i64 t2] 26))
  have HSM := Lib.hid (fun V (hV : Below W.heap.size W V) => small_any w h mv bd bv bl V (hv.below hV))
  have HVA := Lib.hid (fun V (hV : Below W.heap.size W V) => refValid_any w h mv bd bv bl V (hv.below hV))
  have HFR := Lib.hid (fun V (hV : Below W.heap.size W V) => far_ok w h mv bd bv bl (t1, t2) V (hv.below hV) hb ho)
  have hg := grK_ok hb bl.length
  have hon := openP_on ho
  have hp := ((validP_iff _ _ _ _ _).1 hb).1
  have htt : 0 ≤ t1 ∧ t1 ≤ 30 ∧ 0 ≤ t2 ∧ t2 ≤ 30 := by have := Gr.okSmall hg hon; dsimp only at this; omega
  have HDS := Lib.hid (fun V => dist_any w h mv bd bv (t1, t2) V (by omega) (by omega) (by omega) (by dsimp only; omega) (by dsimp only; omega))
  have HAW := Lib.hid (fun V => awake_any V)
  have HPA := Lib.hid (fun v V (hV : Below W.heap.size W V) (hd : Rd V v (ints (distL w mv (t1, t2) (w * h)))) => isProof_any w h mv bd bv bl (t1, t2) v _ V (hv.below hV) hd)
  have HPF := Lib.hid (fun V (hV : Below W.heap.size W V) => isProof_any w h mv bd bv bl (t1, t2) fv far V (hv.below hV) (hf.below hV (Nat.le_refl _)))
  have hdp : isProofP w h mv bd bl (t1, t2) (distL w mv (t1, t2) (w * h)) = (true, 0) := by
    have hdi : ((distL w mv (t1, t2) (w * h)).all fun n => inB (-1000000000) n 1000000000) = true := dist_in hg hon
    rw [isProofP_run hb ((open_eq hb _).symm.trans ho) (distL_len _ _ _ _) hdi]
    rw [show proofB (grK w h mv bd bl bl.length) (t1, t2) (distL w mv (t1, t2) (w * h)) = true from dist_proof hg (t1, t2)]
  rw [hdp] at HPA
  have hs : (!validP w h mv bd bl || decide ((w : Int) * (h : Int) ≤ 144)) = true := by rw [hb, decide_eq_true h144]; rfl
  rw [hs] at HSM
  rw [hb] at HVA
  have HFF : Hid ((isProofP w h mv bd bl (t1, t2) far).2 = 0 → (isProofP w h mv bd bl (t1, t2) far).1 = true → far.length = w * h ∧ ∀ i, i < w * h → 0 ≤ farCell (grK w h mv bd bl bl.length) (fieldP (grK w h mv bd bl bl.length) (t1, t2)) (t1, t2) i → far.getD i 0 ≤ farCell (grK w h mv bd bl bl.length) (fieldP (grK w h mv bd bl bl.length) (t1, t2)) (t1, t2) i) := Lib.hid (fun h1 h2 => by
    by_cases hgd : far.length = w * h ∧ (far.all fun n => inB (-1000000000) n 1000000000) = true
    · rw [isProofP_run hb ((open_eq hb _).symm.trans ho) hgd.1 hgd.2] at h2
      exact ⟨hgd.1, fun i hi h0 => proof_far hg h2 ho h0⟩
    · rw [isProofP_arg hb ((open_eq hb _).symm.trans ho) hgd] at h1
      cases h1)
  have HFPL : Hid (farP (grK w h mv bd bl bl.length) (t1, t2) = farL (grK w h mv bd bl bl.length) (fieldP (grK w h mv bd bl bl.length) (t1, t2)) (t1, t2) (w * h)) := Lib.hid rfl
  have HFC : Hid (∀ i, i < w * h → (farL (grK w h mv bd bl bl.length) (fieldP (grK w h mv bd bl bl.length) (t1, t2)) (t1, t2) (w * h)).getD i 0 = farCell (grK w h mv bd bl bl.length) (fieldP (grK w h mv bd bl bl.length) (t1, t2)) (t1, t2) i) := Lib.hid (fun i hi => by
    rw [List.getD_eq_getElem?_getD]
    unfold farL
    rw [List.getElem?_map, List.getElem?_range hi]
    rfl)
  have HFL := Lib.hid (farL_len (grK w h mv bd bl bl.length) (fieldP (grK w h mv bd bl bl.length) (t1, t2)) (t1, t2) (w * h))
  rw [HFPL.out] at HFR
  generalize farL (grK w h mv bd bl bl.length) (fieldP (grK w h mv bd bl bl.length) (t1, t2)) (t1, t2) (w * h) = costs at *
  generalize farCell (grK w h mv bd bl bl.length) (fieldP (grK w h mv bd bl bl.length) (t1, t2)) (t1, t2) = cell at *
  obtain ⟨pf, hpf⟩ : ∃ p, (isProofP w h mv bd bl (t1, t2) far).1 = p := ⟨_, rfl⟩
  obtain ⟨pe, hpe⟩ : ∃ p, (isProofP w h mv bd bl (t1, t2) far).2 = p := ⟨_, rfl⟩
  rw [hpf, hpe] at HPF HFF
  obtain ⟨a, cap, rfl, hc, hcm, _, _⟩ := hv
  have HFV := Lib.hid hf
  obtain ⟨fa, fcap, rfl, hfc, hfcm, hfa, _⟩ := hf
  obtain ⟨N, hN⟩ : ∃ N, w * h = N := ⟨_, rfl⟩
  have hcells := hg.cells
  change 1 ≤ w * h ∧ w * h ≤ 900 at hcells
  rw [hN] at hcells HFR HDS HPA HFF HFL HFC
  have hNi : (w : Int) * (h : Int) = (N : Int) := by rw [← hN]; simp
  have hwN : IntKind.i64.wrap (N : Int) = (N : Int) := IntWalk.i64_in _ (by clear hNi; omega)
  have hFL := HFL.out
  generalize distL w mv (t1, t2) N = dl at *
  clear hg hon hp htt hdp hs hb ho h144 hpf hpe hfa HFPL hN
  rw [ints_length] at *
  dsimp only at *
  go_enter Try.func6, Try.ntmps6
  go_wp2_with (first
    | (go_at_call 12; (with_reducible refine (HSM.out _ hbW.out).mono ?_); rintro e w1 ⟨rfl, hb1⟩; have HB1 := Lib.hid (hbW.out.trans (hb1.mono (by simp; omega))); have HX1 := Lib.hid (HBX.out.below hb1); have HG1 := Lib.hid (HGX.out.below hb1); obtain ⟨c0, c1, c2, c3, c4⟩ := HG1.out; obtain ⟨c5, c6⟩ := HX1.out; clear hb1)
    | (go_at_call 14; (with_reducible refine (HFR.out _ HB1.out).mono ?_); rintro e w2 ⟨⟨cv, rfl, hco⟩, hb2⟩; have HCO := Lib.hid (Rd.own hco); have HB2 := Lib.hid (HB1.out.trans (hb2.mono HB1.out.size)); have HG2 := Lib.hid (HG1.out.below hb2); have HX2 := Lib.hid (HX1.out.below hb2); clear c0 c1 c2 c3 c4 c5 c6 hb2 hco; obtain ⟨c0, c1, c2, c3, c4⟩ := HG2.out; obtain ⟨ca, ccap, rfl, hcc1, hcc2, hcc3, _⟩ := HCO.out; rw [ints_length, hFL] at *)
    | (go_at_call 22; (with_reducible refine (HVA.out _ HB2.out).mono ?_); rintro e w3 ⟨rfl, hb3⟩; have HB3 := Lib.hid (HB2.out.trans (hb3.mono HB2.out.size)); have HG3 := Lib.hid (HG2.out.below hb3); have HX3 := Lib.hid (HX2.out.below hb3); have HCO3 := Lib.hid (HCO.out.below hb3 (Nat.le_refl _)); clear c0 c1 c2 c3 c4 hb3; obtain ⟨c0, c1, c2, c3, c4⟩ := HG3.out; obtain ⟨c5, c6⟩ := HX3.out)
    | (go_at_call 13; refine (HAW.out _).mono ?_; rintro e w3 ⟨rfl, hb3⟩))
  have q0 : ∀ V : World, Hid (Below w3.heap.size w3 V) → V.cell? ⟨W.heap.size, 0, none⟩ = some (.int .i64 w) := fun V h => cell_below c0 h.out
  have q1 : ∀ V : World, Hid (Below w3.heap.size w3 V) → V.cell? ⟨W.heap.size, 1, none⟩ = some (.int .i64 h) := fun V h => cell_below c1 h.out
  have q2 : ∀ V : World, Hid (Below w3.heap.size w3 V) → V.cell? ⟨W.heap.size, 2, none⟩ = some (.int .i64 mv) := fun V h => cell_below c2 h.out
  have q3 : ∀ V : World, Hid (Below w3.heap.size w3 V) → V.cell? ⟨W.heap.size, 3, none⟩ = some (.int .i64 bd) := fun V h => cell_below c3 h.out
  have q4 : ∀ V : World, Hid (Below w3.heap.size w3 V) → V.cell? ⟨W.heap.size, 4, none⟩ = some (.slice a bl.length cap) := fun V h => cell_below c4 h.out
  have q5 : ∀ V : World, Hid (Below w3.heap.size w3 V) → V.cell? ⟨W.heap.size + 1, 0, none⟩ = some (.int .i64 t1) := fun V h => cell_below c5 h.out
  have q6 : ∀ V : World, Hid (Below w3.heap.size w3 V) → V.cell? ⟨W.heap.size + 1, 1, none⟩ = some (.int .i64 t2) := fun V h => cell_below c6 h.out
  have HWV := Lib.hid (fun (V : World) (h : Hid (Below w3.heap.size w3 V)) => HB3.out.trans (h.out.mono HB3.out.size))
  clear c0 c1 c2 c3 c4 c5 c6
  go_region_held3 (fun w' => Hid (Below w3.heap.size w3 w'))
    (first | exact Lib.hid (Below.refl _ _).drew | exact heldB hbk (by assumption))
    (first
      | (go_at_call 23; refine (HDS.out _).mono ?_; rintro e wk ⟨dv, rfl, hod, hbk⟩; have hkk := Lib.hid (heldB hbk (by assumption)); have HDV := Lib.hid (Rd.own hod))
      | (go_at_call 20; refine (HPA.out _ _ (HWV.out _ (by assumption)) HDV.out).mono ?_; rintro e wk ⟨rfl, hbk⟩; have hkk := Lib.hid (heldB hbk (by assumption))))
  have HK := Lib.hid (HB3.out.trans (hkk.out.out.mono HB3.out.size))
  have HCOk := Lib.hid (HCO3.out.below hkk.out.out (Nat.le_refl _))
  obtain ⟨c0, c1, c2, c3, c4⟩ := HG3.out.below hkk.out.out
  obtain ⟨c5, c6⟩ := HX3.out.below hkk.out.out
  clear q0 q1 q2 q3 q4 q5 q6
  by_cases hpe : pe = 0
  · subst hpe
    cases pf with
    | false =>
      go_wp2_with (first
        | (go_at_call 20; (with_reducible refine (HPF.out _ HK.out).mono ?_); rintro e w5 ⟨rfl, hb5⟩; have HK5 := Lib.hid (HK.out.trans (hb5.mono HK.out.size)); have HC5 := Lib.hid (HCOk.out.below hb5 (Nat.le_refl _)))
        | (go_at_call 13; refine (HAW.out _).mono ?_; rintro e w6 ⟨rfl, hb6⟩))
      go_ret
      exact ⟨rfl, HK5.out.trans (hb6.mono HK5.out.size)⟩
    | true =>
      obtain ⟨hfl, hfb⟩ := HFF.out rfl rfl
      have HFB := Lib.hid hfb
      have HFL2 := Lib.hid hfl
      rw [hfl] at HPF hfc HFV ⊢
      clear hfb hfl
      go_wp2_with (first
        | (go_at_call 20; (with_reducible refine (HPF.out _ HK.out).mono ?_); rintro e w5 ⟨rfl, hb5⟩; have HK5 := Lib.hid (HK.out.trans (hb5.mono HK.out.size)); have HC5 := Lib.hid (HCOk.out.below hb5 (Nat.le_refl _)))
        | (go_at_call 13; refine (HAW.out _).mono ?_; rintro e w6 ⟨rfl, hb6⟩))
      go_loopw [81] (fun i wr => ∃ k : Nat, k ≤ N ∧ i = .int .i64 k ∧ Hid (Below w5.heap.size w5 wr)) (fun i _ => N - (intOf i).toNat)
      case atStart => exact ⟨0, Nat.zero_le _, rfl, Lib.hid (Below.refl _ _)⟩
      case round =>
        obtain ⟨k, hk, rfl, HR⟩ := hrel
        by_cases hkN : k < N
        · have hkN' : (k : Int) < (N : Int) := by omega
          have HKR := Lib.hid (HK5.out.trans (HR.out.mono HK5.out.size))
          obtain ⟨cb, co, rfl, hcell⟩ := (HC5.out.cellsAt.below HR.out (Nat.le_refl _)).cell (j := k) (by rw [ints_length, HFL.out]; exact hkN)
          have e0 := hcell k _ (ints_getD (by rw [HFL.out]; exact hkN))
          obtain ⟨fb, fo, rfl, hcell2⟩ := (HFV.out.cellsAt.below HKR.out (Nat.le_refl _)).cell (j := k) (by rw [ints_length, HFL2.out]; exact hkN)
          have e1 := hcell2 k _ (ints_getD (by rw [HFL2.out]; exact hkN))
          have hle := HFB.out k hkN
          rw [HFC.out k hkN] at e0
          generalize cell k = cv at *
          generalize far.getD k 0 = fv at *
          clear hcell hcell2
          by_cases h0 : 0 ≤ cv
          · have h1 : ¬ cv < fv := by have := hle h0; omega
            go_wp2_with fail
            go_roundw
            case rel => exact ⟨k + 1, by omega, by go_num, HR⟩
            case measure => simp [intOf]; omega
          · go_wp2_with fail
            go_roundw
            case rel => exact ⟨k + 1, by omega, by go_num, HR⟩
            case measure => simp [intOf]; omega
        · obtain rfl : k = N := by omega
          go_wp2_with (go_at_call 13; refine (HAW.out _).mono ?_; rintro e w6 ⟨rfl, hb6⟩)
          go_ret
          exact ⟨rfl, (HK5.out.trans (HR.out.mono HK5.out.size)).trans (hb6.mono (by have := HK5.out.size; have := HR.out.size; omega))⟩
  · have hpe' : (pe != 0) = true := by simpa using hpe
    go_wp2_with (first
      | (go_at_call 20; (with_reducible refine (HPF.out _ HK.out).mono ?_); rintro e w5 ⟨rfl, hb5⟩; have HK5 := Lib.hid (HK.out.trans (hb5.mono HK.out.size)); have HC5 := Lib.hid (HCOk.out.below hb5 (Nat.le_refl _)))
      | (go_at_call 13; refine (HAW.out _).mono ?_; rintro e w6 ⟨rfl, hb6⟩))
    go_ret
    exact ⟨rfl, HK5.out.trans (hb6.mono HK5.out.size)⟩

theorem law_bounds (w h mv bd : Int) (bv : Value) (bl : List (Int × Int)) (t1 t2 : Int) (fv : Value) (far : List Int) (W : World) (hv : RdP W bv bl) (hf : Rd W fv (ints far)) :
    Calls Try.prog 6 #[.agg #[.int .i64 w, .int .i64 h, .int .i64 mv, .int .i64 bd, bv], .agg #[.int .i64 t1, .int .i64 t2], fv] W fun e w' => e = .returned (.bool true) ∧ Below W.heap.size W w' := by
  cases hs : (!validP w h mv bd bl || decide (w * h ≤ 144)) with
  | false => exact bounds_big w h mv bd bv bl t1 t2 fv far W hv hf hs
  | true =>
    cases hb : validP w h mv bd bl with
    | false => exact bounds_err w h mv bd bv bl t1 t2 fv far W hv hf hs 70 (by decide) (Lib.hid fun V hV => far_bad w h mv bd bv bl (t1, t2) V (hv.below hV) hb)
    | true =>
      obtain ⟨n, m, rfl, rfl⟩ := valid_nat hb
      cases ho : openP (grK n m mv bd bl bl.length) (t1, t2) with
      | false => exact bounds_err n m mv bd bv bl t1 t2 fv far W hv hf hs 72 (by decide) (Lib.hid fun V hV => far_block n m mv bd bv bl (t1, t2) V (hv.below hV) hb ho)
      | true =>
        rw [hb] at hs
        exact bounds_ok n m mv bd bv bl t1 t2 fv far W hv hf hb ho (by simpa using hs)
end Go.Proofs.Ytpakkjkjppibnaa

namespace Go.Proofs.Ytpakkjkjppibnaa
open Go.RowKit

/-- what Far answers -/
def farF (w h mv bd : Int) (bl : List (Int × Int)) (to : Int × Int) : List Int × Int :=
  if validP w h mv bd bl then (if refOpenP w h bl to then (farP (grP w h mv bd bl) to, 0) else ([], 72)) else ([], 70)
theorem far_any (w h mv bd : Int) (bv : Value) (bl : List (Int × Int)) (to : Int × Int) (W : World) (hv : RdP W bv bl) :
    Calls Try.prog 14 #[.agg #[.int .i64 w, .int .i64 h, .int .i64 mv, .int .i64 bd, bv], .agg #[.int .i64 to.1, .int .i64 to.2]] W fun e w' => (∃ v, e = .returned (.tuple #[v, .int .i64 (farF w h mv bd bl to).2]) ∧ w'.ownsRow W.heap.size 3 1 v (farF w h mv bd bl to).1.length (ints (farF w h mv bd bl to).1)) ∧ Below W.heap.size W w' := by
  cases hb : validP w h mv bd bl with
  | false =>
    have e : farF w h mv bd bl to = ([], 70) := by unfold farF; rw [hb]; rfl
    rw [e]
    exact (far_bad w h mv bd bv bl to W hv hb).mono fun e w' hh => ⟨⟨_, hh.1, World.ownsRow_nil _ _ _ _⟩, hh.2⟩
  | true =>
    obtain ⟨n, m, rfl, rfl⟩ := valid_nat hb
    cases ho : refOpenP n m bl to with
    | false =>
      have e : farF n m mv bd bl to = ([], 72) := by unfold farF; rw [hb, ho]; rfl
      rw [e]
      exact (far_block n m mv bd bv bl to W hv hb ((open_eq hb to).trans ho)).mono fun e w' hh => ⟨⟨_, hh.1, World.ownsRow_nil _ _ _ _⟩, hh.2⟩
    | true =>
      have e : farF n m mv bd bl to = (farP (grK n m mv bd bl bl.length) to, 0) := by unfold farF; rw [hb, ho]; rfl
      rw [e]
      have hl : (farP (grK n m mv bd bl bl.length) to).length = n * m := farL_len _ _ _ _
      refine (far_ok n m mv bd bv bl to W hv hb ((open_eq hb to).trans ho)).mono fun e w' hh => ⟨?_, hh.2⟩
      obtain ⟨v, h1, h2⟩ := hh.1
      refine ⟨v, h1, ?_⟩
      rw [hl]; exact h2
theorem farP_at {g : Gr} {to : Int × Int} {i : Nat} (hi : i < g.w * g.h) : (farP g to).getD i 0 = farCell g (fieldP g to) to i := by
  unfold farP farL
  rw [List.getD_eq_getElem?_getD, List.getElem?_map, List.getElem?_range hi]; rfl
theorem farF_ok {w h mv bd : Int} {bl : List (Int × Int)} {to : Int × Int} (h0 : (farF w h mv bd bl to).2 = 0) : validP w h mv bd bl = true ∧ refOpenP w h bl to = true := by
  unfold farF at h0
  cases hb : validP w h mv bd bl with
  | false => rw [hb] at h0; cases h0
  | true =>
    cases ho : refOpenP w h bl to with
    | false => rw [hb, ho] at h0; cases h0
    | true => exact ⟨rfl, rfl⟩
theorem farF_run {w h : Nat} {mv bd : Int} {bl : List (Int × Int)} {to : Int × Int} (hb : validP w h mv bd bl = true) (ho : refOpenP w h bl to = true) : farF w h mv bd bl to = (farP (grK w h mv bd bl bl.length) to, 0) := by unfold farF; rw [hb, ho]; rfl
theorem farF_len {w h mv bd : Int} {bl : List (Int × Int)} {to : Int × Int} : (farF w h mv bd bl to).1.length ≤ 900 := by
  cases hb : validP w h mv bd bl with
  | false => unfold farF; rw [hb]; exact Nat.zero_le _
  | true =>
    obtain ⟨n, m, rfl, rfl⟩ := valid_nat hb
    cases ho : refOpenP n m bl to with
    | false => unfold farF; rw [hb, ho]; exact Nat.zero_le _
    | true =>
      rw [farF_run hb ho]
      change (farL _ _ _ _).length ≤ 900
      rw [farL_len]
      exact (grK_ok hb bl.length).cells.2

/-! ### one more blocked cell -/
theorem wk_mono {g g' : Gr} (hm : g'.move = g.move) (hbd : g'.bend = g.bend) (hop : ∀ c, openP g' c = true → openP g c = true) {to c : Int × Int} {d : Nat} {v : Int} (h : Wk g' to c d v) : Wk g to c d v := by
  induction h with
  | base d hd => exact Wk.base d hd
  | step c d v e h ho he ih =>
    have : stepP g' e d = stepP g e d := by unfold stepP; rw [hm, hbd]
    rw [this]
    exact Wk.step c d v e ih (hop _ ho) he
theorem more_blocks {w h mv bd : Int} {bl : List (Int × Int)} {to c : Int × Int} (h1 : (farF w h mv bd bl to).2 = 0) (h2 : (farF w h mv bd (bl ++ [c]) to).2 = 0) :
    (farF w h mv bd bl to).1.length = (farF w h mv bd (bl ++ [c]) to).1.length ∧ ∀ i, i < (farF w h mv bd bl to).1.length → 0 ≤ (farF w h mv bd (bl ++ [c]) to).1.getD i 0 → 0 ≤ (farF w h mv bd bl to).1.getD i 0 ∧ (farF w h mv bd bl to).1.getD i 0 ≤ (farF w h mv bd (bl ++ [c]) to).1.getD i 0 := by
  obtain ⟨hb1, ho1⟩ := farF_ok h1
  obtain ⟨hb2, ho2⟩ := farF_ok h2
  obtain ⟨n, m, rfl, rfl⟩ := valid_nat hb1
  rw [farF_run hb1 ho1, farF_run hb2 ho2]
  have hg1 := grK_ok hb1 bl.length
  have hg2 := grK_ok hb2 (bl ++ [c]).length
  have ht1 := (open_eq hb1 to).trans ho1
  have ht2 := (open_eq hb2 to).trans ho2
  have hop : ∀ x, openP (grK n m mv bd (bl ++ [c]) (bl ++ [c]).length) x = true → openP (grK n m mv bd bl bl.length) x = true := fun x hx => by
    rw [open_eq hb1]
    rw [open_eq hb2] at hx
    unfold refOpenP at hx ⊢
    simp at hx ⊢
    exact ⟨hx.1.1, hx.2⟩
  have hl1 : (farP (grK n m mv bd bl bl.length) to).length = n * m := farL_len _ _ _ _
  have hl2 : (farP (grK n m mv bd (bl ++ [c]) (bl ++ [c]).length) to).length = n * m := farL_len _ _ _ _
  have at1 : ∀ i, i < n * m → (farP (grK n m mv bd bl bl.length) to).getD i 0 = farCell (grK n m mv bd bl bl.length) (fieldP (grK n m mv bd bl bl.length) to) to i := fun i hi => farP_at hi
  have at2 : ∀ i, i < n * m → (farP (grK n m mv bd (bl ++ [c]) (bl ++ [c]).length) to).getD i 0 = farCell (grK n m mv bd (bl ++ [c]) (bl ++ [c]).length) (fieldP (grK n m mv bd (bl ++ [c]) (bl ++ [c]).length) to) to i := fun i hi => farP_at hi
  refine ⟨hl1.trans hl2.symm, fun i hi h0 => ?_⟩
  dsimp only at hi h0 ⊢
  rw [hl1] at hi
  rw [at1 i hi]
  rw [at2 i hi] at h0 ⊢
  have key := fun x v (hw : Way (grK n m mv bd (bl ++ [c]) (bl ++ [c]).length) to x v) => (show Way (grK n m mv bd bl bl.length) to x v from by
    obtain ⟨d, u, hd, ho, hk, hv⟩ := hw
    exact ⟨d, u, hd, hop _ ho, wk_mono (g := grK n m mv bd bl bl.length) (g' := grK n m mv bd (bl ++ [c]) (bl ++ [c]).length) rfl rfl hop hk, hv⟩)
  rcases far_spec hg2 ht2 i with ⟨e1, e2⟩ | ⟨_, _, e2⟩ | ⟨_, _, e2, _⟩ | ⟨e1, e2, e3, e4, _⟩
  · rw [e2]
    rcases far_spec hg1 ht1 i with ⟨f1, f2⟩ | ⟨f1, _⟩ | ⟨f1, _⟩ | ⟨f1, _⟩
    · omega
    · exact absurd e1 f1
    · exact absurd e1 f1
    · exact absurd e1 f1
  · omega
  · omega
  · rcases far_spec hg1 ht1 i with ⟨f1, f2⟩ | ⟨_, f2, _⟩ | ⟨_, _, _, f2⟩ | ⟨_, _, f3, _, f4⟩
    · exact absurd f1 e1
    · have := hop _ e2
      rw [show cellP (grK n m mv bd (bl ++ [c]) (bl ++ [c]).length) i = cellP (grK n m mv bd bl bl.length) i from rfl, f2] at this
      cases this
    · exact absurd (key _ _ e4) (f2 _)
    · exact ⟨f3, f4 _ (key _ _ e4)⟩

/-! ### append in a region that draws -/
theorem el_xy2 : ElemK Try.prog 22 26 (.agg #[.int .i64 0, .int .i64 0]) 2 16 :=
  ⟨by kernel_rfl, info_parts (by kernel_rfl), by rfl, by decide, by decide⟩
theorem stepA {ops : Array Oper} {o : Oper} {a : Act} {K : Act → World → Prop} {Q : Exit → Act → World → Prop} {E : Prop} {t e : TypeId} {z : Value} {bytes : Nat} (EO : ElemK Try.prog t e z 2 bytes) (hgd : o.guard = none) {s x : Operand}
    (ho : o.op = .call { callee := .builtin .append, args := #[s, x], argTypes := #[t, t] })
    {w0 W : World} {v y : Value} {n : Nat} {xs ys : List (Int × Int)} (hs : a.eval s = v) (hx : a.eval x = y)
    (hbel : Below w0.heap.size w0 W) (hown : W.ownsRow w0.heap.size e 2 v n (pairs xs)) (hy : RdP W y ys) (hn : (n + ys.length) * bytes ≤ 140737488355328) (hb1 : 0 < bytes)
    (h : ∀ v' w', w'.ownsRow w0.heap.size e 2 v' (n + ys.length) (pairs (xs ++ ys)) → W.grownBy w' v.ownBlock → Below w0.heap.size w0 w' → K (a.put o.dst v') w') :
    if Region.wanted o (yielded ops a.tmps) = true then Oper.wp Try.prog o a W K Q else E := by
  have hw : Region.wanted o (yielded ops a.tmps) = true := by simp [Region.wanted, hgd]
  rw [if_pos hw]
  obtain ⟨i, hi, hz, hsz, hby⟩ := EO.info
  have hn' : n + ys.length ≤ 140737488355328 := Nat.le_trans (Nat.le_mul_of_pos_right _ hb1) hn
  obtain ⟨ay, cap, rfl, hc, hm, hat, hcap⟩ := hy
  cases ay with
  | some ad =>
    obtain ⟨v', w', hr, h2, h3, _⟩ := run_append_own_at (P := Try.prog) W w0.heap.size t o.type e i z 2 bytes EO.und hi hz hsz hby EO.zc EO.pos v n (pairs xs) hown ad ys.length cap (pairs ys) (pairs_length ys) (fun j u hj => by
      rcases hat with hat | ⟨b, off, hb, hat⟩
      · rw [hat] at hj; simp at hj
      · obtain rfl := Option.some.inj hb
        have := hat j u hj
        rw [show (⟨b, off, none⟩ : Addr).add j = ⟨b, off + j, none⟩ from by unfold Addr.add; split <;> simp_all]
        exact this) (fun u hu => by
      obtain ⟨p, _, hp⟩ := List.mem_flatMap.1 hu
      simp at hp
      rcases hp with rfl | rfl <;> rfl) (by unfold maxLen; omega) hn hbel.size
    unfold Oper.wp execOp
    simp only [ho, resolve, invoke, builtin, Sem.run_bind, Sem.run_pure, Result.andThen_ok, List.map_toArray, List.map_cons, List.map_nil, hs, hx, hr]
    refine h v' w' ?_ h3 (hbel.grown h3 hbel.size (fun k e => (hown.lt k e).1))
    rw [pairs_append]; exact h2
  | none =>
    have h0 : ys = [] := by
      rcases hat with hat | ⟨b, off, hb, _⟩
      · cases ys with
        | nil => rfl
        | cons p l => simp [pairs] at hat
      · cases hb
    subst h0
    obtain rfl := hcap rfl
    have hr := run_append_owned_none (P := Try.prog) (w := W) w0.heap.size t o.type e i 2 EO.und hi v n (pairs xs) hown
    unfold Oper.wp execOp
    simp only [ho, resolve, invoke, builtin, Sem.run_bind, Sem.run_pure, Result.andThen_ok, List.map_toArray, List.map_cons, List.map_nil, hs, hx, List.length_nil, hr]
    refine h v W ?_ ⟨rfl, rfl, rfl, Nat.le_refl _, fun _ _ _ => rfl⟩ hbel
    simpa using hown
/-- onto an empty list -/
theorem stepA0 {ops : Array Oper} {o : Oper} {a : Act} {K : Act → World → Prop} {Q : Exit → Act → World → Prop} {E : Prop} {t e : TypeId} {z : Value} {bytes : Nat} (EO : ElemK Try.prog t e z 2 bytes) (hgd : o.guard = none) {s x : Operand}
    (ho : o.op = .call { callee := .builtin .append, args := #[s, x], argTypes := #[t, t] })
    {w0 W : World} {v y : Value} {ys : List (Int × Int)} (hs : a.eval s = v) (hx : a.eval x = y)
    (hbel : Below w0.heap.size w0 W) (hown : W.ownsRow w0.heap.size e 2 v 0 (pairs [])) (hy : RdP W y ys) (hn : ys.length * bytes ≤ 140737488355328) (hb1 : 0 < bytes)
    (h : ∀ v' w', w'.ownsRow w0.heap.size e 2 v' ys.length (pairs ys) → W.grownBy w' v.ownBlock → Below w0.heap.size w0 w' → K (a.put o.dst v') w') :
    if Region.wanted o (yielded ops a.tmps) = true then Oper.wp Try.prog o a W K Q else E :=
  stepA (n := 0) (xs := []) EO hgd ho hs hx hbel hown hy (by rw [Nat.zero_add]; exact hn) hb1 fun v' w' h1 h2 h3 => h v' w' (by rwa [Nat.zero_add, List.nil_append] at h1) h2 h3
theorem RdP.lit (W : World) (c : Int × Int) (t : TypeId) : RdP (W.alloc (.cells #[.int .i64 c.1, .int .i64 c.2] t)) (.slice (some ⟨W.heap.size, 0, none⟩) 1 1) [c] :=
  RdP.own (B := W.heap.size) (n := 1) (e := t) (own_lit2 W W.heap.size t #[.int .i64 c.1, .int .i64 c.2] 1 (Nat.le_refl _) rfl (by decide)) rfl
theorem RdP.grown {W w' : World} {r : Option Nat} {B n cap : Nat} {l : List (Int × Int)} (h : RdP W (.slice (some ⟨B, 0, none⟩) n cap) l) (hg : W.grownBy w' r) (hr : r ≠ some B) (hB : B < W.heap.size) : RdP w' (.slice (some ⟨B, 0, none⟩) n cap) l := by
  obtain ⟨a, c, he, h1, h2, h3, h4⟩ := h
  injection he with e1 e2 e3
  subst e1 e3
  refine ⟨_, cap, by rw [e2], h1, h2, ?_, h4⟩
  rcases h3 with h3 | ⟨b, off, hb, h3⟩
  · exact .inl h3
  · refine .inr ⟨b, off, hb, fun j u hj => ?_⟩
    have eb : B = b := by injection hb with hb; injection hb
    subst eb
    exact (World.cell?_of_block (hg.block _ hB (fun e => hr e.symm))).trans (h3 j u hj)
theorem alloc_size (w : World) (o : Obj) : (w.alloc o).heap.size = w.heap.size + 1 := by simp
theorem lit2a (w : World) (x y : Int) (t : TypeId) : RdP ((w.alloc (.cells #[] t)).alloc (.cells #[.int .i64 x, .int .i64 y] t)).drew (.slice (some ⟨w.heap.size + 1, 0, none⟩) 1 1) [(x, y)] := by
  have h := (RdP.lit (w.alloc (.cells #[] t)) (x, y) t).below (Below.refl _ _).drew
  rwa [alloc_size] at h
theorem lit2b (w : World) (x y : Int) (t : TypeId) : RdP ((w.alloc (.cells #[.int .i64 x, .int .i64 y] t)).alloc (.cells #[] t)).drew (.slice (some ⟨w.heap.size, 0, none⟩) 1 1) [(x, y)] :=
  ((RdP.lit w (x, y) t).below ((Below.refl _ _).alloc (Nat.le_refl _) _)).below (Below.refl _ _).drew
theorem own2a (w : World) (t : TypeId) : (w.alloc (.cells #[] t)).drew.ownsRow w.heap.size t 2 (.slice (some ⟨w.heap.size, 0, none⟩) 0 0) 0 (pairs []) :=
  own_below (own_lit2 w _ t #[] 0 (Nat.le_refl _) rfl (by decide)) (Below.refl _ _).drew
theorem own2b (w : World) (o : Obj) (t : TypeId) : ((w.alloc (.cells #[] t)).alloc o).drew.ownsRow w.heap.size t 2 (.slice (some ⟨w.heap.size, 0, none⟩) 0 0) 0 (pairs []) :=
  own_below ((own_lit2 w _ t #[] 0 (Nat.le_refl _) rfl (by decide)).alloc _) (Below.refl _ _).drew
theorem own2c (w : World) (o : Obj) (t : TypeId) : ((w.alloc o).alloc (.cells #[] t)).drew.ownsRow w.heap.size t 2 (.slice (some ⟨w.heap.size + 1, 0, none⟩) 0 0) 0 (pairs []) := by
  have h := own_below (own_lit2 (w.alloc o) w.heap.size t #[] 0 (by simp) rfl (by decide)) (Below.refl _ _).drew
  rwa [alloc_size] at h
theorem grownA {w w' : World} {x y : Int} {t : TypeId} (hg : ((w.alloc (.cells #[] t)).alloc (.cells #[.int .i64 x, .int .i64 y] t)).drew.grownBy w' (Value.slice (some ⟨w.heap.size, 0, none⟩) 0 0).ownBlock) : RdP w' (.slice (some ⟨w.heap.size + 1, 0, none⟩) 1 1) [(x, y)] :=
  RdP.grown (lit2a w x y t) hg (fun e => by
    have e2 : w.heap.size = w.heap.size + 1 := Option.some.inj e
    omega) (by show w.heap.size + 1 < ((w.alloc (.cells #[] t)).alloc (.cells #[.int .i64 x, .int .i64 y] t)).heap.size; rw [alloc_size, alloc_size]; omega)
theorem grownB {w w' : World} {x y : Int} {t : TypeId} (hg : ((w.alloc (.cells #[.int .i64 x, .int .i64 y] t)).alloc (.cells #[] t)).drew.grownBy w' (Value.slice (some ⟨w.heap.size + 1, 0, none⟩) 0 0).ownBlock) : RdP w' (.slice (some ⟨w.heap.size, 0, none⟩) 1 1) [(x, y)] :=
  RdP.grown (lit2b w x y t) hg (fun e => by
    have e2 : w.heap.size + 1 = w.heap.size := Option.some.inj e
    omega) (by show w.heap.size < ((w.alloc (.cells #[.int .i64 x, .int .i64 y] t)).alloc (.cells #[] t)).heap.size; rw [alloc_size, alloc_size]; omega)
end Go.Proofs.Ytpakkjkjppibnaa

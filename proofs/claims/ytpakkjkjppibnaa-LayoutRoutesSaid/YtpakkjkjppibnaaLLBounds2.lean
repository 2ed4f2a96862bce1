/- Layout: the law LayoutBounds, walked: where there are costs. -/
import Derived.Test.YtpakkjkjppibnaaLLBounds
import Derived.Outline
namespace Go.Proofs.Ytpakkjkjppibnaa
open Go.RowKit

theorem Rd.cellsAt {w : World} {a : Option Addr} {n c : Nat} {cs : List Value} (h : Rd w (.slice a n c) cs) : CellsAt w a cs := by
  obtain ⟨a', cap', he, _, _, h, _⟩ := h
  injection he with h1 _ _
  rw [h1]; exact h

set_option maxRecDepth 100000 in
set_option maxHeartbeats 1000000 in
theorem bounds_ok (w h : Nat) (mv bd : Int) (bv : Value) (bl : List (Int × Int)) (t1 t2 : Int) (fv : Value) (far : List Int) (W : World) (hv : RdP W bv bl) (hf : Rd W fv (ints far)) (hb : validP w h mv bd bl = true) (ho : openP (grK w h mv bd bl bl.length) (t1, t2) = true) (h144 : (w : Int) * (h : Int) ≤ 144) :
    Calls Try.prog 6 #[.agg #[.int .i64 w, .int .i64 h, .int .i64 mv, .int .i64 bd, bv], .agg #[.int .i64 t1, .int .i64 t2], fv] W fun e w' => e = .returned (.bool true) ∧ Below W.heap.size W w' := by
  have hbW := Lib.hid (((Below.refl W.heap.size W).alloc (Nat.le_refl _) (.cells #[.int .i64 w, .int .i64 h, .int .i64 mv, .int .i64 bd, bv] 24)).alloc (by simp) (.cells #[.int .i64 t1, .int .i64 t2] 26))
  have HBX := Lib.hid (BxAt.new W (.cells #[.int .i64 w, .int .i64 h, .int .i64 mv, .int .i64 bd, bv] 24) t1 t2 26)
  have HGX := Lib.hid (GBx.new W w h mv bd bv 24 (.cells #[.int .i64 t1, .int .i64 t2] 26))
  have HSM := Lib.hid (fun V (hV : Below W.heap.size W V) => small_any w h mv bd bv bl V (hv.below hV))
  have HVA := Lib.hid (fun V (hV : Below W.heap.size W V) => refValid_any w h mv bd bv bl V (hv.below hV))
  have HFR := Lib.hid (fun V (hV : Below W.heap.size W V) => far_ok w h mv bd bv bl (t1, t2) V (hv.below hV) hb ho)
  have hg := grK_ok hb bl.length
  have hon := openP_on ho
  have hp := ((validP_iff _ _ _ _ _).1 hb).1
  have htt : 0 ≤ t1 ∧ t1 ≤ 30 ∧ 0 ≤ t2 ∧ t2 ≤ 30 := by have := Gr.okSmall hg hon; dsimp only at this; omega
  have HDS := Lib.hid (fun V => dist_any w h mv bd bv (t1, t2) V (by omega) (by omega) (by omega) (by dsimp only; omega) (by dsimp only; omega))
  have HAW := Lib.hid (fun V => awake_any V)
  have HPA := Lib.hid (fun v V (hV : Below W.heap.size W V) (hd : Rd V v (ints (distL w mv (t1, t2) (w * h)))) => isProof_any w h mv bd bv bl (t1, t2) v _ V (hv.below hV) hd)
  have HPF := Lib.hid (fun V (hV : Below W.heap.size W V) => isProof_any w h mv bd bv bl (t1, t2) fv far V (hv.below hV) (hf.below hV (Nat.le_refl _)))
  have hdp : isProofP w h mv bd bl (t1, t2) (distL w mv (t1, t2) (w * h)) = (true, 0) := by
    have hdi : ((distL w mv (t1, t2) (w * h)).all fun n => inB (-1000000000) n 1000000000) = true := dist_in hg hon
    rw [isProofP_run hb ((open_eq hb _).symm.trans ho) (distL_len _ _ _ _) hdi]
    rw [show proofB (grK w h mv bd bl bl.length) (t1, t2) (distL w mv (t1, t2) (w * h)) = true from dist_proof hg (t1, t2)]
  rw [hdp] at HPA
  have hs : (!validP w h mv bd bl || decide ((w : Int) * (h : Int) ≤ 144)) = true := by rw [hb, decide_eq_true h144]; rfl
  rw [hs] at HSM
  rw [hb] at HVA
  have HFF : Hid ((isProofP w h mv bd bl (t1, t2) far).2 = 0 → (isProofP w h mv bd bl (t1, t2) far).1 = true → far.length = w * h ∧ ∀ i, i < w * h → 0 ≤ farCell (grK w h mv bd bl bl.length) (fieldP (grK w h mv bd bl bl.length) (t1, t2)) (t1, t2) i → far.getD i 0 ≤ farCell (grK w h mv bd bl bl.length) (fieldP (grK w h mv bd bl bl.length) (t1, t2)) (t1, t2) i) := Lib.hid (fun h1 h2 => by
    by_cases hgd : far.length = w * h ∧ (far.all fun n => inB (-1000000000) n 1000000000) = true
    · rw [isProofP_run hb ((open_eq hb _).symm.trans ho) hgd.1 hgd.2] at h2
      exact ⟨hgd.1, fun i hi h0 => proof_far hg h2 ho h0⟩
    · rw [isProofP_arg hb ((open_eq hb _).symm.trans ho) hgd] at h1
      cases h1)
  have HFPL : Hid (farP (grK w h mv bd bl bl.length) (t1, t2) = farL (grK w h mv bd bl bl.length) (fieldP (grK w h mv bd bl bl.length) (t1, t2)) (t1, t2) (w * h)) := Lib.hid rfl
  have HFC : Hid (∀ i, i < w * h → (farL (grK w h mv bd bl bl.length) (fieldP (grK w h mv bd bl bl.length) (t1, t2)) (t1, t2) (w * h)).getD i 0 = farCell (grK w h mv bd bl bl.length) (fieldP (grK w h mv bd bl bl.length) (t1, t2)) (t1, t2) i) := Lib.hid (fun i hi => by
    rw [List.getD_eq_getElem?_getD]
    unfold farL
    rw [List.getElem?_map, List.getElem?_range hi]
    rfl)
  have HFL := Lib.hid (farL_len (grK w h mv bd bl bl.length) (fieldP (grK w h mv bd bl bl.length) (t1, t2)) (t1, t2) (w * h))
  rw [HFPL.out] at HFR
  generalize farL (grK w h mv bd bl bl.length) (fieldP (grK w h mv bd bl bl.length) (t1, t2)) (t1, t2) (w * h) = costs at *
  generalize farCell (grK w h mv bd bl bl.length) (fieldP (grK w h mv bd bl bl.length) (t1, t2)) (t1, t2) = cell at *
  obtain ⟨pf, hpf⟩ : ∃ p, (isProofP w h mv bd bl (t1, t2) far).1 = p := ⟨_, rfl⟩
  obtain ⟨pe, hpe⟩ : ∃ p, (isProofP w h mv bd bl (t1, t2) far).2 = p := ⟨_, rfl⟩
  rw [hpf, hpe] at HPF HFF
  obtain ⟨a, cap, rfl, hc, hcm, _, _⟩ := hv
  have HFV := Lib.hid hf
  obtain ⟨fa, fcap, rfl, hfc, hfcm, hfa, _⟩ := hf
  obtain ⟨N, hN⟩ : ∃ N, w * h = N := ⟨_, rfl⟩
  have hcells := hg.cells
  change 1 ≤ w * h ∧ w * h ≤ 900 at hcells
  rw [hN] at hcells HFR HDS HPA HFF HFL HFC
  have hNi : (w : Int) * (h : Int) = (N : Int) := by rw [← hN]; simp
  have hwN : IntKind.i64.wrap (N : Int) = (N : Int) := IntWalk.i64_in _ (by clear hNi; omega)
  have hFL := HFL.out
  generalize distL w mv (t1, t2) N = dl at *
  clear hg hon hp htt hdp hs hb ho h144 hpf hpe hfa HFPL hN
  rw [ints_length] at *
  dsimp only at *
  go_enter Try.func6, Try.ntmps6
  go_wp2_with (first
    | (go_at_call 12; (with_reducible refine (HSM.out _ hbW.out).mono ?_); rintro e w1 ⟨rfl, hb1⟩; have HB1 := Lib.hid (hbW.out.trans (hb1.mono (by simp; omega))); have HX1 := Lib.hid (HBX.out.below hb1); have HG1 := Lib.hid (HGX.out.below hb1); obtain ⟨c0, c1, c2, c3, c4⟩ := HG1.out; obtain ⟨c5, c6⟩ := HX1.out; clear hb1)
    | (go_at_call 14; (with_reducible refine (HFR.out _ HB1.out).mono ?_); rintro e w2 ⟨⟨cv, rfl, hco⟩, hb2⟩; have HCO := Lib.hid (Rd.own hco); have HB2 := Lib.hid (HB1.out.trans (hb2.mono HB1.out.size)); have HG2 := Lib.hid (HG1.out.below hb2); have HX2 := Lib.hid (HX1.out.below hb2); clear c0 c1 c2 c3 c4 c5 c6 hb2 hco; obtain ⟨c0, c1, c2, c3, c4⟩ := HG2.out; obtain ⟨ca, ccap, rfl, hcc1, hcc2, hcc3, _⟩ := HCO.out; rw [ints_length, hFL] at *)
    | (go_at_call 22; (with_reducible refine (HVA.out _ HB2.out).mono ?_); rintro e w3 ⟨rfl, hb3⟩; have HB3 := Lib.hid (HB2.out.trans (hb3.mono HB2.out.size)); have HG3 := Lib.hid (HG2.out.below hb3); have HX3 := Lib.hid (HX2.out.below hb3); have HCO3 := Lib.hid (HCO.out.below hb3 (Nat.le_refl _)); clear c0 c1 c2 c3 c4 hb3; obtain ⟨c0, c1, c2, c3, c4⟩ := HG3.out; obtain ⟨c5, c6⟩ := HX3.out)
    | (go_at_call 13; refine (HAW.out _).mono ?_; rintro e w3 ⟨rfl, hb3⟩))
  have q0 : ∀ V : World, Hid (Below w3.heap.size w3 V) → V.cell? ⟨W.heap.size, 0, none⟩ = some (.int .i64 w) := fun V h => cell_below c0 h.out
  have q1 : ∀ V : World, Hid (Below w3.heap.size w3 V) → V.cell? ⟨W.heap.size, 1, none⟩ = some (.int .i64 h) := fun V h => cell_below c1 h.out
  have q2 : ∀ V : World, Hid (Below w3.heap.size w3 V) → V.cell? ⟨W.heap.size, 2, none⟩ = some (.int .i64 mv) := fun V h => cell_below c2 h.out
  have q3 : ∀ V : World, Hid (Below w3.heap.size w3 V) → V.cell? ⟨W.heap.size, 3, none⟩ = some (.int .i64 bd) := fun V h => cell_below c3 h.out
  have q4 : ∀ V : World, Hid (Below w3.heap.size w3 V) → V.cell? ⟨W.heap.size, 4, none⟩ = some (.slice a bl.length cap) := fun V h => cell_below c4 h.out
  have q5 : ∀ V : World, Hid (Below w3.heap.size w3 V) → V.cell? ⟨W.heap.size + 1, 0, none⟩ = some (.int .i64 t1) := fun V h => cell_below c5 h.out
  have q6 : ∀ V : World, Hid (Below w3.heap.size w3 V) → V.cell? ⟨W.heap.size + 1, 1, none⟩ = some (.int .i64 t2) := fun V h => cell_below c6 h.out
  have HWV := Lib.hid (fun (V : World) (h : Hid (Below w3.heap.size w3 V)) => HB3.out.trans (h.out.mono HB3.out.size))
  clear c0 c1 c2 c3 c4 c5 c6
  go_region_held3 (fun w' => Hid (Below w3.heap.size w3 w'))
    (first | exact Lib.hid (Below.refl _ _).drew | exact heldB hbk (by assumption))
    (first
      | (go_at_call 23; refine (HDS.out _).mono ?_; rintro e wk ⟨dv, rfl, hod, hbk⟩; have hkk := Lib.hid (heldB hbk (by assumption)); have HDV := Lib.hid (Rd.own hod))
      | (go_at_call 20; refine (HPA.out _ _ (HWV.out _ (by assumption)) HDV.out).mono ?_; rintro e wk ⟨rfl, hbk⟩; have hkk := Lib.hid (heldB hbk (by assumption))))
  have HK := Lib.hid (HB3.out.trans (hkk.out.out.mono HB3.out.size))
  have HCOk := Lib.hid (HCO3.out.below hkk.out.out (Nat.le_refl _))
  obtain ⟨c0, c1, c2, c3, c4⟩ := HG3.out.below hkk.out.out
  obtain ⟨c5, c6⟩ := HX3.out.below hkk.out.out
  clear q0 q1 q2 q3 q4 q5 q6
  by_cases hpe : pe = 0
  · subst hpe
    cases pf with
    | false =>
      go_wp2_with (first
        | (go_at_call 20; (with_reducible refine (HPF.out _ HK.out).mono ?_); rintro e w5 ⟨rfl, hb5⟩; have HK5 := Lib.hid (HK.out.trans (hb5.mono HK.out.size)); have HC5 := Lib.hid (HCOk.out.below hb5 (Nat.le_refl _)))
        | (go_at_call 13; refine (HAW.out _).mono ?_; rintro e w6 ⟨rfl, hb6⟩))
      go_ret
      exact ⟨rfl, HK5.out.trans (hb6.mono HK5.out.size)⟩
    | true =>
      obtain ⟨hfl, hfb⟩ := HFF.out rfl rfl
      have HFB := Lib.hid hfb
      have HFL2 := Lib.hid hfl
      rw [hfl] at HPF hfc HFV ⊢
      clear hfb hfl
      go_wp2_with (first
        | (go_at_call 20; (with_reducible refine (HPF.out _ HK.out).mono ?_); rintro e w5 ⟨rfl, hb5⟩; have HK5 := Lib.hid (HK.out.trans (hb5.mono HK.out.size)); have HC5 := Lib.hid (HCOk.out.below hb5 (Nat.le_refl _)))
        | (go_at_call 13; refine (HAW.out _).mono ?_; rintro e w6 ⟨rfl, hb6⟩))
      go_loopw [81] (fun i wr => ∃ k : Nat, k ≤ N ∧ i = .int .i64 k ∧ Hid (Below w5.heap.size w5 wr)) (fun i _ => N - (intOf i).toNat)
      case atStart => exact ⟨0, Nat.zero_le _, rfl, Lib.hid (Below.refl _ _)⟩
      case round =>
        obtain ⟨k, hk, rfl, HR⟩ := hrel
        by_cases hkN : k < N
        · have hkN' : (k : Int) < (N : Int) := by omega
          have HKR := Lib.hid (HK5.out.trans (HR.out.mono HK5.out.size))
          obtain ⟨cb, co, rfl, hcell⟩ := (HC5.out.cellsAt.below HR.out (Nat.le_refl _)).cell (j := k) (by rw [ints_length, HFL.out]; exact hkN)
          have e0 := hcell k _ (ints_getD (by rw [HFL.out]; exact hkN))
          obtain ⟨fb, fo, rfl, hcell2⟩ := (HFV.out.cellsAt.below HKR.out (Nat.le_refl _)).cell (j := k) (by rw [ints_length, HFL2.out]; exact hkN)
          have e1 := hcell2 k _ (ints_getD (by rw [HFL2.out]; exact hkN))
          have hle := HFB.out k hkN
          rw [HFC.out k hkN] at e0
          generalize cell k = cv at *
          generalize far.getD k 0 = fv at *
          clear hcell hcell2
          by_cases h0 : 0 ≤ cv
          · have h1 : ¬ cv < fv := by have := hle h0; omega
            go_wp2_with fail
            go_roundw
            case rel => exact ⟨k + 1, by omega, by go_num, HR⟩
            case measure => simp [intOf]; omega
          · go_wp2_with fail
            go_roundw
            case rel => exact ⟨k + 1, by omega, by go_num, HR⟩
            case measure => simp [intOf]; omega
        · obtain rfl : k = N := by omega
          go_wp2_with (go_at_call 13; refine (HAW.out _).mono ?_; rintro e w6 ⟨rfl, hb6⟩)
          go_ret
          exact ⟨rfl, (HK5.out.trans (HR.out.mono HK5.out.size)).trans (hb6.mono (by have := HK5.out.size; have := HR.out.size; omega))⟩
  · have hpe' : (pe != 0) = true := by simpa using hpe
    go_wp2_with (first
      | (go_at_call 20; (with_reducible refine (HPF.out _ HK.out).mono ?_); rintro e w5 ⟨rfl, hb5⟩; have HK5 := Lib.hid (HK.out.trans (hb5.mono HK.out.size)); have HC5 := Lib.hid (HCOk.out.below hb5 (Nat.le_refl _)))
      | (go_at_call 13; refine (HAW.out _).mono ?_; rintro e w6 ⟨rfl, hb6⟩))
    go_ret
    exact ⟨rfl, HK5.out.trans (hb6.mono HK5.out.size)⟩

theorem law_bounds (w h mv bd : Int) (bv : Value) (bl : List (Int × Int)) (t1 t2 : Int) (fv : Value) (far : List Int) (W : World) (hv : RdP W bv bl) (hf : Rd W fv (ints far)) :
    Calls Try.prog 6 #[.agg #[.int .i64 w, .int .i64 h, .int .i64 mv, .int .i64 bd, bv], .agg #[.int .i64 t1, .int .i64 t2], fv] W fun e w' => e = .returned (.bool true) ∧ Below W.heap.size W w' := by
  cases hs : (!validP w h mv bd bl || decide (w * h ≤ 144)) with
  | false => exact bounds_big w h mv bd bv bl t1 t2 fv far W hv hf hs
  | true =>
    cases hb : validP w h mv bd bl with
    | false => exact bounds_err w h mv bd bv bl t1 t2 fv far W hv hf hs 70 (by decide) (Lib.hid fun V hV => far_bad w h mv bd bv bl (t1, t2) V (hv.below hV) hb)
    | true =>
      obtain ⟨n, m, rfl, rfl⟩ := valid_nat hb
      cases ho : openP (grK n m mv bd bl bl.length) (t1, t2) with
      | false => exact bounds_err n m mv bd bv bl t1 t2 fv far W hv hf hs 72 (by decide) (Lib.hid fun V hV => far_block n m mv bd bv bl (t1, t2) V (hv.below hV) hb ho)
      | true =>
        rw [hb] at hs
        exact bounds_ok n m mv bd bv bl t1 t2 fv far W hv hf hb ho (by simpa using hs)
end Go.Proofs.Ytpakkjkjppibnaa

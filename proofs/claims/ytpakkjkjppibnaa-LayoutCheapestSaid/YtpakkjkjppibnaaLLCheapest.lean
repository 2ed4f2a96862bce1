/- Layout: the law LayoutCheapest, walked. -/
import Derived.Test.YtpakkjkjppibnaaGCheapP
import Derived.Test.YtpakkjkjppibnaaKRefCk
import Derived.Test.YtpakkjkjppibnaaLLBlocks
namespace Go.Proofs.Ytpakkjkjppibnaa
open Go.RowKit

set_option maxRecDepth 100000 in
set_option maxHeartbeats 1000000 in
theorem cheapest_skip (w h mv bd : Int) (bv : Value) (bl p : List Ce) (v : Value) (W : World) (hv : RdP W bv bl) (hp : RdP W v p) (hw : WfL p) (hs : ((!validP w h mv bd bl || decide (w * h ≤ 144)) && decide (p.length ≤ 300) && decide (checkF w h mv bd bl p = 0)) = false) :
    Calls Try.prog 8 #[.agg #[.int .i64 w, .int .i64 h, .int .i64 mv, .int .i64 bd, bv], v] W fun e w' => e = .returned (.bool true) ∧ Below W.heap.size W w' := by
  have hbW := Lib.hid ((Below.refl W.heap.size W).alloc (Nat.le_refl _) (.cells #[.int .i64 w, .int .i64 h, .int .i64 mv, .int .i64 bd, bv] 24))
  have HGX := Lib.hid (GBx.new1 W w h mv bd bv 24)
  have HSM := Lib.hid (fun V (hV : Below W.heap.size W V) => small_any w h mv bd bv bl V (hv.below hV))
  have HAW := Lib.hid (fun V => awake_any V)
  have HCK := Lib.hid (fun V (hV : Below W.heap.size W V) => RefCheck_any w h mv bd bv bl p v V (hv.below hV) (hp.below hV) hw)
  obtain ⟨a, cap, rfl, _, _, _, _⟩ := hv
  obtain ⟨ap, cp, rfl, _, _, _, _⟩ := hp
  obtain ⟨n, hn⟩ : ∃ n, p.length = n := ⟨_, rfl⟩
  rw [hn] at HCK hs ⊢
  cases h1 : (!validP w h mv bd bl || decide (w * h ≤ 144)) with
  | false =>
    rw [h1] at HSM
    clear hs h1 hw hn
    go_enter Try.func8, Try.ntmps8
    go_wp2_with (first
      | (go_at_call 12; (with_reducible refine (HSM.out _ hbW.out).mono ?_); rintro e w1 ⟨rfl, hb1⟩; have HB1 := Lib.hid (hbW.out.trans (hb1.mono (by simp))); clear hb1)
      | (go_at_call 13; refine (HAW.out _).mono ?_; rintro e w3 ⟨rfl, hb3⟩))
    go_ret
    exact ⟨rfl, HB1.out.trans (hb3.mono HB1.out.size)⟩
  | true =>
    rw [h1] at HSM hs
    by_cases h2 : n ≤ 300
    · have h2' : ¬ (300 : Int) < (n : Int) := by omega
      have hz : ¬ checkF w h mv bd bl p = 0 := by
        intro e
        rw [decide_eq_true h2, decide_eq_true e] at hs
        cases hs
      generalize checkF w h mv bd bl p = ee at *
      have hzb : (ee == 0) = false := by simpa using hz
      have hzc : (ee != 0) = true := by simpa using hz
      have h2d : decide ((300 : Int) < (n : Int)) = false := decide_eq_false h2'
      clear hs h1 hw hn hz
      go_enter Try.func8, Try.ntmps8
      go_wp2_with (first
        | (go_at_call 12; (with_reducible refine (HSM.out _ hbW.out).mono ?_); rintro e w1 ⟨rfl, hb1⟩; have HB1 := Lib.hid (hbW.out.trans (hb1.mono (by simp))); obtain ⟨c0, c1, c2, c3, c4⟩ := HGX.out.below hb1; clear hb1)
        | (go_at_call 28; (with_reducible refine (HCK.out _ HB1.out).mono ?_); rintro e w2 ⟨rfl, hb2⟩; have HB2 := Lib.hid (HB1.out.trans (hb2.mono HB1.out.size)); clear hb2)
        | (go_at_call 13; refine (HAW.out _).mono ?_; rintro e w3 ⟨rfl, hb3⟩))
      go_ret
      exact ⟨rfl, HB2.out.trans (hb3.mono HB2.out.size)⟩
    · have h2' : (300 : Int) < (n : Int) := by omega
      clear hs h1 hw hn
      go_enter Try.func8, Try.ntmps8
      go_wp2_with (first
        | (go_at_call 12; (with_reducible refine (HSM.out _ hbW.out).mono ?_); rintro e w1 ⟨rfl, hb1⟩; have HB1 := Lib.hid (hbW.out.trans (hb1.mono (by simp))); clear hb1)
        | (go_at_call 13; refine (HAW.out _).mono ?_; rintro e w3 ⟨rfl, hb3⟩))
      go_ret
      exact ⟨rfl, HB1.out.trans (hb3.mono HB1.out.size)⟩

/-- two boxed cells, wherever they lie -/
def Two (w0 w : World) (b9 b10 : Nat) (x1 y1 x2 y2 : Int) : Prop := w.cell? ⟨b9, 0, none⟩ = some (.int .i64 x1) ∧ w.cell? ⟨b9, 1, none⟩ = some (.int .i64 y1) ∧ w.cell? ⟨b10, 0, none⟩ = some (.int .i64 x2) ∧ w.cell? ⟨b10, 1, none⟩ = some (.int .i64 y2) ∧ Below w0.heap.size w0 w
theorem far_cell {w : World} {a : Option Addr} {n c : Nat} {l : List Int} (h : Rd w (.slice a n c) (ints l)) {i : Nat} {v : Int} (hi : i < l.length) (hv : l.getD i 0 = v) : ∃ b off, a = some ⟨b, off, none⟩ ∧ w.cell? ⟨b, off + i, none⟩ = some (.int .i64 v) := by
  obtain ⟨a', c', e, _, _, hc, _⟩ := h
  injection e with e
  subst e
  obtain ⟨b, off, rfl, hh⟩ := hc.cell (j := i) (by rw [ints_length]; exact hi)
  exact ⟨b, off, rfl, by rw [hh i _ (ints_getD hi), hv]⟩
theorem twoA (w : World) (x1 y1 x2 y2 : Int) (e : TypeId) : Two w ((w.alloc (.cells #[.int .i64 x1, .int .i64 y1] e)).alloc (.cells #[.int .i64 x2, .int .i64 y2] e)).drew w.heap.size (w.heap.size + 1) x1 y1 x2 y2 := by
  obtain ⟨h1, h2, h3, h4⟩ := Bx2.new w x1 y1 x2 y2 e
  exact ⟨cell_below h1 (Below.refl _ _).drew, cell_below h2 (Below.refl _ _).drew, cell_below h3 (Below.refl _ _).drew, cell_below h4 (Below.refl _ _).drew, (((Below.refl _ _).alloc (Nat.le_refl _) _).alloc (by simp) _).drew⟩
theorem twoB (w : World) (x1 y1 x2 y2 : Int) (e : TypeId) : Two w ((w.alloc (.cells #[.int .i64 x2, .int .i64 y2] e)).alloc (.cells #[.int .i64 x1, .int .i64 y1] e)).drew (w.heap.size + 1) w.heap.size x1 y1 x2 y2 := by
  obtain ⟨h1, h2, h3, h4, h5⟩ := twoA w x2 y2 x1 y1 e
  exact ⟨h3, h4, h1, h2, h5⟩

set_option maxRecDepth 100000 in
set_option maxHeartbeats 1000000 in
theorem cheapest_run (w h : Nat) (mv bd : Int) (bv : Value) (bl p : List Ce) (v : Value) (W : World) (hv : RdP W bv bl) (hp : RdP W v p) (hw : WfL p) (hs : (!validP w h mv bd bl || decide ((w : Int) * h ≤ 144)) = true) (hl : p.length ≤ 300) (hc : checkF w h mv bd bl p = 0) :
    Calls Try.prog 8 #[.agg #[.int .i64 w, .int .i64 h, .int .i64 mv, .int .i64 bd, bv], v] W fun e w' => e = .returned (.bool true) ∧ Below W.heap.size W w' := by
  have hbW := Lib.hid ((Below.refl W.heap.size W).alloc (Nat.le_refl _) (.cells #[.int .i64 w, .int .i64 h, .int .i64 mv, .int .i64 bd, bv] 24))
  have HGX := Lib.hid (GBx.new1 W w h mv bd bv 24)
  have HSM := Lib.hid (fun V (hV : Below W.heap.size W V) => small_any w h mv bd bv bl V (hv.below hV))
  have HAW := Lib.hid (fun V => awake_any V)
  have HCK := Lib.hid (fun V (hV : Below W.heap.size W V) => RefCheck_any w h mv bd bv bl p v V (hv.below hV) (hp.below hV) hw)
  have HCO := Lib.hid (fun V (hV : Below W.heap.size W V) => Cost_any w h mv bd bv bl p v V (hv.below hV) (hp.below hV) hw)
  rw [hs] at HSM
  rw [hc] at HCK
  have HP := Lib.hid hp
  obtain ⟨q, nr, hch⟩ := cheap_all hc
  obtain ⟨k1, k2, k3, k4, k5, k6⟩ := checkF_ok hc
  have HV := Lib.hid hv
  have HC := Lib.hid hch
  obtain ⟨⟨x1, y1⟩, hfr⟩ : ∃ c, p.getD 0 (0, 0) = c := ⟨_, rfl⟩
  obtain ⟨⟨x2, y2⟩, hto⟩ : ∃ c, p.getD (p.length - 1) (0, 0) = c := ⟨_, rfl⟩
  obtain ⟨lt, lf, i1, i2, N, hcn⟩ := cheap_nums hc hch hfr hto
  have HN := Lib.hid hcn
  have hce := costF_eq hc
  obtain ⟨own, how⟩ : ∃ own, costP (grK w h mv bd bl bl.length) p = own := ⟨_, rfl⟩
  rw [how] at hce
  rw [hce] at HCO
  obtain ⟨a, cap, rfl, _, _, _, _⟩ := hv
  obtain ⟨ap, cp, rfl, hcp, _, hap, _⟩ := hp
  obtain ⟨n, hn⟩ : ∃ n, p.length = n := ⟨_, rfl⟩
  have e0 := (RdP.cell hap (j := 0) (x := (x1, y1)) (by rw [← hfr, List.getD_eq_getElem?_getD, List.getElem?_eq_getElem (by omega)]; rfl))
  have e9 := (RdP.cell hap (j := p.length - 1) (x := (x2, y2)) (by rw [← hto, List.getD_eq_getElem?_getD, List.getElem?_eq_getElem (by omega)]; rfl))
  obtain ⟨bp, off, rfl, f1, f2⟩ := e0
  obtain ⟨bp', off', ee, f3, f4⟩ := e9
  obtain ⟨rfl, rfl⟩ : bp = bp' ∧ off = off' := by simpa using ee
  rw [hn] at HCK HCO hl f3 f4 k2 hcp ⊢
  have h2' : ¬ (300 : Int) < (n : Int) := by omega
  have h2d : decide ((300 : Int) < (n : Int)) = false := decide_eq_false h2'
  have hn1 : (1 : Int) ≤ (n : Int) := by omega
  have HF := Lib.hid (And.intro f1 (And.intro f2 (And.intro f3 f4)))
  dsimp only at HF
  have hrt := hch.rt
  rw [hfr, hto] at hrt
  have HRT := Lib.hid (fun V (hV : Below W.heap.size W V) => route_any w h mv bd (.slice a bl.length cap) bl (x1, y1) (x2, y2) V (HV.out.below hV) hrt)
  have hle := hch.le
  rw [hce] at hle
  have hqf := hch.fst
  have hql := hch.lst
  rw [hfr] at hqf
  rw [hto] at hql
  have HQC := Lib.hid (fun v V (hV : Below W.heap.size W V) (hr : RdP V v q) => Cost_any w h mv bd (.slice a bl.length cap) bl q v V (HV.out.below hV) hr hch.wf)
  have hqc := hch.cost
  obtain ⟨⟨cs, cb, cn, ce⟩, hcq⟩ : ∃ t, costF w h mv bd bl q = t := ⟨_, rfl⟩
  rw [hcq] at hqc HQC
  simp only [Prod.mk.injEq] at hqc
  obtain ⟨rfl, rfl⟩ := hqc
  have HFT := Lib.hid (fun V (hV : Below W.heap.size W V) => far_any w h mv bd (.slice a bl.length cap) bl (x2, y2) V (HV.out.below hV))
  have HFF := Lib.hid (fun V (hV : Below W.heap.size W V) => far_any w h mv bd (.slice a bl.length cap) bl (x1, y1) V (HV.out.below hV))
  rw [hcn.ft] at HFT
  rw [hcn.ff] at HFF
  obtain ⟨m, hm⟩ : ∃ m, q.length = m := ⟨_, rfl⟩
  have hq1 := hch.q1
  have hq9 := hch.q9
  rw [hm] at hq1 hq9 hql
  have HM := Lib.hid hm
  have HQF := Lib.hid hqf
  have HQL := Lib.hid hql
  have HLE := Lib.hid hle
  have HQ1 := Lib.hid hq1
  have HQ9 := Lib.hid hq9
  dsimp only at HRT HFT HFF HQC HLE
  clear hs hc hw hch hcn k1 k3 k4 k5 k6 hap ee f1 f2 f3 f4 hce how hn hfr hto hrt hle hqf hql hcq hm hq1 hq9
  go_enter Try.func8, Try.ntmps8
  go_wp2_with (first
    | (go_at_call 12; (with_reducible refine (HSM.out _ hbW.out).mono ?_); rintro e w1 ⟨rfl, hb1⟩; have HB1 := Lib.hid (hbW.out.trans (hb1.mono (by simp))); have HG1 := Lib.hid (HGX.out.below hb1); obtain ⟨c0, c1, c2, c3, c4⟩ := HG1.out; clear hb1)
    | (go_at_call 28; (with_reducible refine (HCK.out _ HB1.out).mono ?_); rintro e w2 ⟨rfl, hb2⟩; have HB2 := Lib.hid (HB1.out.trans (hb2.mono HB1.out.size)); have HG2 := Lib.hid (HG1.out.below hb2); clear hb2 c0 c1 c2 c3 c4; obtain ⟨c0, c1, c2, c3, c4⟩ := HG2.out)
    | (go_at_call 29; (with_reducible refine (HCO.out _ HB2.out).mono ?_); rintro e w3 ⟨rfl, hb3⟩; have HB3 := Lib.hid (HB2.out.trans (hb3.mono HB2.out.size)); have HG3 := Lib.hid (HG2.out.below hb3); clear hb3 c0 c1 c2 c3 c4))
  go_cut [9, 10] from 47 to 55 (fun p9 p10 wx => ∃ b9 b10 : Nat, p9 = .pointer (some ⟨b9, 0, none⟩) ∧ p10 = .pointer (some ⟨b10, 0, none⟩) ∧ Hid (Two w3 wx b9 b10 x1 y1 x2 y2))
  case first =>
    have q0 : ∀ W' : World, Hid (Below w3.heap.size w3 W') → W'.cell? ⟨bp, off, none⟩ = some (.int .i64 x1) := fun W' h => cell_below (cell_below HF.out.1 HB3.out) h.out
    have q1 : ∀ W' : World, Hid (Below w3.heap.size w3 W') → W'.cell? ⟨bp, off + 1, none⟩ = some (.int .i64 y1) := fun W' h => cell_below (cell_below HF.out.2.1 HB3.out) h.out
    have q2 : ∀ W' : World, Hid (Below w3.heap.size w3 W') → W'.cell? ⟨bp, off + (n - 1) * 2, none⟩ = some (.int .i64 x2) := fun W' h => cell_below (cell_below HF.out.2.2.1 HB3.out) h.out
    have q3 : ∀ W' : World, Hid (Below w3.heap.size w3 W') → W'.cell? ⟨bp, off + (n - 1) * 2 + 1, none⟩ = some (.int .i64 y2) := fun W' h => cell_below (cell_below HF.out.2.2.2 HB3.out) h.out
    have hw1 : IntKind.i64.wrap ((n : Int) - 1) = (n : Int) - 1 := IntWalk.i64_in _ (by omega)
    have hw2 : ((n : Int) - 1).toNat = n - 1 := by omega
    have hw3 : (0 : Int) ≤ (n : Int) - 1 := by omega
    have hw4 : (n : Int) - 1 < (n : Int) := by omega
    have hw5 : (0 : Int) < (n : Int) := by omega
    have hw6 : 0 < n := by omega
    go_region_held3 (fun w' => Hid (Below w3.heap.size w3 w'))
      (first | exact Lib.hid (Below.refl _ _).drew | exact heldA _ (by assumption) | exact Lib.hid ((Below.refl _ _).alloc (Nat.le_refl _) _).drew | exact Lib.hid (((Below.refl _ _).alloc (Nat.le_refl _) _).alloc (by simp) _).drew)
      (fail)
    all_goals (
      go_wp2_with fail
      go_meet
      first
        | exact ⟨w3.heap.size, w3.heap.size + 1, rfl, rfl, Lib.hid (twoA _ _ _ _ _ _)⟩
        | exact ⟨w3.heap.size + 1, w3.heap.size, rfl, rfl, Lib.hid (twoB _ _ _ _ _ _)⟩)
  case rest =>
    obtain ⟨b9, b10, rfl, rfl, HT⟩ := hcut
    have hEQ := fun a b c d W => eqXY a b c d W
    have HB4 := Lib.hid (HB3.out.trans (HT.out.2.2.2.2.mono HB3.out.size))
    have HG4 := Lib.hid (HG3.out.below HT.out.2.2.2.2)
    obtain ⟨c0, c1, c2, c3, c4⟩ := HG4.out
    obtain ⟨t0, t1, t2, t3, _⟩ := HT.out
    go_wp2_with (first
      | (go_at_call 17; (with_reducible refine (HRT.out _ HB4.out).mono ?_); rintro e w5 ⟨⟨qv, rfl, hqo⟩, hb5⟩; have HB5 := Lib.hid (HB4.out.trans (hb5.mono HB4.out.size)); have HG5 := Lib.hid (HG4.out.below hb5); replace t0 := cell_below t0 hb5; replace t1 := cell_below t1 hb5; replace t2 := cell_below t2 hb5; replace t3 := cell_below t3 hb5; have HQR := Lib.hid (RdP.own hqo rfl); clear hb5 hqo c0 c1 c2 c3 c4; obtain ⟨c0, c1, c2, c3, c4⟩ := HG5.out; obtain ⟨qa, qc, rfl, hqc1, hqc2, hqa, _⟩ := HQR.out; rw [HM.out] at hqc1; rw [HM.out] at HQR ⊢))
    have hm1 := HQ1.out
    have hm9 := HQ9.out
    obtain ⟨bq, oq, rfl, g0, g1⟩ := RdP.cell hqa (j := 0) (x := (x1, y1)) (by
      have := HQF.out
      rw [List.getD_eq_getElem?_getD, List.getElem?_eq_getElem (by rw [HM.out]; omega)] at this
      rw [List.getElem?_eq_getElem (by rw [HM.out]; omega)]
      exact congrArg some this)
    obtain ⟨bq', oq', ee, g2, g3⟩ := RdP.cell hqa (j := m - 1) (x := (x2, y2)) (by
      have := HQL.out
      rw [List.getD_eq_getElem?_getD, List.getElem?_eq_getElem (by rw [HM.out]; omega)] at this
      rw [List.getElem?_eq_getElem (by rw [HM.out]; omega)]
      exact congrArg some this)
    obtain ⟨rfl, rfl⟩ : bq = bq' ∧ oq = oq' := by simpa using ee
    simp only [Nat.zero_mul, Nat.add_zero] at g0 g1
    dsimp only at g2 g3
    have g0 := fun z : Grow w5 => grow_cell g0 z
    have g1 := fun z : Grow w5 => grow_cell g1 z
    have g2 := fun z : Grow w5 => grow_cell g2 z
    have g3 := fun z : Grow w5 => grow_cell g3 z
    have T0 := Lib.hid t0
    have T1 := Lib.hid t1
    have T2 := Lib.hid t2
    have T3 := Lib.hid t3
    have t0 := fun z : Grow w5 => grow_cell T0.out z
    have t1 := fun z : Grow w5 => grow_cell T1.out z
    have t2 := fun z : Grow w5 => grow_cell T2.out z
    have t3 := fun z : Grow w5 => grow_cell T3.out z
    have hd1 : decide (own < cn) = false := decide_eq_false (by have := HLE.out; omega)
    have hd2 : ((m : Int) == 0) = false := by
      rw [Bool.eq_false_iff]; intro hh; simp at hh; omega
    have hw1 : IntKind.i64.wrap ((m : Int) - 1) = (m : Int) - 1 := IntWalk.i64_in _ (by omega)
    have hw2 : ((m : Int) - 1).toNat = m - 1 := by omega
    have hw3 : (0 : Int) ≤ (m : Int) - 1 := by omega
    have hw4 : (m : Int) - 1 < (m : Int) := by omega
    have hw5 : (0 : Int) < (m : Int) := by omega
    have hw6 : 0 < m := by omega
    clear ee hqa c0 c1 c2 c3 c4
    refine wp_region_grow (by kernel_rfl) (by kernel_rfl) ?_
    repeat (go_big_quiet_step (fail))
    refine wpQuiet_nil ?_
    intro _ hw'
    obtain ⟨xq, hw''⟩ := hw'
    subst hw''
    have HBx := Lib.hid (grow_below xq)
    generalize grow xq = w6 at *
    have HB6 := Lib.hid (HB5.out.trans (HBx.out.mono HB5.out.size))
    have HG6 := Lib.hid (HG5.out.below HBx.out)
    have HQ6 := Lib.hid (HQR.out.below HBx.out)
    have s0 := cell_below T0.out HBx.out
    have s1 := cell_below T1.out HBx.out
    have s2 := cell_below T2.out HBx.out
    have s3 := cell_below T3.out HBx.out
    obtain ⟨c0, c1, c2, c3, c4⟩ := HG6.out
    clear g0 g1 g2 g3 t0 t1 t2 t3 hd1 hd2 hw1 hw2 hw3 hw4 hw5 hw6 hm1 hm9 HRT
    go_wp2_with (first
      | (go_at_call 29; (with_reducible refine (HQC.out _ _ HB6.out HQ6.out).mono ?_); rintro e w7 ⟨rfl, hb7⟩; have HB7 := Lib.hid (HB6.out.trans (hb7.mono HB6.out.size)); have HG7 := Lib.hid (HG6.out.below hb7); replace s0 := cell_below s0 hb7; replace s1 := cell_below s1 hb7; replace s2 := cell_below s2 hb7; replace s3 := cell_below s3 hb7; clear hb7 c0 c1 c2 c3 c4; obtain ⟨c0, c1, c2, c3, c4⟩ := HG7.out)
      | (go_at_call_of 14 (Value.agg #[.int .i64 x2, .int .i64 y2]); (with_reducible refine (HFT.out _ HB7.out).mono ?_); rintro e w8 ⟨⟨fv, rfl, hfo⟩, hb8⟩; have HB8 := Lib.hid (HB7.out.trans (hb8.mono HB7.out.size)); have HG8 := Lib.hid (HG7.out.below hb8); replace s0 := cell_below s0 hb8; replace s1 := cell_below s1 hb8; replace s2 := cell_below s2 hb8; replace s3 := cell_below s3 hb8; clear hb8 c0 c1 c2 c3 c4; obtain ⟨c0, c1, c2, c3, c4⟩ := HG8.out; obtain ⟨fa, fc, rfl⟩ := own_form hfo; have HFo := Lib.hid (Rd.own hfo); clear hfo; rw [HN.out.len1] at HFo ⊢; clear HFT)
      | (go_at_call 14; (with_reducible refine (HFF.out _ HB8.out).mono ?_); rintro e w9 ⟨⟨gv, rfl, hgo⟩, hb9⟩; have HB9 := Lib.hid (HB8.out.trans (hb9.mono HB8.out.size)); have HG9 := Lib.hid (HG8.out.below hb9); replace s0 := cell_below s0 hb9; replace s1 := cell_below s1 hb9; replace s2 := cell_below s2 hb9; replace s3 := cell_below s3 hb9; clear c0 c1 c2 c3 c4; obtain ⟨c0, c1, c2, c3, c4⟩ := HG9.out; obtain ⟨ga, gc, rfl⟩ := own_form hgo; have hgo' := Rd.own hgo; obtain ⟨fb, fof, rfl, u1⟩ := far_cell (HFo.out.below hb9 (Nat.le_refl _)) (by rw [HN.out.len1]; exact HN.out.l1) HN.out.at1; obtain ⟨gb, gof, rfl, u2⟩ := far_cell hgo' (by rw [HN.out.len2]; exact HN.out.l2) HN.out.at2; clear hb9 hgo hgo'; rw [HN.out.len2]; have a1 := HN.out.a1; have a2 := HN.out.a2; have a3 := HN.out.a3; have a4 := HN.out.a4; have a5 := HN.out.a5; have b1 : (i1 : Int) < (N : Int) := Int.ofNat_lt.2 HN.out.l1; have b2 : (i2 : Int) < (N : Int) := Int.ofNat_lt.2 HN.out.l2)
      | (go_at_call 13; refine (HAW.out _).mono ?_; rintro e w10 ⟨rfl, hb10⟩))
    go_ret
    exact ⟨rfl, HB9.out.trans (hb10.mono HB9.out.size)⟩
theorem law_cheapestL (w h mv bd : Int) (bv : Value) (bl : List Ce) (v : Value) (p : List Ce) (W : World) (hv : RdP W bv bl) (hp : RdP W v p) (hw : ∀ x ∈ p, (Lit.int .i64 x.1).wf = true ∧ (Lit.int .i64 x.2).wf = true) :
    Calls Try.prog 8 #[.agg #[.int .i64 w, .int .i64 h, .int .i64 mv, .int .i64 bd, bv], v] W fun e w' => e = .returned (.bool true) ∧ Below W.heap.size W w' := by
  cases hs : ((!validP w h mv bd bl || decide (w * h ≤ 144)) && decide (p.length ≤ 300) && decide (checkF w h mv bd bl p = 0)) with
  | false => exact cheapest_skip w h mv bd bv bl p v W hv hp hw hs
  | true =>
    simp only [Bool.and_eq_true, decide_eq_true_eq] at hs
    obtain ⟨x, y, rfl, rfl⟩ := valid_nat (checkF_ok hs.2).1
    exact cheapest_run x y mv bd bv bl p v W hv hp hw hs.1.1 hs.1.2 hs.2
end Go.Proofs.Ytpakkjkjppibnaa

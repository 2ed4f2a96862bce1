/- Layout: the law LayoutBlocks, walked. -/
import Derived.Test.YtpakkjkjppibnaaKBlk
import Derived.Outline
import Derived.Deep.CutRange
namespace Go.Proofs.Ytpakkjkjppibnaa
open Go.RowKit

/-- three boxes: a grid and two cells -/
theorem GBx.new3 (W : World) (w h mv bd : Int) (bv : Value) (t : TypeId) (o1 o2 : Obj) : GBx (((W.alloc (.cells #[.int .i64 w, .int .i64 h, .int .i64 mv, .int .i64 bd, bv] t)).alloc o1).alloc o2) W.heap.size w h mv bd bv :=
  (GBx.new W w h mv bd bv t o1).below ((Below.refl _ _).alloc (Nat.le_refl _) _)
/-- behind the region: the other grid, boxed, and its list -/
def BlkR (w2 wx : World) (w h mv bd : Int) (l : List (Int × Int)) : Prop := ∃ a n c, GBx wx w2.heap.size w h mv bd (.slice a n c) ∧ RdP wx (.slice a n c) l ∧ Below w2.heap.size w2 wx
theorem blk_end {w2 w3 w' : World} {w h mv bd : Int} {u : Value} {va : Option Addr} {n vc : Nat} {l : List (Int × Int)} (hM : GBx w3 w2.heap.size w h mv bd u) (hB3 : Below w2.heap.size w2 w3) (hb : Below w3.heap.size w3 w') (ho : w'.ownsRow w3.heap.size 26 2 (.slice va n vc) n (pairs l)) (hn : n = l.length) :
    BlkR w2 (w'.setCell ⟨w2.heap.size, 4, none⟩ (.slice va n vc)) w h mv bd l := by
  obtain ⟨m0, m1, m2, m3, m4⟩ := hM.below hb
  have hlt : w2.heap.size < w3.heap.size := World.block_lt_of_cell? _ _ hM.1
  refine ⟨va, n, vc, ⟨?_, ?_, ?_, ?_, World.cell?_setCell_same _ _ _ m4⟩, ?_, (hB3.trans (hb.mono hB3.size)).setCell (p := ⟨w2.heap.size, 4, none⟩) (Nat.le_refl _) _⟩
  · exact (World.cell?_setCell_other _ _ _ _ (by simp)).trans m0
  · exact (World.cell?_setCell_other _ _ _ _ (by simp)).trans m1
  · exact (World.cell?_setCell_other _ _ _ _ (by simp)).trans m2
  · exact (World.cell?_setCell_other _ _ _ _ (by simp)).trans m3
  · have hr := RdP.own ho hn
    obtain ⟨a, cap, he, h1, h2, h3, h4⟩ := hr
    injection he with e1 e2 e3
    subst e1 e3
    refine ⟨_, _, by rw [e2], h1, h2, ?_, h4⟩
    rcases h3 with h3 | ⟨b, off, hbb, h3⟩
    · exact .inl h3
    · refine .inr ⟨b, off, hbb, fun j x hj => ?_⟩
      have hge : w3.heap.size ≤ b := (ho.lt b (by rw [hbb]; rfl)).1
      exact (World.cell?_setCell_other _ _ _ _ (fun e => by injection e; omega)).trans (h3 j x hj)

set_option maxRecDepth 100000 in
theorem blocks_big (w h mv bd : Int) (bv : Value) (bl : List (Int × Int)) (t1 t2 x1 x2 : Int) (W : World) (hv : RdP W bv bl) (hs : (!validP w h mv bd bl || decide (w * h ≤ 144)) = false) :
    Calls Try.prog 4 #[.agg #[.int .i64 w, .int .i64 h, .int .i64 mv, .int .i64 bd, bv], .agg #[.int .i64 t1, .int .i64 t2], .agg #[.int .i64 x1, .int .i64 x2]] W fun e w' => e = .returned (.bool true) ∧ Below W.heap.size W w' := by
  have hbW := Lib.hid ((((Below.refl W.heap.size W).alloc (Nat.le_refl _) (.cells #[.int .i64 w, .int .i64 h, .int .i64 mv, .int .i64 bd, bv] 24)).alloc (by simp) (.cells #[.int .i64 t1, .int .i64 t2] 26)).alloc (by simp; omega) (.cells #[.int .i64 x1, .int .i64 x2] 26))
  have HSM := Lib.hid (fun V (hV : Below W.heap.size W V) => small_any w h mv bd bv bl V (hv.below hV))
  have HAW := Lib.hid (fun V => awake_any V)
  rw [hs] at HSM
  obtain ⟨a, cap, rfl, hc, hcm, _, _⟩ := hv
  clear hs
  go_enter Try.func4, Try.ntmps4
  go_wp2_with (first
    | (go_at_call 12; (with_reducible refine (HSM.out _ hbW.out).mono ?_); rintro e w1 ⟨rfl, hb1⟩; have HB1 := Lib.hid (hbW.out.trans (hb1.mono (by simp; omega))))
    | (go_at_call 13; refine (HAW.out _).mono ?_; rintro e w3 ⟨rfl, hb3⟩))
  go_ret
  exact ⟨rfl, HB1.out.trans (hb3.mono HB1.out.size)⟩

set_option maxRecDepth 100000 in
set_option maxHeartbeats 1000000 in
theorem blocks_run (w h mv bd : Int) (bv : Value) (bl : List (Int × Int)) (t1 t2 x1 x2 : Int) (W : World) (hv : RdP W bv bl) (hs : (!validP w h mv bd bl || decide (w * h ≤ 144)) = true) (hbl : bl.length ≤ 8796093022000) :
    Calls Try.prog 4 #[.agg #[.int .i64 w, .int .i64 h, .int .i64 mv, .int .i64 bd, bv], .agg #[.int .i64 t1, .int .i64 t2], .agg #[.int .i64 x1, .int .i64 x2]] W fun e w' => e = .returned (.bool true) ∧ Below W.heap.size W w' := by
  have hbW := Lib.hid ((((Below.refl W.heap.size W).alloc (Nat.le_refl _) (.cells #[.int .i64 w, .int .i64 h, .int .i64 mv, .int .i64 bd, bv] 24)).alloc (by simp) (.cells #[.int .i64 t1, .int .i64 t2] 26)).alloc (by simp; omega) (.cells #[.int .i64 x1, .int .i64 x2] 26))
  have HBX := Lib.hid (Boxes.new W (.cells #[.int .i64 w, .int .i64 h, .int .i64 mv, .int .i64 bd, bv] 24) t1 t2 x1 x2 26)
  have HGX := Lib.hid (GBx.new3 W w h mv bd bv 24 (.cells #[.int .i64 t1, .int .i64 t2] 26) (.cells #[.int .i64 x1, .int .i64 x2] 26))
  have HSM := Lib.hid (fun V (hV : Below W.heap.size W V) => small_any w h mv bd bv bl V (hv.below hV))
  have HAW := Lib.hid (fun V => awake_any V)
  have HFR := Lib.hid (fun V (hV : Below W.heap.size W V) => far_any w h mv bd bv bl (t1, t2) V (hv.below hV))
  have HFM := Lib.hid (fun v V (hV : RdP V v (bl ++ [(x1, x2)])) => far_any w h mv bd v _ (t1, t2) V hV)
  have HMB := Lib.hid (@more_blocks w h mv bd bl (t1, t2) (x1, x2))
  have HLA := Lib.hid (@farF_len w h mv bd bl (t1, t2))
  have HLB := Lib.hid (@farF_len w h mv bd (bl ++ [(x1, x2)]) (t1, t2))
  generalize farF w h mv bd bl (t1, t2) = fa at *
  generalize farF w h mv bd (bl ++ [(x1, x2)]) (t1, t2) = fb at *
  obtain ⟨la, ea⟩ := fa
  obtain ⟨lb, eb⟩ := fb
  rw [hs] at HSM
  have HBV := Lib.hid hv
  obtain ⟨a, cap, rfl, hc, hcm, _, _⟩ := hv
  clear hs
  dsimp only at *
  go_enter Try.func4, Try.ntmps4
  go_wp2_with (first
    | (go_at_call 12; (with_reducible refine (HSM.out _ hbW.out).mono ?_); rintro e w1 ⟨rfl, hb1⟩; have HB1 := Lib.hid (hbW.out.trans (hb1.mono (by simp; omega))); have HX1 := Lib.hid (HBX.out.below hb1); have HG1 := Lib.hid (HGX.out.below hb1); obtain ⟨c0, c1, c2, c3, c4⟩ := HG1.out; obtain ⟨c5, c6, c7, c8⟩ := HX1.out; clear hb1)
    | (go_at_call 14; (with_reducible refine (HFR.out _ HB1.out).mono ?_); rintro e w2 ⟨⟨cv, rfl, hco⟩, hb2⟩; have HCO := Lib.hid (Rd.own hco); have HB2 := Lib.hid (HB1.out.trans (hb2.mono HB1.out.size)); have HG2 := Lib.hid (HG1.out.below hb2); have HX2 := Lib.hid (HX1.out.below hb2); clear c0 c1 c2 c3 c4 c5 c6 c7 c8 hb2 hco; obtain ⟨c0, c1, c2, c3, c4⟩ := HG2.out; obtain ⟨ca, ccap, rfl, hcc1, hcc2, hcc3, _⟩ := HCO.out; rw [ints_length] at *)
    | (go_at_call 13; refine (HAW.out _).mono ?_; rintro e w3 ⟨rfl, hb3⟩))
  go_cut [] from 24 to 31 (fun wx => Hid (BlkR w2 wx w h mv bd (bl ++ [(x1, x2)])))
  case first =>
    have HM : Hid (GBx (w2.alloc (.cells #[.int .i64 w, .int .i64 h, .int .i64 mv, .int .i64 bd, .slice a bl.length cap] 24)) w2.heap.size w h mv bd (.slice a bl.length cap)) := Lib.hid (GBx.new1 _ _ _ _ _ _ _)
    have HB3 := Lib.hid ((Below.refl w2.heap.size w2).alloc (Nat.le_refl _) (.cells #[.int .i64 w, .int .i64 h, .int .i64 mv, .int .i64 bd, .slice a bl.length cap] 24))
    have HF3 : Hid ((w2.alloc (.cells #[.int .i64 w, .int .i64 h, .int .i64 mv, .int .i64 bd, .slice a bl.length cap] 24)).frozen? ⟨w2.heap.size, 4, none⟩ = false) := Lib.hid (by
      have e := heap_alloc_new w2 (.cells #[.int .i64 w, .int .i64 h, .int .i64 mv, .int .i64 bd, .slice a bl.length cap] 24)
      unfold World.frozen?; rw [e]; rfl)
    have HS3 : Hid ((w2.alloc (.cells #[.int .i64 w, .int .i64 h, .int .i64 mv, .int .i64 bd, .slice a bl.length cap] 24)).heap.size = w2.heap.size + 1) := Lib.hid (by simp)
    generalize hW3 : w2.alloc (.cells #[.int .i64 w, .int .i64 h, .int .i64 mv, .int .i64 bd, .slice a bl.length cap] 24) = w3 at *
    obtain ⟨m0, m1, m2, m3, m4⟩ := HM.out
    have HBl := Lib.hid (HBV.out.below (HB2.out.trans (HB3.out.mono HB2.out.size)))
    have b4 := cell_below c4 HB3.out
    obtain ⟨_, _, b7, b8⟩ := HX2.out.below HB3.out
    have f4 := HF3.out
    clear hW3 c0 c1 c2 c3 c4
    have l4 := World.block_lt_of_cell? _ _ b4
    have l7 := World.block_lt_of_cell? _ _ b7
    have lm := World.block_lt_of_cell? _ _ m4
    dsimp only at l4 l7 lm
    have HSA := fun o : Obj => (show (w3.alloc o).heap.size = w3.heap.size + 1 from by simp)
    go_region_law (first
      | (refine stepA0 (ys := bl) (v := .slice (some ⟨_, 0, none⟩) 0 0) (y := .slice a bl.length cap) el_xy2 rfl rfl (w0 := w3) rfl rfl ?hbel ?hown ?hy (by omega) (by decide) ?_
         case hbel => exact (by first | exact ((Below.refl _ _).alloc (Nat.le_refl _) _).drew | exact (((Below.refl _ _).alloc (Nat.le_refl _) _).alloc (by simp) _).drew | exact hb.alloc hb.size _ | exact hb)
         case hown => first | exact own2a _ _ | exact own2b _ _ _ | exact own2c _ _ _
         case hy => exact HBl.out.below (by first | exact ((Below.refl _ _).alloc (Nat.le_refl _) _).drew | exact (((Below.refl _ _).alloc (Nat.le_refl _) _).alloc (by simp) _).drew)
         intro v' w' ho hg hb; obtain ⟨va, vc, rfl⟩ := own_form ho; have q4 := cell_below b4 hb; have q7 := cell_below b7 hb; have q8 := cell_below b8 hb; have n4 := cell_below m4 hb; have nf := frozen_below f4 lm hb; have hsz := hb.size; have l4' := World.block_lt_of_cell? _ _ q4; have l7' := World.block_lt_of_cell? _ _ q7; have lm' := World.block_lt_of_cell? _ _ n4; dsimp only at l4' l7' lm')
      | (refine stepA (n := bl.length) (xs := bl) (ys := [(x1, x2)]) el_xy2 rfl rfl (w0 := w3) rfl rfl ?hbel ?hown ?hy (by simp only [List.length_cons, List.length_nil]; omega) (by decide) ?_
         case hbel => exact (by first | exact ((Below.refl _ _).alloc (Nat.le_refl _) _).drew | exact (((Below.refl _ _).alloc (Nat.le_refl _) _).alloc (by simp) _).drew | exact hb.alloc hb.size _ | exact hb)
         case hown => first | exact ho | exact ho.alloc _
         case hy => first | exact RdP.lit _ (x1, x2) _ | exact grownA hg | exact grownB hg
         intro v' w' ho hg hb; obtain ⟨va, vc, rfl⟩ := own_form ho; have q4 := cell_below b4 hb; have q7 := cell_below b7 hb; have q8 := cell_below b8 hb; have n4 := cell_below m4 hb; have nf := frozen_below f4 lm hb; have hsz := hb.size; have l4' := World.block_lt_of_cell? _ _ q4; have l7' := World.block_lt_of_cell? _ _ q7; have lm' := World.block_lt_of_cell? _ _ n4; dsimp only at l4' l7' lm'))
    all_goals (
      go_wp2_with fail
      go_meet
      exact Lib.hid (blk_end HM.out HB3.out hb ho (by simp)))
  case rest =>
    obtain ⟨ma, mn, mc, hm, hr, hbx⟩ := hcut.out
    have HB4 := Lib.hid (HB2.out.trans (hbx.mono HB2.out.size))
    have HCO4 := Lib.hid (HCO.out.below hbx (Nat.le_refl _))
    have HRM := Lib.hid hr
    obtain ⟨x5, x6, _, _⟩ := HX2.out.below hbx
    obtain ⟨g0, g1, g2, g3, g4⟩ := hm
    clear hbx hr c0 c1 c2 c3 c4 hcut
    by_cases hea : ea = 0
    · subst hea
      by_cases heb : eb = 0
      · subst heb
        obtain ⟨hll, hmm⟩ := HMB.out rfl rfl
        have HMM := Lib.hid hmm
        have HLL := Lib.hid hll
        clear hmm
        go_wp2_with (first
          | (go_at_call 14; (with_reducible refine (HFM.out _ _ HRM.out).mono ?_); rintro e w5 ⟨⟨dv, rfl, hdo⟩, hb5⟩; have HDO := Lib.hid (Rd.own hdo); have HB5 := Lib.hid (HB4.out.trans (hb5.mono HB4.out.size)); have HC5 := Lib.hid (HCO4.out.below hb5 (Nat.le_refl _)); obtain ⟨da, dcap, rfl, hd1, hd2, hd3, _⟩ := HDO.out; rw [ints_length] at *; clear hb5 hdo)
          | (go_at_call 13; refine (HAW.out _).mono ?_; rintro e w6 ⟨rfl, hb6⟩))
        rw [← hll] at HDO ⊢
        obtain ⟨N, hN⟩ : ∃ N, la.length = N := ⟨_, rfl⟩
        have HN := Lib.hid hN
        have hN9 : N ≤ 900 := by rw [← hN]; exact HLA.out
        rw [hN] at HC5 HDO ⊢
        clear hN hll g0 g1 g2 g3 g4 x5 x6
        go_loopw [52] (fun i wr => ∃ k : Nat, k ≤ N ∧ i = .int .i64 k ∧ Hid (Below w5.heap.size w5 wr)) (fun i _ => N - (intOf i).toNat)
        case atStart => exact ⟨0, Nat.zero_le _, rfl, Lib.hid (Below.refl _ _)⟩
        case round =>
          obtain ⟨k, hk, rfl, HR⟩ := hrel
          by_cases hkN : k < N
          · have hkN' : (k : Int) < (N : Int) := by omega
            obtain ⟨cb, co, rfl, hcell⟩ := (HC5.out.cellsAt.below HR.out (Nat.le_refl _)).cell (j := k) (by rw [ints_length, HN.out]; exact hkN)
            have f0 := hcell k _ (ints_getD (by rw [HN.out]; exact hkN))
            obtain ⟨db, do', rfl, hcell2⟩ := (HDO.out.cellsAt.below HR.out (Nat.le_refl _)).cell (j := k) (by rw [ints_length, ← HLL.out, HN.out]; exact hkN)
            have f1 := hcell2 k _ (ints_getD (by rw [← HLL.out, HN.out]; exact hkN))
            have hmk := HMM.out k (by rw [HN.out]; exact hkN)
            generalize la.getD k 0 = av at *
            generalize lb.getD k 0 = bv at *
            have e0 := fun x : Grow wr => grow_cell f0 x
            have e1 := fun x : Grow wr => grow_cell f1 x
            clear hcell hcell2 f0 f1
            by_cases h0 : 0 ≤ bv
            · have hm2 := hmk h0
              have h1 : ¬ av < 0 := by omega
              have h2 : ¬ bv < av := by omega
              have d0 : decide (0 ≤ bv) = true := decide_eq_true h0
              have d1 : decide (av < 0) = false := decide_eq_false h1
              have d2 : decide (bv < av) = false := decide_eq_false h2
              clear hmk hm2
              go_wp2_with fail
              refine wp_region_grow (by kernel_rfl) (by kernel_rfl) ?_
              repeat (go_big_quiet_step (fail))
              refine wpQuiet_nil ?_
              intro _ hw'
              obtain ⟨xq, hw''⟩ := hw'
              subst hw''
              have HBq := Lib.hid (HR.out.trans ((grow_below xq).mono HR.out.size))
              clear e0 e1
              generalize grow xq = w8 at *
              go_wp2_with fail
              go_roundw
              case rel => exact ⟨k + 1, by omega, by go_num, HBq⟩
              case measure => simp [intOf]; omega
            · have d0 : decide (0 ≤ bv) = false := decide_eq_false h0
              clear hmk
              by_cases h1 : av < 0
              · have d1 : decide (av < 0) = true := decide_eq_true h1
                go_wp2_with fail
                refine wp_region_grow (by kernel_rfl) (by kernel_rfl) ?_
                repeat (go_big_quiet_step (fail))
                refine wpQuiet_nil ?_
                intro _ hw'
                obtain ⟨xq, hw''⟩ := hw'
                subst hw''
                have HBq := Lib.hid (HR.out.trans ((grow_below xq).mono HR.out.size))
                clear e0 e1
                generalize grow xq = w8 at *
                go_wp2_with fail
                go_roundw
                case rel => exact ⟨k + 1, by omega, by go_num, HBq⟩
                case measure => simp [intOf]; omega
              · have d1 : decide (av < 0) = false := decide_eq_false h1
                go_wp2_with fail
                refine wp_region_grow (by kernel_rfl) (by kernel_rfl) ?_
                repeat (go_big_quiet_step (fail))
                refine wpQuiet_nil ?_
                intro _ hw'
                obtain ⟨xq, hw''⟩ := hw'
                subst hw''
                have HBq := Lib.hid (HR.out.trans ((grow_below xq).mono HR.out.size))
                clear e0 e1
                generalize grow xq = w8 at *
                go_wp2_with fail
                go_roundw
                case rel => exact ⟨k + 1, by omega, by go_num, HBq⟩
                case measure => simp [intOf]; omega
          · obtain rfl : k = N := by omega
            go_wp2_with (go_at_call 13; refine (HAW.out _).mono ?_; rintro e w6 ⟨rfl, hb6⟩)
            go_ret
            exact ⟨rfl, (HB5.out.trans (HR.out.mono HB5.out.size)).trans (hb6.mono (by have := HB5.out.size; have := HR.out.size; omega))⟩
      · have heb' : (eb != 0) = true := by simpa using heb
        go_wp2_with (first
          | (go_at_call 14; (with_reducible refine (HFM.out _ _ HRM.out).mono ?_); rintro e w5 ⟨⟨dv, rfl, hdo⟩, hb5⟩; have HDO := Lib.hid (Rd.own hdo); have HB5 := Lib.hid (HB4.out.trans (hb5.mono HB4.out.size)); have HC5 := Lib.hid (HCO4.out.below hb5 (Nat.le_refl _)); obtain ⟨da, dcap, rfl, hd1, hd2, hd3, _⟩ := HDO.out; rw [ints_length] at *; clear hb5 hdo)
          | (go_at_call 13; refine (HAW.out _).mono ?_; rintro e w6 ⟨rfl, hb6⟩))
        go_ret
        exact ⟨rfl, HB5.out.trans (hb6.mono HB5.out.size)⟩
    · have hea' : (ea != 0) = true := by simpa using hea
      go_wp2_with (first
        | (go_at_call 14; (with_reducible refine (HFM.out _ _ HRM.out).mono ?_); rintro e w5 ⟨⟨dv, rfl, hdo⟩, hb5⟩; have HDO := Lib.hid (Rd.own hdo); have HB5 := Lib.hid (HB4.out.trans (hb5.mono HB4.out.size)); have HC5 := Lib.hid (HCO4.out.below hb5 (Nat.le_refl _)); obtain ⟨da, dcap, rfl, hd1, hd2, hd3, _⟩ := HDO.out; rw [ints_length] at *; clear hb5 hdo)
        | (go_at_call 13; refine (HAW.out _).mono ?_; rintro e w6 ⟨rfl, hb6⟩))
      go_ret
      exact ⟨rfl, HB5.out.trans (hb6.mono HB5.out.size)⟩

theorem law_blocks (w h mv bd : Int) (bv : Value) (bl : List (Int × Int)) (t1 t2 x1 x2 : Int) (W : World) (hv : RdP W bv bl) (hbl : bl.length ≤ 8796093022000) :
    Calls Try.prog 4 #[.agg #[.int .i64 w, .int .i64 h, .int .i64 mv, .int .i64 bd, bv], .agg #[.int .i64 t1, .int .i64 t2], .agg #[.int .i64 x1, .int .i64 x2]] W fun e w' => e = .returned (.bool true) ∧ Below W.heap.size W w' := by
  cases hs : (!validP w h mv bd bl || decide (w * h ≤ 144)) with
  | false => exact blocks_big w h mv bd bv bl t1 t2 x1 x2 W hv hs
  | true => exact blocks_run w h mv bd bv bl t1 t2 x1 x2 W hv hs hbl
end Go.Proofs.Ytpakkjkjppibnaa

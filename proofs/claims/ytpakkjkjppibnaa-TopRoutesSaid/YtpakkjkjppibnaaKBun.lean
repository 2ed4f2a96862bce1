/- Top: bundled, its plain side.
   Top: bundled, walked. -/
import Derived.Test.YtpakkjkjppibnaaKCheap
import Derived.Test.YtpakkjkjppibnaaKTog
import Derived.Test.YtpakkjkjppibnaaLLParity
import Derived.Lib.MinMax
namespace Go.Proofs.Ytpakkjkjppibnaa
open Go.RowKit

theorem chk_two {w h mv bd : Int} {bl p q : List Ce} (hp : checkF w h mv bd bl p = 0) (hq : checkF w h mv bd bl q = 0) : chkF w h mv bd bl [p, q] = 0 := by
  have hv := (checkF_ok hp).1
  unfold checkF at hp hq
  rw [if_pos hv] at hp hq
  unfold chkF
  rw [if_pos hv, if_neg (by simp)]
  exact chkL_zero.2 fun r hr => by
    simp at hr
    rcases hr with rfl | rfl
    · exact hp
    · exact hq
theorem chk_all {w h mv bd : Int} {bl : List Ce} {ps : List (List Ce)} (hv : validP w h mv bd bl = true) (h5 : ps.length ≤ 5) (hps : ∀ p ∈ ps, checkF w h mv bd bl p = 0) : chkF w h mv bd bl ps = 0 := by
  unfold chkF
  rw [if_pos hv, if_neg (by omega)]
  exact chkL_zero.2 fun r hr => by
    have := hps r hr
    unfold checkF at this
    rwa [if_pos hv] at this
theorem check_wf {w h : Nat} {mv bd : Int} {bl p : List Ce} (hp : checkF w h mv bd bl p = 0) : WfL p := fun y hy => (open_wf (checkF_ok hp).1 (List.all_eq_true.1 (checkF_ok hp).2.2.2.2.2 y hy)).2.2.2.2

/-- what two paths answer: their places, Together, Must -/
structure PairF (w h : Nat) (mv bd : Int) (bv : Value) (W : World) (vp vq : Value) (G : Ce → List Vis) (n m b1 o1 c1 b2 o2 c2 : Nat) (x1 y1 x2 y2 x3 y3 x4 y4 : Int) (t : Bool) (f : Int) : Prop where
  ep : vp = .slice (some ⟨b1, o1, none⟩) n c1
  eq : vq = .slice (some ⟨b2, o2, none⟩) m c2
  n1 : 1 ≤ n ∧ n ≤ 1000
  m1 : 1 ≤ m ∧ m ≤ 1000
  ans : ∀ E L, TogE 0 G E L → (E = 73 ∧ L = []) ∨ (E = 0 ∧ (f = 2 ∨ f = 0 ∧ decide (L.length % 2 = 1) = t))
  must : ∀ V, Below W.heap.size W V → Calls Try.prog 26 #[.agg #[.int .i64 w, .int .i64 h, .int .i64 mv, .int .i64 bd, bv], .agg #[.int .i64 x1, .int .i64 y1], .agg #[.int .i64 x2, .int .i64 y2], .agg #[.int .i64 x3, .int .i64 y3], .agg #[.int .i64 x4, .int .i64 y4]] V fun e w' => e = .returned (.tuple #[.bool t, .int .i64 f]) ∧ Below V.heap.size V w'
  f1 : W.cell? ⟨b1, o1, none⟩ = some (.int .i64 x1)
  f2 : W.cell? ⟨b1, o1 + 1, none⟩ = some (.int .i64 y1)
  f3 : W.cell? ⟨b1, o1 + (n - 1) * 2, none⟩ = some (.int .i64 x2)
  f4 : W.cell? ⟨b1, o1 + (n - 1) * 2 + 1, none⟩ = some (.int .i64 y2)
  f5 : W.cell? ⟨b2, o2, none⟩ = some (.int .i64 x3)
  f6 : W.cell? ⟨b2, o2 + 1, none⟩ = some (.int .i64 y3)
  f7 : W.cell? ⟨b2, o2 + (m - 1) * 2, none⟩ = some (.int .i64 x4)
  f8 : W.cell? ⟨b2, o2 + (m - 1) * 2 + 1, none⟩ = some (.int .i64 y4)
theorem pair_any {w h : Nat} {mv bd : Int} {bv : Value} {bl p q : List Ce} {vp vq : Value} {W : World} (hb : RdP W bv bl) (hp : RdP W vp p) (hq : RdP W vq q) (cp : checkF w h mv bd bl p = 0) (cq : checkF w h mv bd bl q = 0) :
    ∃ n m b1 o1 c1 b2 o2 c2 x1 y1 x2 y2 x3 y3 x4 y4 t f, PairF w h mv bd bv W vp vq (visA [p, q] [p, q].length) n m b1 o1 c1 b2 o2 c2 x1 y1 x2 y2 x3 y3 x4 y4 t f := by
  have hC := chk_two cp cq
  obtain ⟨hv, np, np2, _⟩ := checkF_ok cp
  obtain ⟨_, nq, nq2, _⟩ := checkF_ok cq
  obtain ⟨b1, o1, c1, x1, y1, x2, y2, e1, g1, g2, f1, f2, f3, f4⟩ := path_ends hp np
  obtain ⟨b2, o2, c2, x3, y3, x4, y4, e2, g3, g4, f5, f6, f7, f8⟩ := path_ends hq nq
  obtain ⟨⟨t, f⟩, hm⟩ : ∃ r, mustF w h (p.getD 0 (0, 0)) (p.getD (p.length - 1) (0, 0)) (q.getD 0 (0, 0)) (q.getD (q.length - 1) (0, 0)) = r := ⟨_, rfl⟩
  refine ⟨p.length, q.length, b1, o1, c1, b2, o2, c2, x1, y1, x2, y2, x3, y3, x4, y4, t, f, e1, e2, ⟨np, np2⟩, ⟨nq, nq2⟩, fun E L ht => ?_, fun V hV => ?_, f1, f2, f3, f4, f5, f6, f7, f8⟩
  · rcases ht with ⟨h1, _⟩ | ⟨_, h1, h2, _⟩ | ⟨_, h1, h2⟩
    · exact absurd rfl h1
    · exact .inl ⟨h1, h2⟩
    · exact .inr ⟨h1, must_facts hC h2 hm⟩
  · rw [g1, g2, g3, g4] at hm
    have := Must_ok w h mv bd bv bl (x1, y1) (x2, y2) (x3, y3) (x4, y4) V (hb.below hV) hv
    rw [hm] at this
    exact this

/-- what a detour of a path answers -/
theorem detour_facts {w h : Nat} {mv bd : Int} {bl p : List Ce} (cp : checkF w h mv bd bl p = 0) {M : Nat} (hM : p.length ≤ M ∧ M ≤ 200) (hpar : ((M : Int) - (p.length : Int)).tmod 2 = 0) {V : World} {u : Value} {E : Int}
    (hd : DetQ (openP (grK w h mv bd bl bl.length)) p ((M : Int) - (p.length : Int)) V u E) : E = 5 ∨ E = 0 ∧ ∃ q, RdP V u q ∧ q.length = M ∧ q.getD 0 (0, 0) = p.getD 0 (0, 0) ∧ q.getD (q.length - 1) (0, 0) = p.getD (p.length - 1) (0, 0) := by
  obtain ⟨hv, h1, h2, h3, h4, h5⟩ := checkF_ok cp
  have hP : Path (openP (grK w h mv bd bl bl.length)) p := by rw [openK hv]; exact ⟨h1, h3, h4, h5⟩
  rcases hd with ⟨hE, k, q, hk, hmo, hq, hr⟩ | ⟨_, _, hE⟩
  · have hL := longP_ok hP k q hq
    refine .inr ⟨hE, q, hr, ?_, hL.first, hL.last⟩
    rw [hL.len]
    omega
  · rcases hE with hE | hE
    · exact .inl hE
    · exact absurd ⟨hpar, by omega, by omega⟩ hE
end Go.Proofs.Ytpakkjkjppibnaa

namespace Go.Proofs.Ytpakkjkjppibnaa
open Go.RowKit

set_option maxRecDepth 100000 in
set_option maxHeartbeats 4000000 in
theorem bundled_any (w h : Nat) (mv bd : Int) (bv : Value) (bl : List Ce) (ps : List (List Ce)) (v : Value) (W : World) (hb : RdP W bv bl) (hv : RdPP W v ps) (h5 : ps.length ≤ 5) (hval : validP w h mv bd bl = true) (hps : ∀ p ∈ ps, checkF w h mv bd bl p = 0) (hps2 : ∀ p ∈ ps, p.length ≤ 100) :
    Calls Try.prog 37 #[.agg #[.int .i64 w, .int .i64 h, .int .i64 mv, .int .i64 bd, bv], v] W fun e w' => e = .returned (.bool true) ∧ Below W.heap.size W w' := by
  have HBW := Lib.hid ((Below.refl W.heap.size W).alloc (Nat.le_refl _) (.cells #[.int .i64 w, .int .i64 h, .int .i64 mv, .int .i64 bd, bv] 24))
  have HGX := Lib.hid (GBx.new1 W w h mv bd bv 24)
  have hwf : ∀ p ∈ ps, WfL p := fun p hp => check_wf (hps p hp)
  have HTG := Lib.hid (fun p q (hp : p ∈ ps) (hq : q ∈ ps) u V (hV : Below W.heap.size W V) (hr : RdPP V u [p, q]) => (by
    have h1 := Together_any w h mv bd bv bl [p, q] u V (hb.below hV) hr (fun r hr => by
      simp at hr
      rcases hr with rfl | rfl
      · exact hwf _ hp
      · exact hwf _ hq)
    rw [chk_two (hps p hp) (hps q hq)] at h1
    exact h1 : Calls Try.prog 32 #[.agg #[.int .i64 w, .int .i64 h, .int .i64 mv, .int .i64 bd, bv], u] V fun e w' => Below V.heap.size V w' ∧
      ∃ u E L, TogE 0 (visA [p, q] [p, q].length) E L ∧ L.length ≤ 12000 ∧ e = .returned (.tuple #[u, .int .i64 E]) ∧ RdP w' u (L.map cellX)))
  have HTW := Lib.hid (fun vp vq p q (hp : RdP W vp p) (hq : RdP W vq q) V (hV : Below W.heap.size W V) t (B : Nat) (hB : B = V.heap.size) => (show RdPP (V.alloc (.cells #[vp, vq] t)) (.slice (some ⟨B, 0, none⟩) 2 2) [p, q] from by subst hB; exact RdPP.two V (hp.below hV) (hq.below hV) t))
  have HPF := Lib.hid (fun p q vp vq (hp : p ∈ ps) (hq : q ∈ ps) (h1 : RdP W vp p) (h2 : RdP W vq q) => pair_any hb h1 h2 (hps p hp) (hps q hq))
  have HMA := Lib.hid (fun V (hV : Below W.heap.size W V) => Match_any w h mv bd bv bl ps v V (hb.below hV) (hv.below hV) hwf (chk_all hval h5 hps))
  have HDT := Lib.hid (fun p vp (hp : p ∈ ps) (hr : RdP W vp p) mo V (hV : Below W.heap.size W V) => Detour_q w h mv bd bv bl p vp mo V (hb.below hV) (hr.below hV) hval (by have := hps2 p hp; omega) (by
    obtain ⟨hv1, k1, _, k3, k4, k5⟩ := checkF_ok (hps p hp)
    rw [openK hv1]
    exact ⟨k1, k3, k4, k5⟩))
  have HDF := Lib.hid (fun p (hp : p ∈ ps) => (hps p hp))
  have HEN := Lib.hid (fun p vp (hp : p ∈ ps) (hr : RdP W vp p) => path_ends hr (checkF_ok (hps p hp)).2.1)
  have HL2 := Lib.hid hps2
  have HMX := Lib.hid (fun k => mxL_le hps2 k)
  obtain ⟨vs, av, cv, rfl, hvl, hcv, hav, hrd⟩ := hv.parts
  obtain ⟨a, cap, rfl⟩ := RdP.form hb
  obtain ⟨N, hN⟩ : ∃ N, vs.length = N := ⟨_, rfl⟩
  rw [hN] at hvl hcv HMA ⊢
  have hN5 : N ≤ 5 := by omega
  have HAV := Lib.hid hav
  have HRD := Lib.hid hrd
  have HNN := Lib.hid hN
  have HPL := Lib.hid hvl
  have HIX : Hid (∀ i, i < N → ∃ u p b o, vs[i]? = some u ∧ ps[i]? = some p ∧ p ∈ ps ∧ RdP W u p ∧ av = some ⟨b, o, none⟩ ∧ W.cell? ⟨b, o + i, none⟩ = some u) := Lib.hid (fun i hi => by
    obtain ⟨u, hu⟩ : ∃ u, vs[i]? = some u := ⟨_, List.getElem?_eq_getElem (by omega)⟩
    obtain ⟨p, hp⟩ : ∃ p, ps[i]? = some p := ⟨_, List.getElem?_eq_getElem (by omega)⟩
    rcases hav with hnil | ⟨b, o, e, hcell⟩
    · rw [hnil] at hu; simp at hu
    · exact ⟨u, p, b, o, hu, hp, List.mem_of_getElem? hp, hrd i u p hu hp, e, hcell i u hu⟩)
  obtain ⟨wb, hwb⟩ : ∃ wb, W.alloc (.cells #[.int .i64 w, .int .i64 h, .int .i64 mv, .int .i64 bd, .slice a bl.length cap] 24) = wb := ⟨_, rfl⟩
  rw [hwb] at HBW HGX
  have HWB := Lib.hid hwb
  clear hb hv h5 hval hps hps2 hwf hav hrd hN hvl hwb
  go_enter Try.func37, Try.ntmps37
  go_wp2_with fail
  rw [HWB.out]
  go_loopw [24] (fun p0 wr => ∃ i : Nat, i ≤ N ∧ p0 = .int .i64 i ∧ Hid (Below wb.heap.size wb wr)) (fun p0 _ => N - (intOf p0).toNat)
  case atStart => exact ⟨0, Nat.zero_le _, rfl, Lib.hid (Below.refl _ _)⟩
  case round =>
    obtain ⟨i, hi, rfl, HB⟩ := hrel
    by_cases hiN : i < N
    · have hiN' : (i : Int) < (N : Int) := by omega
      obtain ⟨vp, p, bs, os, hu, hp, hpm, hpr, rfl, hcu⟩ := HIX.out i hiN
      have HCU := Lib.hid (cell_below hcu HBW.out)
      have q0 := cell_below HCU.out HB.out
      have HPM := Lib.hid hpm
      have HPR := Lib.hid hpr
      clear hu hp hpm hpr hcu
      go_wp2_with fail
      obtain ⟨wo, rfl⟩ : ∃ wo, wo = wr := ⟨_, rfl⟩
      go_loopw [33] (fun p0 wr => ∃ k : Nat, k ≤ i ∧ p0 = .int .i64 k ∧ Hid (Below wb.heap.size wb wr)) (fun p0 _ => i - (intOf p0).toNat)
      case atStart => exact ⟨0, Nat.zero_le _, rfl, HB⟩
      case round =>
        clear HB q0
        obtain ⟨k, hk, rfl, HB⟩ := hrel
        by_cases hki : k < i
        · have hki' : (k : Int) < (i : Int) := by omega
          obtain ⟨vq, q, bs', os', hu, hq, hqm, hqr, eav, hcq⟩ := HIX.out k (by omega)
          obtain ⟨rfl, rfl⟩ : bs = bs' ∧ os = os' := by simpa using eav
          have q1 := cell_below (cell_below hcq HBW.out) HB.out
          obtain ⟨n, m, b1, o1, c1, b2, o2, c2, x1, y1, x2, y2, x3, y3, x4, y4, t, f, PF⟩ := HPF.out p q vp vq HPM.out hqm HPR.out hqr
          have HTGP := Lib.hid (HTG.out p q HPM.out hqm)
          have HTWP := Lib.hid (HTW.out _ _ p q HPR.out hqr)
          obtain rfl := PF.ep
          obtain rfl := PF.eq
          have hn1 := PF.n1
          have hm1 := PF.m1
          have HPFF := Lib.hid PF
          have HWW := Lib.hid (HBW.out.trans (HB.out.mono HBW.out.size))
          obtain ⟨c0, c1', c2', c3, c4⟩ := (HGX.out.below HB.out)
          have hw1 : IntKind.i64.wrap ((n : Int) - 1) = (n : Int) - 1 := IntWalk.i64_in _ (by omega)
          have hw2 : ((n : Int) - 1).toNat = n - 1 := by omega
          have hw3 : (0 : Int) ≤ (n : Int) - 1 := by omega
          have hw4 : (n : Int) - 1 < (n : Int) := by omega
          have hw5 : (0 : Int) < (n : Int) := by omega
          have hw6 : 0 < n := by omega
          have hx1 : IntKind.i64.wrap ((m : Int) - 1) = (m : Int) - 1 := IntWalk.i64_in _ (by omega)
          have hx2 : ((m : Int) - 1).toNat = m - 1 := by omega
          have hx3 : (0 : Int) ≤ (m : Int) - 1 := by omega
          have hx4 : (m : Int) - 1 < (m : Int) := by omega
          have hx5 : (0 : Int) < (m : Int) := by omega
          have hx6 : 0 < m := by omega
          clear hu hq hqm hqr eav hcq PF hn1 hm1
          go_wp2_with (first
            | (go_at_call 32; refine (HTGP.out _ _ (by exact HWW.out.alloc HWW.out.size _) (by exact HTWP.out _ HWW.out _ _ rfl)).mono ?_; rintro e w1 ⟨hb1, u, E, L, hte, _, rfl, hrd⟩; have HBa := Lib.hid ((HB.out.alloc HB.out.size (.cells #[.slice (some ⟨b1, o1, none⟩) n c1, .slice (some ⟨b2, o2, none⟩) m c2] 22)).trans (hb1.mono (HB.out.alloc HB.out.size _).size)); have HB1 := HBa; have HW1 := Lib.hid (HBW.out.trans (HB1.out.mono HBW.out.size)); (obtain ⟨au, cu, rfl⟩ := RdP.form hrd); (obtain ⟨K, hK⟩ : ∃ K, (L.map cellX).length = K := ⟨_, rfl⟩); rw [hK]; have HLK := Lib.hid (show L.length = K by rw [← hK, List.length_map]);
                clear hb1 hrd hK c0 c1' c2' c3 c4 q1; (have hans := HPFF.out.ans E L hte); (have hmu := Lib.hid (fun z : Grow w1 => HPFF.out.must (grow z) (HW1.out.trans ((grow_below z).mono HW1.out.size)))); have HMZ := hmu;
                (have f1 := fun z : Grow w1 => grow_cell (cell_below HPFF.out.f1 HW1.out) z); (have f2 := fun z : Grow w1 => grow_cell (cell_below HPFF.out.f2 HW1.out) z); (have f3 := fun z : Grow w1 => grow_cell (cell_below HPFF.out.f3 HW1.out) z); (have f4 := fun z : Grow w1 => grow_cell (cell_below HPFF.out.f4 HW1.out) z); (have f5 := fun z : Grow w1 => grow_cell (cell_below HPFF.out.f5 HW1.out) z); (have f6 := fun z : Grow w1 => grow_cell (cell_below HPFF.out.f6 HW1.out) z); (have f7 := fun z : Grow w1 => grow_cell (cell_below HPFF.out.f7 HW1.out) z); (have f8 := fun z : Grow w1 => grow_cell (cell_below HPFF.out.f8 HW1.out) z);
                have HG1 := Lib.hid (HGX.out.below HB1.out); (obtain ⟨c0, c1', c2', c3, c4⟩ := HG1.out); (have c0 := fun z : Grow w1 => grow_cell c0 z); (have c1' := fun z : Grow w1 => grow_cell c1' z); (have c2' := fun z : Grow w1 => grow_cell c2' z); (have c3 := fun z : Grow w1 => grow_cell c3 z); (have c4 := fun z : Grow w1 => grow_cell c4 z);
                clear hte; rcases hans with ⟨rfl, rfl⟩ | ⟨rfl, hf⟩))
          · refine wp_region_grow (by kernel_rfl) (by kernel_rfl) ?_
            repeat (go_big_quiet_step (first | (go_at_call 26; refine grow_of (HMZ.out _))))
            refine wpQuiet_nil ?_
            intro _ hw'
            obtain ⟨xq, hw''⟩ := hw'
            subst hw''
            have HBx := Lib.hid (grow_below xq)
            generalize grow xq = w2 at *
            have HB2 := Lib.hid (HB1.out.trans (HBx.out.mono HB1.out.size))
            clear f1 f2 f3 f4 f5 f6 f7 f8 c0 c1' c2' c3 c4 hw1 hw2 hw3 hw4 hw5 hw6 hx1 hx2 hx3 hx4 hx5 hx6
            go_wp2_with fail
            go_roundw
            case rel => exact ⟨k + 1, by omega, by go_num, HB2⟩
            case measure => simp [intOf]; omega
          · have HFF := Lib.hid hf
            clear hf
            refine wp_region_grow (by kernel_rfl) (by kernel_rfl) ?_
            repeat (go_big_quiet_step (first | (go_at_call 26; refine grow_of (HMZ.out _))))
            refine wpQuiet_nil ?_
            intro _ hw'
            obtain ⟨xq, hw''⟩ := hw'
            subst hw''
            have HBx := Lib.hid (grow_below xq)
            generalize grow xq = w2 at *
            have HB2 := Lib.hid (HB1.out.trans (HBx.out.mono HB1.out.size))
            clear f1 f2 f3 f4 f5 f6 f7 f8 c0 c1' c2' c3 c4 hw1 hw2 hw3 hw4 hw5 hw6 hx1 hx2 hx3 hx4 hx5 hx6
            rcases HFF.out with rfl | ⟨rfl, hpar⟩
            · go_wp2_with fail
              go_roundw
              case rel => exact ⟨k + 1, by omega, by go_num, HB2⟩
              case measure => simp [intOf]; omega
            · have hodd : ((K : Int) % 2 == 1) = t := by
                rw [← hpar, HLK.out, show ((K : Int) % 2) = ((K % 2 : Nat) : Int) by omega]
                by_cases hh : K % 2 = 1
                · rw [hh]; rfl
                · rw [decide_eq_false hh, beq_eq_false_iff_ne]; omega
              have hodd2 : ((K : Int).tmod 2 == 1) = t := by rw [Int.tmod_eq_emod_of_nonneg (by omega)]; exact hodd
              clear hpar
              go_wp2_with fail
              go_roundw
              case rel => exact ⟨k + 1, by omega, by go_num, HB2⟩
              case measure => simp [intOf]; omega
        · obtain rfl : k = i := by omega
          go_wp2_with fail
          go_roundw
          case rel => exact ⟨k + 1, by omega, by go_num, HB⟩
          case measure => simp [intOf]; omega
    · obtain rfl : i = N := by omega
      have HWW := Lib.hid (HBW.out.trans (HB.out.mono HBW.out.size))
      have HG := Lib.hid (HGX.out.below HB.out)
      obtain ⟨c0, c1, c2, c3, c4⟩ := HG.out
      go_wp2_with (first
        | (go_at_call 74; refine (HMA.out _ HWW.out).mono ?_; rintro e w1 ⟨hb1, u, E, l, rfl, ho, hcase⟩; have HB1 := Lib.hid (HB.out.trans (hb1.mono HB.out.size)); have HR1 := Lib.hid (Rd.own ho); (obtain ⟨au, cu, rfl⟩ := own_form ho); (obtain ⟨K, hK⟩ : ∃ K, l.length = K := ⟨_, rfl⟩); rw [hK] at HR1 ⊢; have HK := Lib.hid hK; clear hb1 ho hK c0 c1 c2 c3 c4; rcases hcase with rfl | ⟨rfl, hl, hpar⟩; rotate_left; (have hKN : K = i := by rw [← HK.out, hl, moreL, List.length_map, ← HPL.out]); subst hKN; have HL := Lib.hid hl; have HPAR := Lib.hid hpar; clear hl hpar; rotate_left))
      · go_ret
        exact ⟨rfl, HBW.out.trans (HB1.out.mono HBW.out.size)⟩
      · obtain ⟨wo, rfl⟩ : ∃ wo, wo = wr := ⟨_, rfl⟩
        go_loopw [15, 109] (fun p15 p109 wr => ∃ k : Nat, k ≤ K ∧ p15 = .int .i64 (mxL ps k) ∧ p109 = .int .i64 k ∧ Hid (Below w1.heap.size w1 wr)) (fun _ p109 _ => K - (intOf p109).toNat)
        case atStart => exact ⟨0, Nat.zero_le _, rfl, rfl, Lib.hid (Below.refl _ _)⟩
        case round =>
          obtain ⟨k, hk, rfl, rfl, HB2⟩ := hrel
          have HBB := Lib.hid (HB1.out.trans (HB2.out.mono HB1.out.size))
          by_cases hkN : k < K
          · have hkN' : (k : Int) < (K : Int) := by omega
            obtain ⟨vp, p, bs, os, hu, hp, hpm, hpr, rfl, hcu⟩ := HIX.out k hkN
            obtain ⟨ua, uc, rfl⟩ := RdP.form hpr
            have q0 := cell_below (cell_below hcu HBW.out) HBB.out
            have HX : Hid (mxL ps (k + 1) = max (mxL ps k) p.length) := Lib.hid (by
              show max (mxL ps k) (ps.getD k []).length = _
              rw [List.getD_eq_getElem?_getD, hp]; rfl)
            obtain ⟨n, hn⟩ : ∃ n, p.length = n := ⟨_, rfl⟩
            rw [hn] at q0 HX
            obtain ⟨m, hm⟩ : ∃ m, mxL ps k = m := ⟨_, rfl⟩
            rw [hm] at HX ⊢
            clear hu hp hpm hpr hcu hn hm
            go_wp2_with fail
            go_roundw
            case rel => exact ⟨k + 1, by omega, by rw [HX.out]; congr 1; omega, by go_num, HB2⟩
            case measure => simp [intOf]; omega
          · obtain rfl : k = K := by omega
            obtain ⟨M, hM⟩ : ∃ M, mxL ps k = M := ⟨_, rfl⟩
            have HM : Hid (mxL ps ps.length = M) := Lib.hid (by rw [← HPL.out]; exact hM)
            have HM100 := Lib.hid (HMX.out k)
            rw [hM] at HM100 ⊢
            clear hM
            go_wp2_with fail
            obtain ⟨wo2, rfl⟩ : ∃ wo2, wo2 = wr := ⟨_, rfl⟩
            go_loopw [120] (fun p0 wr => ∃ j : Nat, j ≤ k ∧ p0 = .int .i64 j ∧ Hid (Below wo2.heap.size wo2 wr)) (fun p0 _ => k - (intOf p0).toNat)
            case atStart => exact ⟨0, Nat.zero_le _, rfl, Lib.hid (Below.refl _ _)⟩
            case round =>
              obtain ⟨j, hj, rfl, HB3⟩ := hrel
              have HBC := Lib.hid (HBB.out.trans (HB3.out.mono HBB.out.size))
              have HWC := Lib.hid (HBW.out.trans (HBC.out.mono HBW.out.size))
              by_cases hjk : j < k
              · have hjk' : (j : Int) < (k : Int) := by omega
                obtain ⟨vp, p, bs, os, hu, hp, hpm, hpr, rfl, hcu⟩ := HIX.out j hjk
                have q0 := cell_below hcu HWC.out
                obtain ⟨b1, o1, c1', x1, y1, x2, y2, rfl, g1, g2, f1, f2, f3, f4⟩ := HEN.out p vp hpm hpr
                have hnM : p.length ≤ M := by
                  rw [← HM.out]
                  have := mxL_ge ps ps.length j (by rw [← HPL.out]; exact hjk)
                  rw [List.getD_eq_getElem?_getD, hp] at this
                  exact this
                have hpar := HPAR.out p hpm
                rw [HM.out] at hpar
                have hmj : l.getD j 0 = (M : Int) - (p.length : Int) := by
                  rw [HL.out, HM.out, moreL, List.getD_eq_getElem?_getD, List.getElem?_map, hp]; rfl
                obtain ⟨bm, om, cm, em, d0⟩ := num_at HR1.out (i := j) (by rw [HK.out]; exact hjk) hmj
                injection em with em1 em2 em3
                subst em1 em3
                have d0 := cell_below d0 (HB2.out.trans (HB3.out.mono HB2.out.size))
                have HDTP := Lib.hid (HDT.out p _ hpm hpr)
                have hp1 := (checkF_ok (HDF.out p hpm)).2.1
                have HDFP := Lib.hid (fun V u E hd => detour_facts (V := V) (u := u) (E := E) (HDF.out p hpm) ⟨hnM, by have := HM100.out; omega⟩ hpar hd)
                have HFF := Lib.hid (And.intro f1 (And.intro f2 (And.intro f3 f4)))
                rw [g1, g2] at HDFP
                obtain ⟨n, hn⟩ : ∃ n, p.length = n := ⟨_, rfl⟩
                rw [hn] at HDTP HFF d0 hp1 hnM HDFP q0
                have HN := Lib.hid hn
                have hM100 := HM100.out
                obtain ⟨c0, c1, c2, c3, c4⟩ := (HGX.out.below HBC.out)
                clear hu hp hpm hpr hcu g1 g2 f1 f2 f3 f4 hpar hmj em2 hn
                go_wp2_with fail
                go_region_law (first
                  | (go_simp; go_at_call 30; refine (HDTP.out _ _ (by exact HWC.out.drew)).mono ?_; rintro e w3 ⟨⟨u3, E3, rfl, hdq⟩, hb3⟩; have HDQ := Lib.hid (HDFP.out _ _ _ hdq); have HB4 := Lib.hid (HB3.out.trans (((Below.refl wr.heap.size wr).drew.trans hb3).mono HB3.out.size)); clear hdq hb3))
                all_goals (
                  rcases HDQ.out with rfl | ⟨rfl, r, hr, hrl, hr1, hr2⟩
                  · go_wp2_with fail
                    go_roundw
                    case rel => exact ⟨j + 1, by omega, by go_num, HB4⟩
                    case measure => simp [intOf]; omega
                  · have HBD := Lib.hid (HBB.out.trans (HB4.out.mono HBB.out.size))
                    have HWD := Lib.hid (HBW.out.trans (HBD.out.mono HBW.out.size))
                    obtain ⟨br, or', cr, rfl, e1, e2, e3, e4⟩ := route_ends hr (by omega) hr1 hr2
                    rw [hrl] at e3 e4 ⊢
                    have e1 := fun z : Grow w3 => grow_cell e1 z
                    have e2 := fun z : Grow w3 => grow_cell e2 z
                    have e3 := fun z : Grow w3 => grow_cell e3 z
                    have e4 := fun z : Grow w3 => grow_cell e4 z
                    have f1 := fun z : Grow w3 => grow_cell (cell_below HFF.out.1 HWD.out) z
                    have f2 := fun z : Grow w3 => grow_cell (cell_below HFF.out.2.1 HWD.out) z
                    have f3 := fun z : Grow w3 => grow_cell (cell_below HFF.out.2.2.1 HWD.out) z
                    have f4 := fun z : Grow w3 => grow_cell (cell_below HFF.out.2.2.2 HWD.out) z
                    have hw1 : IntKind.i64.wrap ((n : Int) - 1) = (n : Int) - 1 := IntWalk.i64_in _ (by omega)
                    have hw2 : ((n : Int) - 1).toNat = n - 1 := by omega
                    have hw3 : (0 : Int) ≤ (n : Int) - 1 := by omega
                    have hw4 : (n : Int) - 1 < (n : Int) := by omega
                    have hw5 : (0 : Int) < (n : Int) := by omega
                    have hw6 : 0 < n := by omega
                    have hx1 : IntKind.i64.wrap ((M : Int) - 1) = (M : Int) - 1 := IntWalk.i64_in _ (by omega)
                    have hx2 : ((M : Int) - 1).toNat = M - 1 := by omega
                    have hx3 : (0 : Int) ≤ (M : Int) - 1 := by omega
                    have hx4 : (M : Int) - 1 < (M : Int) := by omega
                    have hx5 : (0 : Int) < (M : Int) := by omega
                    have hx6 : 0 < M := by omega
                    have hEQ := fun a b c d W => eqXY a b c d W
                    clear hr hrl hr1 hr2 c0 c1 c2 c3 c4 d0 q0
                    go_wp2_with fail
                    refine wp_region_grow (by kernel_rfl) (by kernel_rfl) ?_
                    repeat (go_big_quiet_step (fail))
                    refine wpQuiet_nil ?_
                    intro _ hw'
                    obtain ⟨xq, hw''⟩ := hw'
                    subst hw''
                    have HBx := Lib.hid (grow_below xq)
                    generalize grow xq = w4 at *
                    have HB5 := Lib.hid (HB4.out.trans (HBx.out.mono HB4.out.size))
                    clear e1 e2 e3 e4 f1 f2 f3 f4
                    go_wp2_with fail
                    go_roundw
                    case rel => exact ⟨j + 1, by omega, by go_num, HB5⟩
                    case measure => simp [intOf]; omega)
              · obtain rfl : j = k := by omega
                go_wp2_with fail
                go_ret
                exact ⟨rfl, HWC.out⟩
end Go.Proofs.Ytpakkjkjppibnaa

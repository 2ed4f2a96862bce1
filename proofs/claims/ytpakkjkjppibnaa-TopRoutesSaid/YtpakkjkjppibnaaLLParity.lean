/- Layout: the law LayoutParity, walked.
   Layout: the law LayoutParity, walked. -/
import Derived.Test.YtpakkjkjppibnaaKTog
import Derived.Test.YtpakkjkjppibnaaGMust2
import Derived.ChangeKeysEq
namespace Go.Proofs.Ytpakkjkjppibnaa
open Go.RowKit

theorem eq3s (a b c : Int) (W : World) : (Op.equalIn 10000 58 (.agg #[.int .i64 a, .int .i64 b, .int .i64 c]) (.agg #[.int .i64 a, .int .i64 b, .int .i64 c])).run Try.prog W = .ok true W := by
  obtain ⟨i, hi, _, hs, _⟩ := el_num.info
  have hc : Try.prog.cellsOf 3 = 1 := by kernel_rfl
  rw [run_equalIn_array W 9999 _ _ Try.underlying58 hi, hc]
  have hu := Try.underlying3
  simp [Op.eqItems, List.range, List.range.loop, part, isAgg, run_underlying hu, run_equalIn_int _ _ _ _ _ _ _ hu]
theorem RdPP.two (W : World) {vp vq : Value} {p q : List Ce} (hp : RdP W vp p) (hq : RdP W vq q) (t : TypeId) : RdPP (W.alloc (.cells #[vp, vq] t)) (.slice (some ⟨W.heap.size, 0, none⟩) 2 2) [p, q] := by
  have hb : Below W.heap.size W (W.alloc (.cells #[vp, vq] t)) := (Below.refl _ _).alloc (Nat.le_refl _) _
  refine ⟨[vp, vq], Rd.own (B := W.heap.size) (own_lit W W.heap.size t #[vp, vq] 2 (Nat.le_refl _) rfl (by decide)), rfl, fun i u r hu hr => ?_⟩
  match i with
  | 0 => simp at hu hr; subst hu hr; exact hp.below hb
  | 1 => simp at hu hr; subst hu hr; exact hq.below hb
  | i + 2 => simp at hu
theorem vis_path (n : Nat) (D : List Int) (i : Nat) : (visOf n D i).1 = n := by unfold visOf; split <;> rfl
theorem two_01 {w h mv bd : Int} {bl p q : List Ce} : ∀ E L, TogE (chkF w h mv bd bl [p, q]) (visA [p, q] [p, q].length) E L → ∀ x ∈ L, x.2.2 = (0, 1) := fun E L ht x hx => by
  rcases ht with ⟨_, _, rfl⟩ | ⟨_, _, rfl, _⟩ | ⟨hC, _, hok⟩
  · cases hx
  · cases hx
  · obtain ⟨_, _, hall⟩ := chkF_ok hC
    have hp := (checkF_ok (hall p (by simp))).2.2.2.2.1
    have hq := (checkF_ok (hall q (by simp))).2.2.2.2.1
    obtain ⟨u, v, hG, e1, e2⟩ := hok.all x hx
    change visA [p, q] 2 (cellX x) = [u, v] at hG
    rw [visA_two hp hq] at hG
    have e3 : u.1 = 0 ∧ v.1 = 1 := by
      by_cases h1 : cellX x ∈ p <;> by_cases h2 : cellX x ∈ q <;> simp [h1, h2] at hG
      rw [← hG.1, ← hG.2, vis_path, vis_path]
      exact ⟨rfl, rfl⟩
    exact Prod.ext (e1.trans e3.1) (e2.trans e3.2)
theorem tog_cases {C : Int} {G : Ce → List Vis} {E : Int} {L : List Cx} (h : TogE C G E L) : (E ≠ 0 ∧ L = []) ∨ (E = 0 ∧ C = 0 ∧ CrossOK G L) := by
  rcases h with ⟨h1, rfl, h2⟩ | ⟨_, rfl, h2, _⟩ | ⟨h1, rfl, h2⟩
  · exact .inl ⟨h1, h2⟩
  · exact .inl ⟨by decide, h2⟩
  · exact .inr ⟨rfl, h1, h2⟩
theorem cross_same {G : Ce → List Vis} {L L' : List Cx} (h : CrossOK G L) (h' : CrossOK G L') : L'.length = L.length := by
  have h1 := len_le_sub (L'.map cellX) (L.map cellX) h'.nd fun c hc => (h.mem c).2 ((h'.mem c).1 hc)
  have h2 := len_le_sub (L.map cellX) (L'.map cellX) h.nd fun c hc => (h'.mem c).2 ((h.mem c).1 hc)
  simp only [List.length_map] at h1 h2
  omega
theorem tog_again {C : Int} {G : Ce → List Vis} {E : Int} {L L' : List Cx} (hC : C = 0) (h : CrossOK G L) (h' : TogE C G E L') : E = 0 ∧ L'.length = L.length := by
  rcases h' with ⟨h1, _⟩ | ⟨_, _, _, c, hc⟩ | ⟨_, h1, h2⟩
  · exact absurd hC h1
  · rw [h.ok c] at hc; cases hc
  · exact ⟨h1, cross_same h h2⟩

set_option maxRecDepth 100000 in
set_option maxHeartbeats 2000000 in
theorem parity_long (w h mv bd : Int) (bv : Value) (bl p q : List Ce) (vp vq : Value) (W : World) (hv : RdP W bv bl) (hp : RdP W vp p) (hq : RdP W vq q) (hl : ¬ (p.length ≤ 300 ∧ q.length ≤ 300)) :
    Calls Try.prog 10 #[.agg #[.int .i64 w, .int .i64 h, .int .i64 mv, .int .i64 bd, bv], vp, vq] W fun e w' => e = .returned (.bool true) ∧ Below W.heap.size W w' := by
  have HBW := Lib.hid ((Below.refl W.heap.size W).alloc (Nat.le_refl _) (.cells #[.int .i64 w, .int .i64 h, .int .i64 mv, .int .i64 bd, bv] 24))
  have HAW := Lib.hid (fun V => awake_any V)
  obtain ⟨a, cap, rfl⟩ := RdP.form hv
  obtain ⟨ap, cp, rfl⟩ := RdP.form hp
  obtain ⟨aq, cq, rfl⟩ := RdP.form hq
  obtain ⟨n, hn⟩ : ∃ n, p.length = n := ⟨_, rfl⟩
  obtain ⟨m, hm⟩ : ∃ m, q.length = m := ⟨_, rfl⟩
  rw [hn, hm] at hl ⊢
  clear hv hp hq hn hm
  by_cases h1 : n ≤ 300
  · have g1 : decide ((300 : Int) < (n : Int)) = false := decide_eq_false (by omega)
    have g2 : decide ((300 : Int) < (m : Int)) = true := decide_eq_true (by omega)
    clear hl h1
    go_enter Try.func10, Try.ntmps10
    go_wp2_with (go_at_call 13; refine (HAW.out _).mono ?_; rintro e w3 ⟨rfl, hb3⟩)
    go_ret
    exact ⟨rfl, HBW.out.trans (hb3.mono HBW.out.size)⟩
  · have g1 : decide ((300 : Int) < (n : Int)) = true := decide_eq_true (by omega)
    clear hl h1
    go_enter Try.func10, Try.ntmps10
    go_wp2_with (go_at_call 13; refine (HAW.out _).mono ?_; rintro e w3 ⟨rfl, hb3⟩)
    go_ret
    exact ⟨rfl, HBW.out.trans (hb3.mono HBW.out.size)⟩

/-- the ends of a path, where they lie -/
theorem path_ends {W : World} {v : Value} {p : List Ce} (hp : RdP W v p) (h1 : 1 ≤ p.length) : ∃ b o c x1 y1 x2 y2, v = .slice (some ⟨b, o, none⟩) p.length c ∧ p.getD 0 (0, 0) = (x1, y1) ∧ p.getD (p.length - 1) (0, 0) = (x2, y2) ∧
    W.cell? ⟨b, o, none⟩ = some (.int .i64 x1) ∧ W.cell? ⟨b, o + 1, none⟩ = some (.int .i64 y1) ∧ W.cell? ⟨b, o + (p.length - 1) * 2, none⟩ = some (.int .i64 x2) ∧ W.cell? ⟨b, o + (p.length - 1) * 2 + 1, none⟩ = some (.int .i64 y2) := by
  obtain ⟨ap, cp, rfl, hcp, _, hap, _⟩ := hp
  obtain ⟨⟨x1, y1⟩, hfr⟩ : ∃ c, p.getD 0 (0, 0) = c := ⟨_, rfl⟩
  obtain ⟨⟨x2, y2⟩, hto⟩ : ∃ c, p.getD (p.length - 1) (0, 0) = c := ⟨_, rfl⟩
  have e0 := (RdP.cell hap (j := 0) (x := (x1, y1)) (by rw [← hfr, List.getD_eq_getElem?_getD, List.getElem?_eq_getElem (by omega)]; rfl))
  have e9 := (RdP.cell hap (j := p.length - 1) (x := (x2, y2)) (by rw [← hto, List.getD_eq_getElem?_getD, List.getElem?_eq_getElem (by omega)]; rfl))
  obtain ⟨bp, off, rfl, f1, f2⟩ := e0
  obtain ⟨bp', off', ee, f3, f4⟩ := e9
  obtain ⟨rfl, rfl⟩ : bp = bp' ∧ off = off' := by simpa using ee
  simp only [Nat.zero_mul, Nat.add_zero] at f1 f2
  exact ⟨bp, off, cp, x1, y1, x2, y2, rfl, hfr, hto, f1, f2, f3, f4⟩

/-- what two paths that go together answer -/
theorem must_facts {w h : Nat} {mv bd : Int} {bl p q : List Ce} (hC : chkF w h mv bd bl [p, q] = 0) {L : List Cx} (hok : CrossOK (visA [p, q] [p, q].length) L) {t : Bool} {f : Int}
    (hm : mustF w h (p.getD 0 (0, 0)) (p.getD (p.length - 1) (0, 0)) (q.getD 0 (0, 0)) (q.getD (q.length - 1) (0, 0)) = (t, f)) : f = 2 ∨ f = 0 ∧ decide (L.length % 2 = 1) = t := by
  obtain ⟨hv, _, hall⟩ := chkF_ok hC
  have hp := checkF_ok (hall p (by simp))
  have hq := checkF_ok (hall q (by simp))
  have hr := ((validP_iff _ _ _ _ _).1 hv).1
  have PP : Path (refOpenP w h bl) p := ⟨hp.2.1, hp.2.2.2.1, hp.2.2.2.2.1, hp.2.2.2.2.2⟩
  have PQ : Path (refOpenP w h bl) q := ⟨hq.2.1, hq.2.2.2.1, hq.2.2.2.2.1, hq.2.2.2.2.2⟩
  have hon : ∀ c, c ∈ p ∨ c ∈ q → onP w h c = true := fun c hc => by
    have h1 : refOpenP w h bl c = true := by
      rcases hc with hc | hc
      · exact List.all_eq_true.1 PP.all c hc
      · exact List.all_eq_true.1 PQ.all c hc
    unfold refOpenP at h1
    simp only [Bool.and_eq_true] at h1
    exact h1.2
  have hall4 : [p.getD 0 (0, 0), p.getD (p.length - 1) (0, 0), q.getD 0 (0, 0), q.getD (q.length - 1) (0, 0)].all (onP w h) = true := by
    have h1 := PP.pos
    have h2 := PQ.pos
    simp only [List.all_cons, List.all_nil, Bool.and_true, Bool.and_eq_true]
    exact ⟨hon _ (.inl (getD_memC (by omega))), hon _ (.inl (getD_memC (by omega))), hon _ (.inr (getD_memC (by omega))), hon _ (.inr (getD_memC (by omega)))⟩
  by_cases hf : f = 0
  · subst hf
    refine .inr ⟨rfl, ?_⟩
    have := parity_law (w := w) (h := h) (by omega) (by omega) PP PQ hok.ok hm hok.nd hok.mem
    rwa [List.length_map] at this
  · refine .inl ?_
    unfold mustF at hm
    rw [if_pos hall4] at hm
    split at hm
    · have := congrArg Prod.snd hm
      exact absurd this.symm hf
    · have := congrArg Prod.snd hm
      exact this.symm
end Go.Proofs.Ytpakkjkjppibnaa

namespace Go.Proofs.Ytpakkjkjppibnaa
open Go.RowKit

theorem valid_of_chk {w h mv bd : Int} {bl : List Ce} {ps : List (List Ce)} (hC : chkF w h mv bd bl ps = 0) : validP w h mv bd bl = true := (chkF_ok hC).1

set_option maxRecDepth 100000 in
set_option maxHeartbeats 4000000 in
theorem parity_run (w h mv bd : Int) (bv : Value) (bl p q : List Ce) (vp vq : Value) (W : World) (hv : RdP W bv bl) (hp : RdP W vp p) (hq : RdP W vq q) (hwp : WfL p) (hwq : WfL q) (hl1 : p.length ≤ 300) (hl2 : q.length ≤ 300) :
    Calls Try.prog 10 #[.agg #[.int .i64 w, .int .i64 h, .int .i64 mv, .int .i64 bd, bv], vp, vq] W fun e w' => e = .returned (.bool true) ∧ Below W.heap.size W w' := by
  have HBW := Lib.hid ((Below.refl W.heap.size W).alloc (Nat.le_refl _) (.cells #[.int .i64 w, .int .i64 h, .int .i64 mv, .int .i64 bd, bv] 24))
  have HGX := Lib.hid (GBx.new1 W w h mv bd bv 24)
  have HAW := Lib.hid (fun V => awake_any V)
  have hww : ∀ r ∈ [p, q], WfL r := fun r hr => by
    simp at hr
    rcases hr with rfl | rfl
    · exact hwp
    · exact hwq
  have HTG := Lib.hid (fun u V (hV : Below W.heap.size W V) (hr : RdPP V u [p, q]) => Together_any w h mv bd bv bl [p, q] u V (hv.below hV) hr hww)
  have HCR := Lib.hid (fun u V (hV : Below W.heap.size W V) (hr : RdPP V u [p, q]) => Crossed_any w h mv bd bv bl [p, q] u V (hv.below hV) hr hww two_01)
  have HTW := Lib.hid (fun V (hV : Below W.heap.size W V) t (B : Nat) (hB : B = V.heap.size) => (show RdPP (V.alloc (.cells #[vp, vq] t)) (.slice (some ⟨B, 0, none⟩) 2 2) [p, q] from by subst hB; exact RdPP.two V (hp.below hV) (hq.below hV) t))
  have HRUN : Hid (chkF w h mv bd bl [p, q] = 0 → ∀ L, CrossOK (visA [p, q] [p, q].length) L → ∃ (n m : Nat) (b1 o1 c1 b2 o2 c2 : Nat) (x1 y1 x2 y2 x3 y3 x4 y4 : Int) (t : Bool) (f : Int), vp = .slice (some ⟨b1, o1, none⟩) n c1 ∧ vq = .slice (some ⟨b2, o2, none⟩) m c2 ∧ 1 ≤ n ∧ n ≤ 300 ∧ 1 ≤ m ∧ m ≤ 300 ∧
      (f = 2 ∨ f = 0 ∧ decide (L.length % 2 = 1) = t) ∧ (∀ V, Below W.heap.size W V → Calls Try.prog 26 #[.agg #[.int .i64 w, .int .i64 h, .int .i64 mv, .int .i64 bd, bv], .agg #[.int .i64 x1, .int .i64 y1], .agg #[.int .i64 x2, .int .i64 y2], .agg #[.int .i64 x3, .int .i64 y3], .agg #[.int .i64 x4, .int .i64 y4]] V fun e w' => e = .returned (.tuple #[.bool t, .int .i64 f]) ∧ Below V.heap.size V w') ∧
      W.cell? ⟨b1, o1, none⟩ = some (.int .i64 x1) ∧ W.cell? ⟨b1, o1 + 1, none⟩ = some (.int .i64 y1) ∧ W.cell? ⟨b1, o1 + (n - 1) * 2, none⟩ = some (.int .i64 x2) ∧ W.cell? ⟨b1, o1 + (n - 1) * 2 + 1, none⟩ = some (.int .i64 y2) ∧
      W.cell? ⟨b2, o2, none⟩ = some (.int .i64 x3) ∧ W.cell? ⟨b2, o2 + 1, none⟩ = some (.int .i64 y3) ∧ W.cell? ⟨b2, o2 + (m - 1) * 2, none⟩ = some (.int .i64 x4) ∧ W.cell? ⟨b2, o2 + (m - 1) * 2 + 1, none⟩ = some (.int .i64 y4)) := Lib.hid (fun hC L hok => by
    obtain ⟨_, _, hall⟩ := chkF_ok hC
    have np := (checkF_ok (hall p (by simp))).2.1
    have nq := (checkF_ok (hall q (by simp))).2.1
    obtain ⟨b1, o1, c1, x1, y1, x2, y2, e1, g1, g2, f1, f2, f3, f4⟩ := path_ends hp np
    obtain ⟨b2, o2, c2, x3, y3, x4, y4, e2, g3, g4, f5, f6, f7, f8⟩ := path_ends hq nq
    obtain ⟨gw, gh, rfl, rfl⟩ := valid_nat (valid_of_chk hC)
    obtain ⟨⟨t, f⟩, hm⟩ : ∃ r, mustF gw gh (p.getD 0 (0, 0)) (p.getD (p.length - 1) (0, 0)) (q.getD 0 (0, 0)) (q.getD (q.length - 1) (0, 0)) = r := ⟨_, rfl⟩
    have hmf := must_facts hC hok hm
    rw [g1, g2, g3, g4] at hm
    refine ⟨p.length, q.length, b1, o1, c1, b2, o2, c2, x1, y1, x2, y2, x3, y3, x4, y4, t, f, e1, e2, np, hl1, nq, hl2, hmf, fun V hV => ?_, f1, f2, f3, f4, f5, f6, f7, f8⟩
    have := Must_ok gw gh mv bd bv bl (x1, y1) (x2, y2) (x3, y3) (x4, y4) V (hv.below hV) (valid_of_chk hC)
    rw [hm] at this
    exact this)
  have HFV : Hid (∃ (an : Option Addr) (nn cn : Nat) (aq : Option Addr) (nq cq : Nat), nn ≤ 300 ∧ nq ≤ 300 ∧ vp = .slice an nn cn ∧ vq = .slice aq nq cq) := Lib.hid (by
    obtain ⟨ap, cp, e1⟩ := RdP.form hp
    obtain ⟨aq, cq, e2⟩ := RdP.form hq
    exact ⟨ap, p.length, cp, aq, q.length, cq, hl1, hl2, e1, e2⟩)
  obtain ⟨a, cap, rfl⟩ := RdP.form hv
  generalize visA [p, q] [p, q].length = G at *
  generalize chkF w h mv bd bl [p, q] = C at *
  generalize [p, q] = ps at *
  obtain ⟨an, nn, cn, aq, nq, cq, hn3, hq3, rfl, rfl⟩ := HFV.out
  have g1 : decide ((300 : Int) < (nn : Int)) = false := decide_eq_false (by omega)
  have g2 : decide ((300 : Int) < (nq : Int)) = false := decide_eq_false (by omega)
  clear hv hp hq hwp hwq hl1 hl2 hww HFV
  obtain ⟨c0, c1, c2, c3, c4⟩ := HGX.out
  go_enter Try.func10, Try.ntmps10
  go_wp2_with (first
    | (go_at_call 32; refine (HTG.out _ _ (by exact HBW.out.alloc HBW.out.size _) (by exact HTW.out _ HBW.out _ _ (by simp))).mono ?_; rintro e w1 ⟨hb1, u, E, L, hte, hL, rfl, hrd⟩; have HB1 := Lib.hid ((HBW.out.alloc HBW.out.size (.cells #[.slice an nn cn, .slice aq nq cq] 22)).trans (hb1.mono (HBW.out.alloc HBW.out.size _).size)); have HG1 := Lib.hid ((HGX.out.below (bel1 _ _)).below hb1); have HRD := Lib.hid hrd; clear hb1 hL hrd c0 c1 c2 c3 c4; rcases tog_cases hte with ⟨hE, rfl⟩ | ⟨rfl, hC, hok⟩; (obtain ⟨au, cu, rfl⟩ := RdP.form HRD.out); (have hEb : (E != 0) = true := by simpa using hE); clear hE hte; (simp only [List.map_nil, List.length_nil]); rotate_left;
        (obtain ⟨n, m, b1, o1, k1, b2, o2, k2, x1, y1, x2, y2, x3, y3, x4, y4, t, f, ep, eq, hn1, _, hm1, _, hf, hmu, f1, f2, f3, f4, f5, f6, f7, f8⟩ := HRUN.out hC L hok); (injection ep with ep1 ep2 ep3); (injection eq with eq1 eq2 eq3); subst ep1 ep2 ep3 eq1 eq2 eq3; (obtain ⟨au, cu, rfl⟩ := RdP.form HRD.out); (obtain ⟨N, hN⟩ : ∃ N, (L.map cellX).length = N := ⟨_, rfl⟩); rw [hN]; have HN := Lib.hid hN; have HC := Lib.hid hC; have HOK := Lib.hid hok; have HFF := Lib.hid hf; have HMU := Lib.hid hmu; have HTE := Lib.hid hte;
        (have f1 := fun z : Grow w1 => grow_cell (cell_below f1 HB1.out) z); (have f2 := fun z : Grow w1 => grow_cell (cell_below f2 HB1.out) z); (have f3 := fun z : Grow w1 => grow_cell (cell_below f3 HB1.out) z); (have f4 := fun z : Grow w1 => grow_cell (cell_below f4 HB1.out) z); (have f5 := fun z : Grow w1 => grow_cell (cell_below f5 HB1.out) z); (have f6 := fun z : Grow w1 => grow_cell (cell_below f6 HB1.out) z); (have f7 := fun z : Grow w1 => grow_cell (cell_below f7 HB1.out) z); (have f8 := fun z : Grow w1 => grow_cell (cell_below f8 HB1.out) z);
        (have n0 : ((nn : Int) == 0) = false := by rw [Bool.eq_false_iff]; intro hh; simp at hh; omega); (have m0 : ((nq : Int) == 0) = false := by rw [Bool.eq_false_iff]; intro hh; simp at hh; omega); (obtain ⟨c0, c1, c2, c3, c4⟩ := HG1.out); clear hN hC hok hf hmu hte; rotate_left)
    | (go_at_call 13; refine (HAW.out _).mono ?_; rintro e w3 ⟨rfl, hb3⟩))
  · go_ret
    exact ⟨rfl, HB1.out.trans (hb3.mono HB1.out.size)⟩
  · have HCC := Lib.hid (And.intro c0 (And.intro c1 (And.intro c2 (And.intro c3 c4))))
    have c0 := fun z : Grow w1 => grow_cell HCC.out.1 z
    have c1 := fun z : Grow w1 => grow_cell HCC.out.2.1 z
    have c2 := fun z : Grow w1 => grow_cell HCC.out.2.2.1 z
    have c3 := fun z : Grow w1 => grow_cell HCC.out.2.2.2.1 z
    have c4 := fun z : Grow w1 => grow_cell HCC.out.2.2.2.2 z
    have HMZ := Lib.hid (fun z : Grow w1 => HMU.out (grow z) (HB1.out.trans ((grow_below z).mono HB1.out.size)))
    have hw1 : IntKind.i64.wrap ((nn : Int) - 1) = (nn : Int) - 1 := IntWalk.i64_in _ (by omega)
    have hw2 : ((nn : Int) - 1).toNat = nn - 1 := by omega
    have hw3 : (0 : Int) ≤ (nn : Int) - 1 := by omega
    have hw4 : (nn : Int) - 1 < (nn : Int) := by omega
    have hw5 : (0 : Int) < (nn : Int) := by omega
    have hw6 : 0 < nn := by omega
    have hx1 : IntKind.i64.wrap ((nq : Int) - 1) = (nq : Int) - 1 := IntWalk.i64_in _ (by omega)
    have hx2 : ((nq : Int) - 1).toNat = nq - 1 := by omega
    have hx3 : (0 : Int) ≤ (nq : Int) - 1 := by omega
    have hx4 : (nq : Int) - 1 < (nq : Int) := by omega
    have hx5 : (0 : Int) < (nq : Int) := by omega
    have hx6 : 0 < nq := by omega
    refine wp_region_grow (by kernel_rfl) (by kernel_rfl) ?_
    repeat (go_big_quiet_step (first | (go_at_call 26; refine grow_of (HMZ.out _))))
    refine wpQuiet_nil ?_
    intro _ hw'
    obtain ⟨xq, hw''⟩ := hw'
    subst hw''
    have HBx := Lib.hid (grow_below xq)
    generalize grow xq = w2 at *
    have HB2 := Lib.hid (HB1.out.trans (HBx.out.mono HB1.out.size))
    have HG2 := Lib.hid (HG1.out.below HBx.out)
    clear f1 f2 f3 f4 f5 f6 f7 f8 c0 c1 c2 c3 c4 hw1 hw2 hw3 hw4 hw5 hw6 hx1 hx2 hx3 hx4 hx5 hx6
    obtain ⟨c0, c1, c2, c3, c4⟩ := HG2.out
    rcases HFF.out with rfl | ⟨rfl, hpar⟩
    · go_wp2_with (go_at_call 13; refine (HAW.out _).mono ?_; rintro e w3 ⟨rfl, hb3⟩)
      go_ret
      exact ⟨rfl, HB2.out.trans (hb3.mono HB2.out.size)⟩
    · have hLN : L.length = N := by rw [← HN.out, List.length_map]
      have hodd : ((N : Int).tmod 2 == 1) = t := by
        rw [← hpar, hLN, Int.tmod_eq_emod_of_nonneg (by omega), show ((N : Int) % 2) = ((N % 2 : Nat) : Int) by omega]
        by_cases hh : N % 2 = 1
        · rw [hh]; rfl
        · rw [decide_eq_false hh, beq_eq_false_iff_ne]; omega
      have HLN := Lib.hid hLN
      have hEQ3 := fun a b c W => eq3s a b c W
      clear hpar hLN
      by_cases hN0 : N = 0
      · subst hN0
        obtain rfl : t = false := by rw [← hodd]; rfl
        clear hodd
        go_wp2_with (first
          | (go_at_call 33; refine (HCR.out _ _ (by exact HB2.out.alloc HB2.out.size _) (by exact HTW.out _ HB2.out _ _ rfl)).mono ?_; rintro e w3 ⟨hb3, u3, E3, L3, hte3, rfl, hown⟩; obtain ⟨rfl, hlen⟩ := tog_again HC.out HOK.out hte3; rw [hlen, HLN.out] at hown; obtain ⟨a3, k3, rfl⟩ := own_form hown; (simp only [show (cntM 0).length = 0 from rfl]); have HB3 := Lib.hid ((HB2.out.alloc HB2.out.size (.cells #[.slice (some ⟨b1, o1, none⟩) nn cn, .slice (some ⟨b2, o2, none⟩) nq cq] 22)).trans (hb3.mono (HB2.out.alloc HB2.out.size _).size)); clear hb3 hte3 hown hlen c0 c1 c2 c3 c4)
          | (go_at_call 13; refine (HAW.out _).mono ?_; rintro e w4 ⟨rfl, hb4⟩))
        go_ret
        exact ⟨rfl, HB3.out.trans (hb4.mono HB3.out.size)⟩
      · have hNp : decide ((0 : Int) < (N : Int)) = true := decide_eq_true (by omega)
        have HN0 := Lib.hid hN0
        clear hN0
        go_wp2_with (first
          | (go_at_call 33; (refine (HCR.out _ _ (by exact HB2.out.alloc HB2.out.size _) (by exact HTW.out _ HB2.out _ _ rfl)).mono ?_; rintro e w3 ⟨hb3, u3, E3, L3, hte3, rfl, hown⟩; obtain ⟨rfl, hlen⟩ := tog_again HC.out HOK.out hte3; rw [hlen, HLN.out, show cntM N = [(0, 1, (N : Int))] by (unfold cntM; rw [if_neg HN0.out])] at hown; obtain ⟨g3, k3, rfl, _, _⟩ := own_some hown (by simp); (have d0 : w3.cell? ⟨g3, 0, none⟩ = some (.int .i64 0) := hown.cellAt 0 (by simp)); (have d1 : w3.cell? ⟨g3, 1, none⟩ = some (.int .i64 1) := hown.cellAt 1 (by simp)); (have d2 : w3.cell? ⟨g3, 2, none⟩ = some (.int .i64 N) := hown.cellAt 2 (by simp)); (simp only [List.length_cons, List.length_nil, Nat.zero_add]); have HB3 := Lib.hid ((HB2.out.alloc HB2.out.size (.cells #[.slice (some ⟨b1, o1, none⟩) nn cn, .slice (some ⟨b2, o2, none⟩) nq cq] 22)).trans (hb3.mono (HB2.out.alloc HB2.out.size _).size)); clear hb3 hte3 hown hlen c0 c1 c2 c3 c4))
          | (go_at_call 13; refine (HAW.out _).mono ?_; rintro e w4 ⟨rfl, hb4⟩))
        go_ret
        exact ⟨rfl, HB3.out.trans (hb4.mono HB3.out.size)⟩

theorem law_parity (w h mv bd : Int) (bv : Value) (bl : List Ce) (vp : Value) (p : List Ce) (vq : Value) (q : List Ce) (W : World) (hv : RdP W bv bl) (hp : RdP W vp p) (hwp : WfL p) (hq : RdP W vq q) (hwq : WfL q) :
    Calls Try.prog 10 #[.agg #[.int .i64 w, .int .i64 h, .int .i64 mv, .int .i64 bd, bv], vp, vq] W fun e w' => e = .returned (.bool true) ∧ Below W.heap.size W w' := by
  by_cases hl : p.length ≤ 300 ∧ q.length ≤ 300
  · exact parity_run w h mv bd bv bl p q vp vq W hv hp hq hwp hwq hl.1 hl.2
  · exact parity_long w h mv bd bv bl p q vp vq W hv hp hq hl
end Go.Proofs.Ytpakkjkjppibnaa

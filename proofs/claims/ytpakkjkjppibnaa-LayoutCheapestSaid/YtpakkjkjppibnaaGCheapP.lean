/- Layout: what LayoutCheapest says of a path that is right: plain. -/
import Derived.Test.YtpakkjkjppibnaaKCheck
import Derived.Test.YtpakkjkjppibnaaGRoutes
namespace Go.Proofs.Ytpakkjkjppibnaa
open Go.RowKit

theorem costF_eq {w h : Nat} {mv bd : Int} {bl p : List Ce} (hc : checkF w h mv bd bl p = 0) : costF w h mv bd bl p = (((p.length - 1 : Nat) : Int), (bendsL (dirsL p) : Int), costP (grK w h mv bd bl bl.length) p, 0) := by
  unfold costF costP costD
  rw [if_pos hc, dirsL_len]
  rfl
theorem route_ok {w h : Nat} {mv bd : Int} {bl : List Ce} (hb : validP w h mv bd bl = true) {fr tz : Ce} (h1 : refOpenP w h bl fr = true) (h2 : refOpenP w h bl tz = true) {n : Int} {d0 : Nat} {r : List Ce} (hf : Fst (grK w h mv bd bl bl.length) tz fr n d0 r) :
    checkF w h mv bd bl (fr :: besideP fr d0 :: r) = 0 ∧ (costF w h mv bd bl (fr :: besideP fr d0 :: r)).2.2 = (n, 0) := by
  have hg := grK_ok hb bl.length
  have ht := (open_eq hb tz).trans h2
  have ho := (open_eq hb fr).trans h1
  have hnd := fst_nodup hg ht ho hf
  have hop := fst_open hg ho hf
  have hlen := cells_few hg hnd hop
  have h900 := hg.cells.2
  obtain ⟨q1, q2, q3⟩ := fst_path hg ht hf
  have hc : checkF w h mv bd bl (fr :: besideP fr d0 :: r) = 0 := by
    unfold checkF checkC
    rw [hb, if_pos rfl, if_pos ⟨by simp, by omega⟩, if_pos ⟨q1, hnd⟩, if_pos]
    exact List.all_eq_true.2 fun x hx => (open_eq hb x).symm.trans (hop x hx)
  exact ⟨hc, by rw [costF_eq hc, q3]⟩
theorem one_ok {w h : Nat} {mv bd : Int} {bl : List Ce} (hb : validP w h mv bd bl = true) {fr : Ce} (h1 : refOpenP w h bl fr = true) : checkF w h mv bd bl [fr] = 0 ∧ (costF w h mv bd bl [fr]).2.2 = (0, 0) := by
  have hc : checkF w h mv bd bl [fr] = 0 := by
    unfold checkF checkC
    rw [hb, if_pos rfl, if_pos ⟨by simp, by simp⟩, if_pos ⟨rfl, by simp⟩, if_pos]
    simp [h1]
  refine ⟨hc, ?_⟩
  unfold costF
  rw [if_pos hc]
  simp [dirsL, bendsL]
theorem farF_eq {w h : Nat} {mv bd : Int} {bl : List Ce} {tz : Ce} (hb : validP w h mv bd bl = true) (ho : refOpenP w h bl tz = true) : farF w h mv bd bl tz = (farP (grK w h mv bd bl bl.length) tz, 0) := by
  unfold farF
  rw [hb, if_pos rfl, ho, if_pos rfl]
  rfl
theorem farP_atC {g : Gr} {tz : Ce} {i : Nat} (hi : i < g.w * g.h) : (farP g tz).getD i 0 = farCell g (fieldP g tz) tz i := by
  unfold farP farL
  rw [List.getD_eq_getElem?_getD, List.getElem?_map, List.getElem?_range hi]; rfl
theorem farP_lenC (g : Gr) (tz : Ce) : (farP g tz).length = g.w * g.h := by unfold farP farL; simp
theorem open_wf {w h : Nat} {mv bd : Int} {bl : List Ce} (hb : validP w h mv bd bl = true) {x : Ce} (hx : refOpenP w h bl x = true) : 0 ≤ x.1 ∧ x.1 ≤ w - 1 ∧ 0 ≤ x.2 ∧ x.2 ≤ h - 1 ∧ (Lit.int .i64 x.1).wf = true ∧ (Lit.int .i64 x.2).wf = true := by
  have hn := ((validP_iff _ _ _ _ _).1 hb).1
  unfold refOpenP onP at hx
  simp only [Bool.and_eq_true, decide_eq_true_eq] at hx
  obtain ⟨_, ⟨a, b⟩, c, d⟩ := hx
  refine ⟨a, b, c, d, ?_, ?_⟩ <;> (simp [Lit.wf, IntKind.min, IntKind.max, IntKind.signed, IntKind.bits]; omega)
theorem getD0 {c : Ce} {r : List Ce} : (c :: r).getD 0 (0, 0) = c := rfl
theorem getDlast {c : Ce} {r : List Ce} : (c :: r).getD ((c :: r).length - 1) (0, 0) = (c :: r).getLast (List.cons_ne_nil _ _) := by
  rw [List.getLast_eq_getElem, List.getD_eq_getElem?_getD, List.getElem?_eq_getElem (by simp)]; rfl

structure Cheap (w h : Nat) (mv bd : Int) (bl p q : List Ce) (n : Int) : Prop where
  rt : RtIs w h mv bd bl (p.getD 0 (0, 0)) (p.getD (p.length - 1) (0, 0)) q n 0
  le : n ≤ (costF w h mv bd bl p).2.2.1
  q1 : 1 ≤ q.length
  q9 : q.length ≤ 1000
  fst : q.getD 0 (0, 0) = p.getD 0 (0, 0)
  lst : q.getD (q.length - 1) (0, 0) = p.getD (p.length - 1) (0, 0)
  wf : WfL q
  cost : (costF w h mv bd bl q).2.2 = (n, 0)
  of : refOpenP w h bl (p.getD 0 (0, 0)) = true
  ot : refOpenP w h bl (p.getD (p.length - 1) (0, 0)) = true
  far : (farP (grK w h mv bd bl bl.length) (p.getD (p.length - 1) (0, 0))).getD (indexP (grK w h mv bd bl bl.length) (p.getD 0 (0, 0))).toNat 0 = n
  back : (farP (grK w h mv bd bl bl.length) (p.getD 0 (0, 0))).getD (indexP (grK w h mv bd bl bl.length) (p.getD (p.length - 1) (0, 0))).toNat 0 = n
theorem cheap_all {w h : Nat} {mv bd : Int} {bl p : List Ce} (hc : checkF w h mv bd bl p = 0) : ∃ q n, Cheap w h mv bd bl p q n := by
  obtain ⟨hb, h1, h2, h3, h4, h5⟩ := checkF_ok hc
  have hg := grK_ok hb bl.length
  have hop : ∀ x ∈ p, refOpenP w h bl x = true := fun x hx => List.all_eq_true.1 h5 x hx
  have hidx : ∀ x, refOpenP w h bl x = true → (indexP (grK w h mv bd bl bl.length) x).toNat < (grK w h mv bd bl bl.length).w * (grK w h mv bd bl bl.length).h := fun x hx => by
    have := hg.index (openP_on ((open_eq hb x).trans hx))
    have := this.2.2.2.2
    omega
  cases p with
  | nil => simp at h1
  | cons fr r =>
    have hf := hop fr (by simp)
    cases r with
    | nil =>
      obtain ⟨k1, k2⟩ := one_ok hb hf
      have hs := far_self hg ((open_eq hb fr).trans hf)
      refine ⟨[fr], 0, .same hb hf hf rfl, ?_, by simp, by simp, rfl, rfl, fun x hx => ?_, k2, hf, hf, (farP_atC (hidx fr hf)).trans hs, (farP_atC (hidx fr hf)).trans hs⟩
      · rw [k2]; exact Int.le_refl _
      · simp at hx; subst hx; exact (open_wf hb hf).2.2.2.2
    | cons x r =>
      obtain ⟨tz, hl⟩ : ∃ tz, (fr :: x :: r).getLast (List.cons_ne_nil _ _) = tz := ⟨_, rfl⟩
      have hlt : (fr :: x :: r).getD ((fr :: x :: r).length - 1) (0, 0) = tz := getDlast.trans hl
      have ht : refOpenP w h bl tz = true := hop tz (hl ▸ List.getLast_mem _)
      obtain ⟨m1, m2, n, d0, rr, m3, m4, m5, m6⟩ := cheap_main hg (List.cons_ne_nil x r) h4 h3 (fun y hy => (open_eq hb y).trans (hop y hy)) hl
      obtain ⟨k1, k2⟩ := route_ok hb hf ht m3
      obtain ⟨g1, g2, g3, g4, g5, g6⟩ := checkF_ok k1
      obtain ⟨_, q2, _⟩ := fst_path hg ((open_eq hb tz).trans ht) m3
      refine ⟨fr :: besideP fr d0 :: rr, n, ?_, ?_, by simp, g3, rfl, ?_, fun y hy => ?_, k2, hf, by rw [hlt]; exact ht, ?_, ?_⟩
      · rw [hlt]; exact .some hb hf ht n d0 rr m3
      · rw [costF_eq hc]; exact m4
      · rw [hlt]; exact getDlast.trans q2
      · exact (open_wf hb (List.all_eq_true.1 g6 y hy)).2.2.2.2
      · rw [hlt]; exact (farP_atC (hidx fr hf)).trans m5
      · rw [hlt]; exact (farP_atC (hidx tz ht)).trans m6
theorem cell_num {w h : Nat} {mv bd : Int} {bl : List Ce} (hb : validP w h mv bd bl = true) {x y : Int} (ho : refOpenP w h bl (x, y) = true) :
    ∃ i : Nat, indexP (grK w h mv bd bl bl.length) (x, y) = i ∧ i < w * h ∧ wrap64 (y * (w : Int)) = y * (w : Int) ∧ wrap64 (y * (w : Int) + x) = (i : Int) := by
  have hgx := grK_ok hb bl.length
  have hi := hgx.index (openP_on ((open_eq hb (x, y)).trans ho))
  have hx : indexP (grK w h mv bd bl bl.length) (x, y) = y * (w : Int) + x := rfl
  have hN9 := hgx.cells.2
  have hg : (grK w h mv bd bl bl.length).w * (grK w h mv bd bl bl.length).h = w * h := rfl
  have hgw : ((grK w h mv bd bl bl.length).w : Int) = w := rfl
  have hw2 := hgx.w2
  obtain ⟨h1, h2, h3, h4, h5, h6⟩ := hi
  rw [hg] at h6 hN9
  rw [hgw] at h2
  have hw3 : (w : Int) ≤ 30 := by have : (grK w h mv bd bl bl.length).w = w := rfl; omega
  dsimp only at h1 h2
  obtain ⟨i, hie⟩ : ∃ i : Nat, indexP (grK w h mv bd bl bl.length) (x, y) = i := ⟨(indexP (grK w h mv bd bl bl.length) (x, y)).toNat, by omega⟩
  rw [hie] at h6 hx
  obtain ⟨t, ht⟩ : ∃ t, y * (w : Int) = t := ⟨_, rfl⟩
  rw [ht] at hx ⊢
  clear h3 h4 h5 hgx hgw hw2 hg ht
  refine ⟨i, hie, by omega, ?_, ?_⟩ <;> (unfold wrap64; omega)
structure CheapN (w h : Nat) (mv bd : Int) (bl : List Ce) (n x1 y1 x2 y2 : Int) (lt lf : List Int) (i1 i2 N : Nat) : Prop where
  ft : farF w h mv bd bl (x2, y2) = (lt, 0)
  ff : farF w h mv bd bl (x1, y1) = (lf, 0)
  len1 : lt.length = N
  len2 : lf.length = N
  at1 : lt.getD i1 0 = n
  at2 : lf.getD i2 0 = n
  l1 : i1 < N
  l2 : i2 < N
  n9 : N ≤ 900
  a1 : wrap64 (y1 * (w : Int)) = y1 * (w : Int)
  a2 : wrap64 (y2 * (w : Int)) = y2 * (w : Int)
  a3 : wrap64 (y1 * (w : Int) + x1) = (i1 : Int)
  a4 : wrap64 (y2 * (w : Int) + x2) = (i2 : Int)
  a5 : wrap64 ((w : Int) * (h : Int)) = (N : Int)
theorem cheap_nums {w h : Nat} {mv bd : Int} {bl p q : List Ce} {n : Int} (hc : checkF w h mv bd bl p = 0) (H : Cheap w h mv bd bl p q n) {x1 y1 x2 y2 : Int} (h1 : p.getD 0 (0, 0) = (x1, y1)) (h2 : p.getD (p.length - 1) (0, 0) = (x2, y2)) :
    ∃ lt lf i1 i2 N, CheapN w h mv bd bl n x1 y1 x2 y2 lt lf i1 i2 N := by
  obtain ⟨hb, _⟩ := checkF_ok hc
  have hof := H.of
  have hot := H.ot
  have hfar := H.far
  have hback := H.back
  rw [h1] at hof
  rw [h2] at hot
  rw [h1, h2] at hfar hback
  obtain ⟨i1, e1, l1, a1, a3⟩ := cell_num hb hof
  obtain ⟨i2, e2, l2, a2, a4⟩ := cell_num hb hot
  rw [e1, Int.toNat_natCast] at hfar
  rw [e2, Int.toNat_natCast] at hback
  have hN9 := (grK_ok hb bl.length).cells.2
  have hN8 : w * h ≤ 900 := hN9
  refine ⟨_, _, i1, i2, w * h, farF_eq hb hot, farF_eq hb hof, farP_lenC _ _, farP_lenC _ _, hfar, hback, l1, l2, hN8, a1, a2, a3, a4, ?_⟩
  rw [← Int.natCast_mul]
  generalize w * h = N at hN8
  clear a1 a2 a3 a4
  unfold wrap64
  omega
end Go.Proofs.Ytpakkjkjppibnaa

/- Layout: heap.Push and heap.Pop.
   Layout: the small functions of a grid.
   A region that draws its order, whose operations read and whose callees may make memory: one walk of the text's order (the kit's quiet law at the class of the worlds that have grown).
   Layout: whether a cell is open.
   Layout: the field in memory, and the least cost of a path that begins at a cell. -/
import Derived.Test.YtpakkjkjppibnaaGUp
import Derived.Deep.RegionHeld3
import Derived.Test.YtpakkjkjppibnaaBase
import Derived.BigQuiet
import Derived.StillTail
namespace Go.Proofs.Ytpakkjkjppibnaa
open Go.RowKit

theorem len_at (a : Option Addr) (n c : Nat) (w : World) :
    Calls Try.prog 77 #[.slice a n c] w fun e w' => e = .returned (.int .i64 n) ∧ w' = w := (len_any a n c w).mono fun _ _ h => ⟨h.1, h.2.symm⟩
theorem HeapAt.form {W : World} {Bp B : Nat} {v : Value} {l : List Pl} (h : HeapAt W Bp B v l) : ∃ a c, v = .slice a l.length c := own_form h.2

set_option maxRecDepth 100000 in
theorem push_any (Bp B : Nat) (v : Value) (l : List Pl) (x : Pl) (w : World) (h : HeapAt w Bp B v l) (hBp : B ≤ Bp) (hn : l.length < 4000000) :
    Calls Try.prog 76 #[.iface 111 (.pointer (some ⟨Bp, 0, none⟩)), .iface 116 (.agg #[.int .i64 x.1, .int .i64 x.2.1, .int .i64 x.2.2])] w fun e w' => (∃ u, e = .returned u) ∧ ∃ v', HeapAt w' Bp B v' (pushP l x) ∧ Kp Bp v w w' ∧ Moved w v v' := by
  have hmP := fun W => meth_push ⟨Bp, 0, none⟩ W
  have hmN := fun W => meth_len ⟨Bp, 0, none⟩ W
  have HN := Lib.hid hn
  have HH := Lib.hid h
  have HC := Lib.hid (push1_any Bp B v l x w h hBp (by omega))
  obtain ⟨M, hM⟩ : ∃ M, l.length = M := ⟨_, rfl⟩
  have HM := Lib.hid hM
  have hw1 : wrap64 ((M : Int) + 1 - 1) = (M : Int) := by have := HN.out; rw [hM] at this; unfold wrap64; omega
  have hw2 : wrap64 (M : Int) = (M : Int) := by have := HN.out; rw [hM] at this; clear hw1; unfold wrap64; omega
  obtain ⟨x1, x2, x3⟩ := x
  dsimp only at *
  clear h hn hM
  go_enter Try.func76, Try.ntmps76
  go_wp2_with (first
    | (refine HC.out.mono ?_; rintro e w1 ⟨⟨u1, rfl⟩, v1, hh1, hb1, hm1⟩; obtain ⟨a1, c1, rfl⟩ := hh1.form; rw [List.length_append, HM.out] at hh1; have hc1 := hh1.1.cell; have HH1 := Lib.hid hh1; have HB1 := Lib.hid hb1; have HM1 := Lib.hid hm1; clear hh1 hb1 hm1)
    | (refine (len_any _ _ _ _).mono ?_; rintro e w2 ⟨rfl, rfl⟩)
    | ((refine (up_any (M + 1) Bp B _ (l ++ [(x1, x2, x3)]) M w1 w1 (Kp.refl _ _ _) HH1.out (by rw [List.length_append, HM.out]; simp) (by have := HN.out; rw [List.length_append]; simp; omega) (by omega)).mono ?_); rintro e w3 ⟨⟨u3, rfl⟩, hh3, hb3⟩))
  go_wp2_with fail
  refine bodyPost_end (results_none rfl _ _ _) rfl ?_
  have hm := HM1.out
  rw [List.length_append, HM.out] at hm
  exact ⟨⟨_, rfl⟩, _, by unfold pushP; rw [HM.out]; exact hh3, HB1.out.trans hm hb3, hm⟩

theorem popX_get {l : List Pl} (h : 0 < l.length) : (popL l)[(popL l).length - 1]? = some (popX l) := by
  have : l.length - 1 < (popL l).length := by rw [popL_len]; omega
  rw [popL_len]
  unfold popX
  rw [List.getD_eq_getElem?_getD, List.getElem?_eq_getElem this]
  rfl

set_option maxRecDepth 100000 in
theorem pop_any (Bp B : Nat) (v : Value) (l : List Pl) (w : World) (h : HeapAt w Bp B v l) (hn : l.length ≤ 4000000) (hp : 0 < l.length) :
    Calls Try.prog 78 #[.iface 111 (.pointer (some ⟨Bp, 0, none⟩))] w fun e w' => e = .returned (.iface 116 (.agg #[.int .i64 (popX l).1, .int .i64 (popX l).2.1, .int .i64 (popX l).2.2])) ∧ ∃ v', HeapAt w' Bp B v' (popR l) ∧ Kp Bp v w w' ∧ Moved w v v' := by
  have hmP := fun W => meth_pop ⟨Bp, 0, none⟩ W
  have hmN := fun W => meth_len ⟨Bp, 0, none⟩ W
  have hmS := fun W => meth_swap ⟨Bp, 0, none⟩ W
  have HN := Lib.hid hn
  have HX := Lib.hid (popX_get hp)
  have HR : Hid ((popL l).take ((popL l).length - 1) = popR l) := Lib.hid (by unfold popR; rw [popL_len])
  obtain ⟨M, hM⟩ : ∃ M, l.length = M + 1 := ⟨l.length - 1, by omega⟩
  obtain ⟨g, c, rfl, _, _⟩ := own_some h.2 hp
  have HM := Lib.hid hM
  have hw2 : wrap64 (M : Int) = (M : Int) := by unfold wrap64; omega
  rw [hM] at h ⊢
  have hc := h.1.cell
  have HH := Lib.hid h
  have HP : Hid (popL l = downP (M + 1) (swapP l 0 M) 0 M) := Lib.hid (by unfold popL; rw [hM]; rfl)
  obtain ⟨z, hz⟩ : ∃ z, popX l = z := ⟨_, rfl⟩
  rw [hz] at HX ⊢
  obtain ⟨x1, x2, x3⟩ := z
  dsimp only at *
  clear h hn hM hp hz
  go_enter Try.func78, Try.ntmps78
  go_wp2_with (first
    | ((with_reducible refine (len_any _ _ _ _).mono ?_); rintro e w1 ⟨rfl, rfl⟩)
    | ((with_reducible refine (swap_at g (M + 1) c B l 0 M _ _ (by simp) (by simp) _ (HH.out.own HM.out) HM.out (by omega) (by omega)).mono ?_); rintro e w2 ⟨⟨u2, rfl⟩, ho2, hg2'⟩; have HH2 := Lib.hid (HH.out.swapped hg2' ho2 (by rw [swapP_len, HM.out])); have HB2 := Lib.hid ((Kp.refl Bp (.slice (some ⟨g, 0, none⟩) (M + 1) c) _).grown hg2'))
    | ((with_reducible refine (down_any (M + 1) Bp B _ (swapP l 0 M) M w2 _ HB2.out HH2.out (by rw [swapP_len, HM.out]; omega) (by rw [swapP_len]; exact HN.out) (by omega)).mono ?_); rintro e w3 ⟨⟨u3, rfl⟩, hh3, hb3⟩; rw [← HP.out] at hh3; have HH3 := Lib.hid hh3; have HB3 := Lib.hid hb3; clear hh3 hb3)
    | ((with_reducible refine (pop1_any Bp B _ (popL l) (x1, x2, x3) w3 HH3.out (by rw [popL_len]; exact HN.out) HX.out).mono ?_); rintro e w4 ⟨rfl, v4, hh4, hb4, hm4⟩))

  go_ret
  rw [HR.out] at hh4
  exact ⟨rfl, v4, hh4, HB3.out.trans (Moved.refl _ _) hb4, Moved.trans (Moved.refl _ _) HB3.out.size hm4⟩
end Go.Proofs.Ytpakkjkjppibnaa

namespace Go.Proofs.Ytpakkjkjppibnaa
open Go.RowKit

/-- a valid grid in memory -/
structure GridAt (W : World) (Bg : Nat) (g : Gr) (bl : Value) (sa : Option Addr) (sc : Nat) : Prop where
  c0 : W.cell? ⟨Bg, 0, none⟩ = some (.int .i64 g.w)
  c1 : W.cell? ⟨Bg, 1, none⟩ = some (.int .i64 g.h)
  c2 : W.cell? ⟨Bg, 2, none⟩ = some (.int .i64 g.move)
  c3 : W.cell? ⟨Bg, 3, none⟩ = some (.int .i64 g.bend)
  c4 : W.cell? ⟨Bg, 4, none⟩ = some bl
  c5 : W.cell? ⟨Bg, 5, none⟩ = some (.slice sa (g.w * g.h) sc)
  cs : CellsAt W sa (bools g.shut)
  len : g.shut.length = g.w * g.h
  w1 : 1 ≤ g.w
  w2 : g.w ≤ 30
  h1 : 1 ≤ g.h
  h2 : g.h ≤ 30
  m1 : 1 ≤ g.move
  m2 : g.move ≤ 1000
  b1 : 0 ≤ g.bend
  b2 : g.bend ≤ 1000
theorem GridAt.below {W W' : World} {Bg : Nat} {g : Gr} {bl : Value} {sa : Option Addr} {sc : Nat} (h : GridAt W Bg g bl sa sc) (hb : Below W.heap.size W W') : GridAt W' Bg g bl sa sc :=
  ⟨cell_below h.c0 hb, cell_below h.c1 hb, cell_below h.c2 hb, cell_below h.c3 hb, cell_below h.c4 hb, cell_below h.c5 hb, h.cs.below hb (Nat.le_refl _), h.len, h.w1, h.w2, h.h1, h.h2, h.m1, h.m2, h.b1, h.b2⟩

theorem between_any (a b c : Int) (w : World) :
    Calls Try.prog 52 #[.int .i64 a, .int .i64 b, .int .i64 c] w fun e w' => e = .returned (.bool (decide (a ≤ b) && decide (b ≤ c))) ∧ w = w' := by
  by_cases h1 : a ≤ b
  · by_cases h2 : b ≤ c
    · go_enter Try.func52, Try.ntmps52
      go_wp2
      go_ret
      exact ⟨by simp [h1, h2], rfl⟩
    · go_enter Try.func52, Try.ntmps52
      go_wp2
      go_ret
      exact ⟨by simp [h2], rfl⟩
  · go_enter Try.func52, Try.ntmps52
    go_wp2
    go_ret
    exact ⟨by simp; intro; omega, rfl⟩

theorem on_any (gw gh mv bd : Int) (bl : Value) (x y : Int) (w : World) (hw1 : 0 ≤ gw) (hw2 : gw ≤ 1000) (hh1 : 0 ≤ gh) (hh2 : gh ≤ 1000) :
    Calls Try.prog 54 #[.agg #[.int .i64 gw, .int .i64 gh, .int .i64 mv, .int .i64 bd, bl], .agg #[.int .i64 x, .int .i64 y]] w fun e w' => e = .returned (.bool (onP gw gh (x, y))) ∧ Below w.heap.size w w' := by
  have hw : wrap64 (gw - 1) = gw - 1 := by unfold wrap64; omega
  have hh : wrap64 (gh - 1) = gh - 1 := by clear hw; unfold wrap64; omega
  have HO : Hid (onP gw gh (x, y) = (decide (0 ≤ x) && decide (x ≤ gw - 1) && (decide (0 ≤ y) && decide (y ≤ gh - 1)))) := Lib.hid rfl
  cases hx : (decide (0 ≤ x) && decide (x ≤ gw - 1)) with
  | false =>
    have HX := Lib.hid hx
    go_enter Try.func54, Try.ntmps54
    go_wp2_with (first
      | (go_at_call 52; refine (between_any _ _ _ _).mono ?_; rintro e w1 ⟨rfl, rfl⟩; (try rw [HX.out])))
    go_ret
    exact ⟨by rw [HO.out, HX.out]; rfl, ((Below.refl _ _).alloc (Nat.le_refl _) _).alloc (by simp) _⟩
  | true =>
    have HX := Lib.hid hx
    go_enter Try.func54, Try.ntmps54
    go_wp2_with (first
      | (go_at_call 52; refine (between_any _ _ _ _).mono ?_; rintro e w1 ⟨rfl, rfl⟩; (try rw [HX.out])))
    go_ret
    exact ⟨by rw [HO.out, HX.out]; rfl, ((Below.refl _ _).alloc (Nat.le_refl _) _).alloc (by simp) _⟩

/-- what a reader of the grid wants of the numbers -/
theorem Gr.small {W : World} {Bg : Nat} {g : Gr} {bl : Value} {sa : Option Addr} {sc : Nat} (h : GridAt W Bg g bl sa sc) {c : Int × Int} (hc : onP g.w g.h c = true) : 0 ≤ c.1 ∧ c.1 ≤ 29 ∧ 0 ≤ c.2 ∧ c.2 ≤ 29 ∧ 0 ≤ indexP g c ∧ indexP g c < g.w * g.h ∧ indexP g c ≤ 899 ∧ c.2 * (g.w : Int) ≤ 870 ∧ 0 ≤ c.2 * (g.w : Int) := by
  unfold onP at hc
  simp at hc
  have h1 := h.w1
  have h2 := h.w2
  have h3 := h.h1
  have h4 := h.h2
  obtain ⟨⟨a1, a2⟩, a3, a4⟩ := hc
  have e1 : 0 ≤ c.2 * (g.w : Int) := Int.mul_nonneg a3 (by omega)
  have e2 : c.2 * (g.w : Int) ≤ ((g.h : Int) - 1) * (g.w : Int) := Int.mul_le_mul_of_nonneg_right a4 (by omega)
  have e3 : ((g.h : Int) - 1) * (g.w : Int) = (g.w : Int) * (g.h : Int) - (g.w : Int) := by rw [Int.sub_mul, Int.one_mul, Int.mul_comm]
  have e4 : ((g.h : Int) - 1) * (g.w : Int) ≤ 29 * (g.w : Int) := Int.mul_le_mul_of_nonneg_right (by omega) (by omega)
  unfold indexP
  omega

theorem index_any (Bg : Nat) (g : Gr) (bl : Value) (sa : Option Addr) (sc : Nat) (c : Int × Int) (w : World) (hg : GridAt w Bg g bl sa sc) (hc : onP g.w g.h c = true) :
    Calls Try.prog 47 #[.pointer (some ⟨Bg, 0, none⟩), .agg #[.int .i64 c.1, .int .i64 c.2]] w fun e w' => e = .returned (.int .i64 (indexP g c)) ∧ Below w.heap.size w w' := by
  have hs := Gr.small hg hc
  have c0 := hg.c0
  obtain ⟨x, y⟩ := c
  dsimp only at *
  have hw1 : wrap64 (y * (g.w : Int)) = y * (g.w : Int) := by unfold wrap64; omega
  have hw2 : wrap64 (y * (g.w : Int) + x) = y * (g.w : Int) + x := by clear hw1; unfold wrap64; omega
  have hlt := World.block_lt_of_cell? _ _ c0
  clear hg hc hs
  go_enter Try.func47, Try.ntmps47
  go_wp2
  go_quiet (fail)
  go_wp2
  go_ret
  exact ⟨ret1i hw2, bel_drewN ((Below.refl _ _).alloc (Nat.le_refl _) _) _⟩

theorem step_any (Bg : Nat) (g : Gr) (bl : Value) (sa : Option Addr) (sc : Nat) (b d : Nat) (w : World) (hg : GridAt w Bg g bl sa sc) :
    Calls Try.prog 48 #[.pointer (some ⟨Bg, 0, none⟩), .int .i64 b, .int .i64 d] w fun e w' => e = .returned (.int .i64 (stepP g b d)) ∧ Below w.heap.size w w' := by
  have c2 := hg.c2
  have c3 := hg.c3
  have hw : wrap64 (g.move + g.bend) = g.move + g.bend := by have := hg.m1; have := hg.m2; have := hg.b1; have := hg.b2; unfold wrap64; omega
  clear hg
  by_cases hbd : b = d
  · subst hbd
    go_enter Try.func48, Try.ntmps48
    go_wp2
    go_ret
    exact ⟨by unfold stepP; rw [if_pos rfl]; rfl, Below.refl _ _⟩
  · have hbd' : ((b : Int) == (d : Int)) = false := by simp; omega
    go_enter Try.func48, Try.ntmps48
    go_wp2
    go_quiet (fail)
    go_wp2
    go_ret
    exact ⟨ret1i (by unfold stepP; rw [if_neg hbd]; exact hw), bel_drewN (Below.refl _ _) _⟩

theorem cell_any (Bg : Nat) (g : Gr) (bl : Value) (sa : Option Addr) (sc : Nat) (i : Nat) (w : World) (hg : GridAt w Bg g bl sa sc) (hi : i ≤ 1000000) :
    Calls Try.prog 41 #[.pointer (some ⟨Bg, 0, none⟩), .int .i64 i] w fun e w' => e = .returned (.agg #[.int .i64 (cellP g i).1, .int .i64 (cellP g i).2]) ∧ Below w.heap.size w w' := by
  have c0 := hg.c0
  have h1 := hg.w1
  obtain ⟨n, hn⟩ : ∃ n, g.w = n := ⟨_, rfl⟩
  unfold cellP
  rw [hn] at c0 h1 ⊢
  have hr : ((i : Int)).tmod (n : Int) = ((i % n : Nat) : Int) := (Int.ofNat_tmod _ _).symm
  have hq : ((i : Int)).tdiv (n : Int) = ((i / n : Nat) : Int) := (Int.ofNat_tdiv _ _).symm
  have hle : i / n ≤ i := Nat.div_le_self _ _
  have hn0 : ¬ ((n : Int) = 0) := by omega
  have hnz : ¬ (n = 0) := by omega
  obtain ⟨q, hq'⟩ : ∃ q, i / n = q := ⟨_, rfl⟩
  obtain ⟨r, hr'⟩ : ∃ r, i % n = r := ⟨_, rfl⟩
  rw [hq'] at hq hle ⊢
  rw [hr'] at hr ⊢
  have hwq : wrap64 (q : Int) = (q : Int) := by unfold wrap64; omega
  have hlt := World.block_lt_of_cell? _ _ c0
  clear hg hn hr' hq'
  go_enter Try.func41, Try.ntmps41
  go_wp2_with fail
  go_region
  all_goals (
    go_wp2_with fail
    refine bodyPost_ret (v := .agg #[.int .i64 r, .int .i64 q]) (by simp [results, Try.results41, go_sem]) rfl ?_
    refine ⟨rfl, ?_⟩
    first
      | exact (Below.refl _ _).alloc (Nat.le_refl _) _
      | exact ((Below.refl _ _).alloc (Nat.le_refl _) _).drew
      | exact ((((Below.refl _ _).alloc (Nat.le_refl _) _).drew).setCell (by simp) _).setCell (by simp) _)

theorem beside_any (c : Int × Int) (d : Nat) (hd : d < 8) (w : World) (h1 : -1000000 ≤ c.1) (h2 : c.1 ≤ 1000000) (h3 : -1000000 ≤ c.2) (h4 : c.2 ≤ 1000000) :
    Calls Try.prog 46 #[.agg #[.int .i64 c.1, .int .i64 c.2], .int .i64 d] w fun e w' => e = .returned (.agg #[.int .i64 (besideP c d).1, .int .i64 (besideP c d).2]) ∧ Below w.heap.size w w' := by
  obtain ⟨x, y⟩ := c
  dsimp only at *
  have hw1 : wrap64 (x + 1) = x + 1 := by unfold wrap64; omega
  have hw2 : wrap64 (y + 1) = y + 1 := by clear hw1; unfold wrap64; omega
  have hw3 : wrap64 (x - 1) = x - 1 := by clear hw1 hw2; unfold wrap64; omega
  have hw4 : wrap64 (y - 1) = y - 1 := by clear hw1 hw2 hw3; unfold wrap64; omega
  rcases (by omega : d = 0 ∨ d = 1 ∨ d = 2 ∨ d = 3 ∨ d = 4 ∨ d = 5 ∨ d = 6 ∨ d = 7) with rfl | rfl | rfl | rfl | rfl | rfl | rfl | rfl
  · clear hd
    go_enter Try.func46, Try.ntmps46
    go_wp2_with fail
    refine bodyPost_ret (v := .agg #[.int .i64 (x + 1), .int .i64 y]) (by simp [results, Try.results46, go_sem]) rfl ?_
    exact ⟨rfl, ((Below.refl _ _).alloc (Nat.le_refl _) _).alloc (by simp) _⟩
  · clear hd
    go_enter Try.func46, Try.ntmps46
    go_wp2_with fail
    refine bodyPost_ret (v := .agg #[.int .i64 x, .int .i64 (y + 1)]) (by simp [results, Try.results46, go_sem]) rfl ?_
    exact ⟨rfl, ((Below.refl _ _).alloc (Nat.le_refl _) _).alloc (by simp) _⟩
  · clear hd
    go_enter Try.func46, Try.ntmps46
    go_wp2_with fail
    refine bodyPost_ret (v := .agg #[.int .i64 (x - 1), .int .i64 y]) (by simp [results, Try.results46, go_sem]) rfl ?_
    exact ⟨rfl, ((Below.refl _ _).alloc (Nat.le_refl _) _).alloc (by simp) _⟩
  · clear hd
    go_enter Try.func46, Try.ntmps46
    go_wp2_with fail
    refine bodyPost_ret (v := .agg #[.int .i64 x, .int .i64 (y - 1)]) (by simp [results, Try.results46, go_sem]) rfl ?_
    exact ⟨rfl, ((Below.refl _ _).alloc (Nat.le_refl _) _).alloc (by simp) _⟩
  · clear hd
    go_enter Try.func46, Try.ntmps46
    go_wp2_with fail
    refine bodyPost_ret (v := .agg #[.int .i64 (x + 1), .int .i64 y]) (by simp [results, Try.results46, go_sem]) rfl ?_
    exact ⟨rfl, ((Below.refl _ _).alloc (Nat.le_refl _) _).alloc (by simp) _⟩
  · clear hd
    go_enter Try.func46, Try.ntmps46
    go_wp2_with fail
    refine bodyPost_ret (v := .agg #[.int .i64 x, .int .i64 (y + 1)]) (by simp [results, Try.results46, go_sem]) rfl ?_
    exact ⟨rfl, ((Below.refl _ _).alloc (Nat.le_refl _) _).alloc (by simp) _⟩
  · clear hd
    go_enter Try.func46, Try.ntmps46
    go_wp2_with fail
    refine bodyPost_ret (v := .agg #[.int .i64 (x - 1), .int .i64 y]) (by simp [results, Try.results46, go_sem]) rfl ?_
    exact ⟨rfl, ((Below.refl _ _).alloc (Nat.le_refl _) _).alloc (by simp) _⟩
  · clear hd
    go_enter Try.func46, Try.ntmps46
    go_wp2_with fail
    refine bodyPost_ret (v := .agg #[.int .i64 x, .int .i64 (y - 1)]) (by simp [results, Try.results46, go_sem]) rfl ?_
    exact ⟨rfl, ((Below.refl _ _).alloc (Nat.le_refl _) _).alloc (by simp) _⟩

theorem keep9 {w0 W w' : World} {a1 a2 a3 a4 a5 a6 a7 a8 : Addr} {v1 v2 v3 v4 v5 v6 v7 v8 : Value} (hb : Below W.heap.size W w') (hS : W.cell? a1 = some v1 ∧ W.cell? a2 = some v2 ∧ W.cell? a3 = some v3 ∧ W.cell? a4 = some v4 ∧ W.cell? a5 = some v5 ∧ W.cell? a6 = some v6 ∧ W.cell? a7 = some v7 ∧ W.cell? a8 = some v8 ∧ Hid (Below w0.heap.size w0 W)) :
    w'.cell? a1 = some v1 ∧ w'.cell? a2 = some v2 ∧ w'.cell? a3 = some v3 ∧ w'.cell? a4 = some v4 ∧ w'.cell? a5 = some v5 ∧ w'.cell? a6 = some v6 ∧ w'.cell? a7 = some v7 ∧ w'.cell? a8 = some v8 ∧ Hid (Below w0.heap.size w0 w') := by
  obtain ⟨h1, h2, h3, h4, h5, h6, h7, h8, h9⟩ := hS
  exact ⟨cell_below h1 hb, cell_below h2 hb, cell_below h3 hb, cell_below h4 hb, cell_below h5 hb, cell_below h6 hb, cell_below h7 hb, cell_below h8 hb, Lib.hid (h9.out.trans (hb.mono h9.out.size))⟩

end Go.Proofs.Ytpakkjkjppibnaa

namespace Go.Proofs.Ytpakkjkjppibnaa
open Go.RowKit

def Grow (w : World) : Type := { w' : World // Below w.heap.size w w' }
def grow {w : World} (x : Grow w) : World := x.1
theorem grow_below {w : World} (x : Grow w) : Below w.heap.size w (grow x) := x.2
theorem grow_cell {w : World} {a : Addr} {v : Value} (h : w.cell? a = some v) (x : Grow w) : (grow x).cell? a = some v := cell_below h x.2
instance (w : World) : Nonempty (Grow w) := ⟨⟨w, Below.refl _ _⟩⟩
theorem wp_region_grow {P : Program} {id : Nat} {Q : Exit → Act → World → Prop} {a : Act} {w : World} {l : List Oper} (hm : P.follows .mixedOrders = true) (hB : Region.lexB .any l.toArray = true)
    (h : wpQuiet P l.toArray (fun w' => ∃ x : Grow w, w' = grow x) (fun a' => ∀ w', (∃ x : Grow w, w' = grow x) → Q .normal a' w') l a) : (Code.region id l.toArray true).wp P Q a w :=
  wp_region_quiet (C := fun w' => ∃ x : Grow w, w' = grow x) hm hB ⟨⟨w.drew, (Below.refl _ _).drew⟩, rfl⟩ (by simpa using h)
theorem grow_of {P : Program} {f : FuncId} {args : Array Value} {w : World} {x : Grow w} {v : Value}
    (h : Calls P f args (grow x) fun e w' => e = .returned v ∧ Below (grow x).heap.size (grow x) w') : Calls P f args (grow x) fun e w'' => e = .returned v ∧ ∃ y : Grow w, w'' = grow y :=
  h.mono fun _ w' ⟨he, hb⟩ => ⟨he, ⟨w', (grow_below x).trans (hb.mono (grow_below x).size)⟩, rfl⟩
theorem grow_of_same {P : Program} {f : FuncId} {args : Array Value} {w : World} {x : Grow w} {v : Value}
    (h : Calls P f args (grow x) fun e w' => e = .returned v ∧ grow x = w') : Calls P f args (grow x) fun e w'' => e = .returned v ∧ ∃ y : Grow w, w'' = grow y :=
  h.mono fun _ _ ⟨he, hb⟩ => ⟨he, x, hb.symm⟩
/-- a call whose answer is known in another spelling -/
theorem grow_to {P : Program} {f : FuncId} {args : Array Value} {w : World} {x : Grow w} {v v' : Value} (hv : v = v')
    (h : Calls P f args (grow x) fun e w' => e = .returned v ∧ Below (grow x).heap.size (grow x) w') : Calls P f args (grow x) fun e w'' => e = .returned v' ∧ ∃ y : Grow w, w'' = grow y := by
  subst hv; exact grow_of h

/-! ### a quiet head, then a tail in one forced order -/
section
variable {P : Program} {ops : Array Oper} {C : World → Prop}
/-- The head comes up in whatever order, each operation quiet in C; then L. -/
def headAny (P : Program) (ops : Array Oper) (C : World → Prop) (n : Nat) (L : Array Bool → Act → Prop) : Nat → Array Bool → Act → Prop
  | 0, li, a => L li a
  | f + 1, li, a => Region.ready .any ops li ≠ [] ∧ ∀ i ∈ Region.ready .any ops li, i < n ∧ qOp P ops C i (headAny P ops C n L f (li.setIfInBounds i true)) a
theorem any_of_head {n g : Nat} {L : Array Bool → Act → Prop} {Q : Exit → Act → World → Prop} (hL : ∀ li a w, C w → L li a → wpAny P .any ops Q g li a w) :
    ∀ (f : Nat) (li : Array Bool) (a : Act) (w : World), C w → headAny P ops C n L f li a → wpAny P .any ops Q (f + g) li a w
  | 0, li, a, w, hw, h => by rw [Nat.zero_add]; exact hL li a w hw h
  | f + 1, li, a, w, hw, h => by
    rw [show f + 1 + g = (f + g) + 1 by omega]
    exact ⟨fun e => absurd e h.1, fun i hi => wpOp_of_qOp hw (fun a' w' hw' h' => any_of_head hL f _ a' w' hw' h') (h.2 i hi).2⟩
theorem head_first {n i : Nat} {oi : Oper} {v : Value} {L : Array Bool → Act → Prop} (hi : ops[i]? = some oi) (hsel : ∀ (j : Nat) (o : Oper) cs b, ops[j]? = some o → o.op ≠ .select cs b)
    (hs : Region.sinkB .any ops n = true) (hc : Region.chainB .any ops n = true) (hn : n < ops.size) (hin : i < n)
    (hend : ∀ li a, L li a → ∀ j ∈ Region.ready .any ops li, n ≤ j) (f : Nat) : ∀ (li : Array Bool) (a : Act), HeadInv .any ops n li →
      (∀ j oj, ops[j]? = some oj → j ≠ i → li.getD j true = false → (∀ e ∈ oj.after, Region.binds .any e = true → e.on ≠ i) → oi.apart ops oj = true) →
      i ∈ Region.ready .any ops li → YieldsIn P ops C oi v a →
      headAny P ops C n L f (li.setIfInBounds i true) (a.put oi.dst v) → headAny P ops C n L (f + 1) li a := by
  induction f with
  | zero =>
    intro li a inv _ hr hy H
    have hun := (mem_ready.1 hr).1
    refine ⟨List.ne_nil_of_mem hr, fun j hj => ?_⟩
    have hjn : j < n := Nat.lt_of_not_le fun h => tail_waits hs hc hn inv _ i rfl hin hun j h hj
    by_cases e : j = i
    · subst e; exact ⟨hjn, hy.qOp hi H⟩
    · exact absurd (hend _ _ H j (ready_mono hj e)) (by omega)
  | succ f ih =>
    intro li a inv hfree hr hy H
    have hun := (mem_ready.1 hr).1
    refine ⟨List.ne_nil_of_mem hr, fun j hj => ?_⟩
    have hjn : j < n := Nat.lt_of_not_le fun h => tail_waits hs hc hn inv _ i rfl hin hun j h hj
    refine ⟨hjn, ?_⟩
    by_cases e : j = i
    · subst e; exact hy.qOp hi H
    · obtain ⟨hjun, oj, hoj, hall⟩ := mem_ready.1 hj
      have hnot : ∀ x ∈ oj.after, Region.binds .any x = true → x.on ≠ i := fun x hx hb h => by
        have h1 := hall x hx hb
        rw [h, getD_both hun] at h1
        cases h1
      have h2 := qOp_put hoj (hfree j oj hoj e hjun hnot) (fun cs b => hsel i oi cs b hi) (fun cs b => hsel j oj cs b hoj) hy (H.2 j (ready_mono hj e)).2
      refine qOp_mono (fun a' h3 => ih (li.setIfInBounds j true) a' (inv.set hj hjn) (fun k ok hk hki hku hno => ?_) (ready_mono hr (Ne.symm e)) h3.1 ?_) h2
      · refine hfree k ok hk hki ?_ hno
        by_cases ek : j = k
        · subst ek; exact hjun
        · rwa [getD_set_ne true ek] at hku
      · rw [Array.setIfInBounds_comm _ _ e]
        exact h3.2
theorem head_lex {n g : Nat} {Lq : Act → Prop} (hsel : Region.noSelect ops = true) (hs : Region.sinkB .any ops n = true) (hc : Region.chainB .any ops n = true) (hn : n < ops.size) :
    ∀ (l : List Oper) (k : Nat) (li : Array Bool) (a : Act), (∀ j, j < l.length → l[j]? = ops[k + j]?) → k + l.length = n → HeadInv .any ops n li →
    Region.lexHead .any ops g l.length k li = true → wpQuiet P ops C Lq l a →
    headAny P ops C n (fun li' a' => Region.seqB .any ops g n li' = true ∧ Lq a') l.length li a
  | [], k, li, a, _, hk, _, hB, h => by
    obtain rfl : k = n := by simpa using hk
    exact ⟨by simpa [Region.lexHead] using hB, h⟩
  | o :: l, k, li, a, hl, hk, inv, hB, h => by
    have h0 : ops[k]? = some o := by simpa using (hl 0 (by simp)).symm
    simp only [List.length_cons, Region.lexHead, Bool.and_eq_true] at hB
    obtain ⟨⟨hr, hf⟩, hB'⟩ := hB
    have hkn : k < n := by simp only [List.length_cons] at hk; omega
    have hr' : k ∈ Region.ready .any ops li := by simpa using hr
    obtain ⟨v, hy, hK⟩ := yieldsIn_of_qOp (C := C) (K := wpQuiet P ops C Lq l) (a := a) h0 (by unfold qOp; simp only [h0]; exact h)
    exact head_first h0 (Region.noSelect_spec hsel) hs hc hn hkn (fun _ _ hL => seqB_ready hL.1) l.length li a inv (Region.free_spec h0 hf) hr' hy
      (head_lex hsel hs hc hn l (k + 1) _ _ (fun j hj => by have := hl (j + 1) (by simp; omega); simpa [Nat.add_assoc, Nat.add_comm 1 j] using this) (by simp only [List.length_cons] at hk; omega) (inv.set hr' hkn) hB' hK)
theorem wp_region_tail {id : Nat} {Q : Exit → Act → World → Prop} {a : Act} {w : World} {l : List Oper} (n : Nat) (hm : P.follows .mixedOrders = true) (hB : Region.lexTailB .any l.toArray n = true) (hC : C { w with drawn := w.drawn + 1 })
    (h : wpQuiet P l.toArray C (fun a' => ∀ w', C w' → wpList P l.toArray Q (l.drop n) a' w') (l.take n) a) : (Code.region id l.toArray true).wp P Q a w := by
  simp only [Region.lexTailB, Bool.and_eq_true, decide_eq_true_eq] at hB
  obtain ⟨⟨⟨⟨hsel, hn⟩, hs⟩, hc⟩, hlex⟩ := hB
  have hn' : n < l.length := by simpa using hn
  have htl : (l.take n).length = n := by simp; omega
  have hdl : (l.drop n).length = l.toArray.size - n := by simp
  have H := head_lex (P := P) (C := C) (g := l.toArray.size - n) hsel hs hc hn (l.take n) 0 (Array.replicate l.toArray.size false) a (fun j hj => by
      have hj' : j < n := by rw [htl] at hj; exact hj
      simp [hj']) (by simpa using htl)
    ⟨by simp, fun j oj _ hl => (by rw [getD_replicate_false] at hl; cases hl), fun t _ ht => getD_in (by simpa using ht) (getD_replicate_false _ _)⟩ (by rw [htl]; exact hlex) h
  have H2 := any_of_head (Q := Q) (g := l.toArray.size - n) (fun li a' w' hw' hL => by
    have := wpAny_of_seq (md := .any) (Q' := Q) (l.drop n) n li a' w' (fun j => by simp [List.getElem?_drop]) (by rw [hdl]; exact hL.1) (hL.2 w' hw')
    rwa [hdl] at this) _ _ _ _ hC H
  rw [htl, show n + (l.toArray.size - n) = l.toArray.size by omega] at H2
  exact wp_region_any hm H2
/-- .. at the class of the worlds that have grown. -/
theorem wp_region_growTail {id : Nat} {Q : Exit → Act → World → Prop} {a : Act} {w : World} {l : List Oper} (n : Nat) (hm : P.follows .mixedOrders = true) (hB : Region.lexTailB .any l.toArray n = true)
    (h : wpQuiet P l.toArray (fun w' => ∃ x : Grow w, w' = grow x) (fun a' => ∀ w', (∃ x : Grow w, w' = grow x) → wpList P l.toArray Q (l.drop n) a' w') (l.take n) a) : (Code.region id l.toArray true).wp P Q a w :=
  wp_region_tail n hm hB ⟨⟨w.drew, (Below.refl _ _).drew⟩, rfl⟩ h
end
end Go.Proofs.Ytpakkjkjppibnaa

namespace Go.Proofs.Ytpakkjkjppibnaa
open Go.RowKit

theorem open_off (Bg : Nat) (g : Gr) (bl : Value) (sa : Option Addr) (sc : Nat) (c : Int × Int) (w : World) (hg : GridAt w Bg g bl sa sc) (hc : onP g.w g.h c = false) :
    Calls Try.prog 39 #[.pointer (some ⟨Bg, 0, none⟩), .agg #[.int .i64 c.1, .int .i64 c.2]] w fun e w' => e = .returned (.bool (openP g c)) ∧ Below w.heap.size w w' := by
  have HO : Hid (openP g c = false) := Lib.hid (by unfold openP; rw [hc]; rfl)
  obtain ⟨x, y⟩ := c
  have HC := Lib.hid (fun W => on_any g.w g.h g.move g.bend bl x y W (by omega) (by have := hg.w2; omega) (by omega) (by have := hg.h2; omega))
  rw [hc] at HC
  have hlt := World.block_lt_of_cell? _ _ hg.c0
  have HG := Lib.hid hg
  dsimp only at *
  clear hg hc
  go_enter Try.func39, Try.ntmps39
  go_wp2
  have hbW := (Below.refl w.heap.size w).alloc (Nat.le_refl _) (.cells #[.int .i64 x, .int .i64 y] 26)
  have d0 : (w.alloc (.cells #[.int .i64 x, .int .i64 y] 26)).cell? ⟨w.heap.size, 0, none⟩ = some (.int .i64 x) := World.cell?_alloc_at _ _ _ _ rfl
  have d1 : (w.alloc (.cells #[.int .i64 x, .int .i64 y] 26)).cell? ⟨w.heap.size, 1, none⟩ = some (.int .i64 y) := World.cell?_alloc_at _ _ _ _ rfl
  generalize hW : w.alloc (.cells #[.int .i64 x, .int .i64 y] 26) = W at *
  clear hW
  have hgW := HG.out.below hbW
  have e0 := fun x : Grow W => grow_cell hgW.c0 x
  have e1 := fun x : Grow W => grow_cell hgW.c1 x
  have e2 := fun x : Grow W => grow_cell hgW.c2 x
  have e3 := fun x : Grow W => grow_cell hgW.c3 x
  have e4 := fun x : Grow W => grow_cell hgW.c4 x
  have e6 := fun x : Grow W => grow_cell d0 x
  have e7 := fun x : Grow W => grow_cell d1 x
  clear d0 d1 hgW
  refine wp_region_grow (by kernel_rfl) (by kernel_rfl) ?_
  repeat (go_big_quiet_step (first | (go_at_call 54; refine grow_of (HC.out _))))
  refine wpQuiet_nil ?_
  intro _ hw'
  obtain ⟨xq, hw''⟩ := hw'
  subst hw''
  have hbq := grow_below xq
  go_wp2_with fail
  go_ret
  exact ⟨by rw [HO.out]; rfl, hbW.trans (hbq.mono hbW.size)⟩

theorem open_on (Bg : Nat) (g : Gr) (bl : Value) (sa : Option Addr) (sc : Nat) (c : Int × Int) (w : World) (hg : GridAt w Bg g bl sa sc) (hc : onP g.w g.h c = true) :
    Calls Try.prog 39 #[.pointer (some ⟨Bg, 0, none⟩), .agg #[.int .i64 c.1, .int .i64 c.2]] w fun e w' => e = .returned (.bool (openP g c)) ∧ Below w.heap.size w w' := by
  obtain ⟨j, hj⟩ : ∃ j : Nat, indexP g c = j := ⟨(indexP g c).toNat, by have := (Gr.small hg hc).2.2.2.2.1; omega⟩
  have hjl : j < g.w * g.h := by have := (Gr.small hg hc).2.2.2.2.2.1; rw [hj] at this; exact_mod_cast this
  have HO : Hid (openP g c = !(g.shut.getD j false)) := Lib.hid (by unfold openP; rw [hc, hj]; rfl)
  obtain ⟨b, off, hsa, hcs⟩ := hg.cs.cell (j := j) (by simp [bools, hg.len, hjl])
  subst hsa
  have hcell := hcs j _ (bools_getD (by rw [hg.len]; exact hjl))
  obtain ⟨s, hs⟩ : ∃ s, g.shut.getD j false = s := ⟨_, rfl⟩
  rw [hs] at hcell HO
  have HI := Lib.hid (fun (W : World) (h : Below w.heap.size w W) => index_any Bg g bl _ sc c W (hg.below h) hc)
  rw [hj] at HI
  obtain ⟨x, y⟩ := c
  have HC := Lib.hid (fun W => on_any g.w g.h g.move g.bend bl x y W (by omega) (by have := hg.w2; omega) (by omega) (by have := hg.h2; omega))
  rw [hc] at HC
  have hlt := World.block_lt_of_cell? _ _ hg.c0
  have HG := Lib.hid hg
  obtain ⟨N, hN⟩ : ∃ N, g.w * g.h = N := ⟨_, rfl⟩
  have c5 := hg.c5
  rw [hN] at hjl c5
  have hjl' : (j : Int) < (N : Int) := by omega
  have C5 := Lib.hid c5
  have CJ := Lib.hid hcell
  dsimp only at *
  clear hg hc hj hcs hs hN c5 hcell hjl
  go_enter Try.func39, Try.ntmps39
  go_wp2
  have hbW := (Below.refl w.heap.size w).alloc (Nat.le_refl _) (.cells #[.int .i64 x, .int .i64 y] 26)
  have d0 : (w.alloc (.cells #[.int .i64 x, .int .i64 y] 26)).cell? ⟨w.heap.size, 0, none⟩ = some (.int .i64 x) := World.cell?_alloc_at _ _ _ _ rfl
  have d1 : (w.alloc (.cells #[.int .i64 x, .int .i64 y] 26)).cell? ⟨w.heap.size, 1, none⟩ = some (.int .i64 y) := World.cell?_alloc_at _ _ _ _ rfl
  generalize hW : w.alloc (.cells #[.int .i64 x, .int .i64 y] 26) = W at *
  clear hW
  have hgW := HG.out.below hbW
  have e0 := fun x : Grow W => grow_cell hgW.c0 x
  have e1 := fun x : Grow W => grow_cell hgW.c1 x
  have e2 := fun x : Grow W => grow_cell hgW.c2 x
  have e3 := fun x : Grow W => grow_cell hgW.c3 x
  have e4 := fun x : Grow W => grow_cell hgW.c4 x
  have e5 := fun x : Grow W => grow_cell (cell_below C5.out hbW) x
  have e6 := fun x : Grow W => grow_cell d0 x
  have e7 := fun x : Grow W => grow_cell d1 x
  have e8 := fun x : Grow W => grow_cell (cell_below CJ.out hbW) x
  have HB := Lib.hid hbW
  clear d0 d1 hgW hbW
  refine wp_region_grow (by kernel_rfl) (by kernel_rfl) ?_
  repeat (go_big_quiet_step (first
    | (go_at_call 54; refine grow_of (HC.out _))
    | (go_at_call 47; refine grow_of (HI.out _ (HB.out.trans ((grow_below _).mono HB.out.size))))))
  refine wpQuiet_nil ?_
  intro _ hw'
  obtain ⟨xq, hw''⟩ := hw'
  subst hw''
  have hbq := grow_below xq
  go_wp2_with fail
  go_ret
  exact ⟨by rw [HO.out]; rfl, HB.out.trans (hbq.mono HB.out.size)⟩

theorem open_any (Bg : Nat) (g : Gr) (bl : Value) (sa : Option Addr) (sc : Nat) (c : Int × Int) (w : World) (hg : GridAt w Bg g bl sa sc) :
    Calls Try.prog 39 #[.pointer (some ⟨Bg, 0, none⟩), .agg #[.int .i64 c.1, .int .i64 c.2]] w fun e w' => e = .returned (.bool (openP g c)) ∧ Below w.heap.size w w' := by
  cases h : onP g.w g.h c with
  | false => exact open_off Bg g bl sa sc c w hg h
  | true => exact open_on Bg g bl sa sc c w hg h
end Go.Proofs.Ytpakkjkjppibnaa

namespace Go.Proofs.Ytpakkjkjppibnaa
open Go.RowKit

/-- the table of a field in memory -/
def FldAt (W : World) (fb n : Nat) (o : List (List Int)) : Prop := ∀ i d, i < n → d < 4 → W.cell? ⟨fb, i * 4 + d, none⟩ = some (.int .i64 (outGet o i d))
theorem FldAt.below {W W' : World} {fb n : Nat} {o : List (List Int)} (h : FldAt W fb n o) (hb : Below W.heap.size W W') : FldAt W' fb n o := fun i d hi hd => cell_below (h i d hi hd) hb
def begStep (g : Gr) (o : List (List Int)) (c : Int × Int) (s : Int × Int) (d : Nat) : Int × Int :=
  if openP g (besideP c d) then
    if outGet o (indexP g (besideP c d)).toNat d < 0 then s
    else if s.1 < 0 then (g.move + outGet o (indexP g (besideP c d)).toNat d, (d : Int))
    else if g.move + outGet o (indexP g (besideP c d)).toNat d < s.1 then (g.move + outGet o (indexP g (besideP c d)).toNat d, (d : Int)) else s
  else s
def beginsP (g : Gr) (o : List (List Int)) (c : Int × Int) (k : Nat) : Int × Int := (List.range k).foldl (begStep g o c) (-1, 0)
theorem beginsP_succ (g : Gr) (o : List (List Int)) (c : Int × Int) (k : Nat) : beginsP g o c (k + 1) = begStep g o c (beginsP g o c k) k := by
  unfold beginsP; rw [List.range_succ, List.foldl_append]; rfl
theorem openP_on {g : Gr} {c : Int × Int} (h : openP g c = true) : onP g.w g.h c = true := by unfold openP at h; simp at h; exact h.1
theorem beside_near {c : Int × Int} {d : Nat} {B : Int} (h1 : -B ≤ c.1) (h2 : c.1 ≤ B) (h3 : -B ≤ c.2) (h4 : c.2 ≤ B) : -(B + 1) ≤ (besideP c d).1 ∧ (besideP c d).1 ≤ B + 1 ∧ -(B + 1) ≤ (besideP c d).2 ∧ (besideP c d).2 ≤ B + 1 := by
  unfold besideP; split <;> refine ⟨?_, ?_, ?_, ?_⟩ <;> dsimp only <;> omega

set_option maxRecDepth 100000 in
set_option maxHeartbeats 4000000 in
theorem begins_any (Bg : Nat) (g : Gr) (bl : Value) (sa : Option Addr) (sc : Nat) (fb cap : Nat) (o : List (List Int)) (c : Int × Int) (w : World) (hg : GridAt w Bg g bl sa sc) (hf : FldAt w fb (g.w * g.h) o)
    (hob : ∀ i d, outGet o i d ≤ 1000000000) (h1 : -1000 ≤ c.1) (h2 : c.1 ≤ 1000) (h3 : -1000 ≤ c.2) (h4 : c.2 ≤ 1000) :
    Calls Try.prog 42 #[.pointer (some ⟨Bg, 0, none⟩), .slice (some ⟨fb, 0, none⟩) (g.w * g.h) cap, .agg #[.int .i64 c.1, .int .i64 c.2]] w fun e w' => e = .returned (.tuple #[.int .i64 (beginsP g o c 4).1, .int .i64 (beginsP g o c 4).2]) ∧ Below w.heap.size w w' := by
  have HG := Lib.hid hg
  have HF := Lib.hid hf
  have HOB := Lib.hid hob
  have HM1 := hg.m1
  have HM2 := hg.m2
  obtain ⟨N, hN⟩ : ∃ N, g.w * g.h = N := ⟨_, rfl⟩
  have HN := Lib.hid hN
  rw [hN] at HF ⊢
  have hz : N < 4294967296 := by have := hg.w2; have := hg.h2; rw [← hN]; exact Nat.lt_of_le_of_lt (Nat.mul_le_mul hg.w2 hg.h2) (by omega)
  obtain ⟨x, y⟩ := c
  dsimp only at *
  have HB0 := Lib.hid (beginsP_succ g o (x, y))
  have HZ : Hid (beginsP g o (x, y) 0 = (-1, 0)) := Lib.hid rfl
  clear hg hf hob hN
  go_enter Try.func42, Try.ntmps42
  go_wp2_with fail
  have hbW := (Below.refl w.heap.size w).alloc (Nat.le_refl _) (.cells #[.int .i64 x, .int .i64 y] 26)
  have HD0 := Lib.hid (show (w.alloc (.cells #[.int .i64 x, .int .i64 y] 26)).cell? ⟨w.heap.size, 0, none⟩ = some (.int .i64 x) from World.cell?_alloc_at _ _ _ _ rfl)
  have HD1 := Lib.hid (show (w.alloc (.cells #[.int .i64 x, .int .i64 y] 26)).cell? ⟨w.heap.size, 1, none⟩ = some (.int .i64 y) from World.cell?_alloc_at _ _ _ _ rfl)
  generalize hW : w.alloc (.cells #[.int .i64 x, .int .i64 y] 26) = W at *
  clear hW
  have HBW := Lib.hid hbW
  clear hbW
  go_loopw [6, 7, 11] (fun a b p wr => ∃ k : Nat, k ≤ 4 ∧ p = .int .i64 k ∧ a = .int .i64 (beginsP g o (x, y) k).1 ∧ b = .int .i64 (beginsP g o (x, y) k).2 ∧ Hid (Below W.heap.size W wr)) (fun _ _ p _ => 4 - (intOf p).toNat)
  case atStart => exact ⟨0, by omega, rfl, by rw [HZ.out], by rw [HZ.out], Lib.hid (Below.refl _ _)⟩
  case round =>
    obtain ⟨k, hk, rfl, rfl, rfl, HR⟩ := hrel
    by_cases hk4 : k < 4
    · have HS := Lib.hid (HB0.out k)
      have c0 := cell_below HD0.out HR.out
      have c1 := cell_below HD1.out HR.out
      obtain ⟨nx, hnx⟩ : ∃ nx, besideP (x, y) k = nx := ⟨_, rfl⟩
      have HNX := Lib.hid hnx
      have hnear := beside_near (d := k) (c := (x, y)) (B := 1000) h1 h2 h3 h4
      rw [hnx] at hnear
      have HBS := Lib.hid (fun W => beside_any (x, y) k (by omega) W (by dsimp only; omega) (by dsimp only; omega) (by dsimp only; omega) (by dsimp only; omega))
      rw [hnx] at HBS
      have HOP := Lib.hid (fun (V : World) (h : Below wr.heap.size wr V) => open_any Bg g bl sa sc nx V (((HG.out.below HBW.out).below HR.out).below h))
      have hlt := World.block_lt_of_cell? _ _ c0
      obtain ⟨nx1, nx2⟩ := nx
      obtain ⟨⟨b1, b2⟩, hbb⟩ : ∃ q, beginsP g o (x, y) k = q := ⟨_, rfl⟩
      have HBB := Lib.hid hbb
      rw [hbb]
      dsimp only at *
      clear hnx hbb
      cases hop : openP g (nx1, nx2) with
      | false =>
        rw [hop] at HOP
        have HST : Hid (begStep g o (x, y) (b1, b2) k = (b1, b2)) := Lib.hid (by unfold begStep; rw [HNX.out, hop]; rfl)
        clear hop
        go_wp2_with (first
          | (go_at_call 46; refine (HBS.out _).mono ?_; rintro e w1 ⟨rfl, hb1⟩; have hs1 := hb1.size)
          | (go_at_call 39; refine (HOP.out _ (hb1.alloc (by omega) _)).mono ?_; rintro e w2 ⟨rfl, hb2⟩))
        go_roundw
        case rel => exact ⟨k + 1, by omega, by go_num, by rw [HS.out, HBB.out, HST.out], by rw [HS.out, HBB.out, HST.out], Lib.hid (HR.out.trans (((hb1.alloc (by omega) _).trans (hb2.mono (by simp; omega))).mono HR.out.size))⟩
        case measure => simp [intOf]; omega
      | true =>
        have hon := openP_on hop
        have hsm := Gr.small (((HG.out.below HBW.out).below HR.out)) hon
        obtain ⟨j, hj⟩ : ∃ j : Nat, indexP g (nx1, nx2) = j := ⟨(indexP g (nx1, nx2)).toNat, by omega⟩
        rw [hj] at hsm
        have hjN : j < N := by have := hsm.2.2.2.2.2.1; rw [← HN.out]; exact_mod_cast this
        have hjN' : (j : Int) < (N : Int) := by omega
        have HIX := Lib.hid (fun (V : World) (h : Below wr.heap.size wr V) => index_any Bg g bl sa sc (nx1, nx2) V (((HG.out.below HBW.out).below HR.out).below h) hon)
        rw [hj] at HIX
        rw [hop] at HOP
        obtain ⟨v, hv⟩ : ∃ v, outGet o j k = v := ⟨_, rfl⟩
        have hv9 : v ≤ 1000000000 := by rw [← hv]; exact HOB.out j k
        have HFC := Lib.hid (fun (V : World) (h : Below wr.heap.size wr V) => cell_below (cell_below (cell_below (HF.out j k hjN hk4) HBW.out) HR.out) h)
        have HGC := Lib.hid (fun (V : World) (h : Below wr.heap.size wr V) => (((HG.out.below HBW.out).below HR.out).below h).c2)
        rw [hv] at HFC
        have HST : Hid (begStep g o (x, y) (b1, b2) k = if v < 0 then (b1, b2) else if b1 < 0 then (g.move + v, (k : Int)) else if g.move + v < b1 then (g.move + v, (k : Int)) else (b1, b2)) := Lib.hid (by unfold begStep; rw [HNX.out, hop, if_pos rfl, hj, Int.toNat_natCast, hv])
        clear hop hon hj hv hsm
        by_cases hv0 : v < 0
        · rw [if_pos hv0] at HST
          go_wp2_with (first
            | (go_at_call 46; refine (HBS.out _).mono ?_; rintro e w1 ⟨rfl, hb1⟩; have hs1 := hb1.size; have HB1 := Lib.hid (hb1.alloc hs1 (.cells #[.int .i64 nx1, .int .i64 nx2] 26)))
            | (go_at_call 39; refine (HOP.out _ (HB1.out)).mono ?_; rintro e w2 ⟨rfl, hb2⟩; have n0 : w2.cell? ⟨w1.heap.size, 0, none⟩ = some (.int .i64 nx1) := cell_below (World.cell?_alloc_at _ _ _ _ rfl) hb2; have n1 : w2.cell? ⟨w1.heap.size, 1, none⟩ = some (.int .i64 nx2) := cell_below (World.cell?_alloc_at _ _ _ _ rfl) hb2; have HB2 := Lib.hid (HB1.out.trans (hb2.mono HB1.out.size)))
            | (go_at_call 47; refine (HIX.out _ HB2.out).mono ?_; rintro e w3 ⟨rfl, hb3⟩; have HB3 := Lib.hid (HB2.out.trans (hb3.mono HB2.out.size)); have f3 := HFC.out _ HB3.out))
          go_roundw
          case rel => exact ⟨k + 1, by omega, by go_num, by rw [HS.out, HBB.out, HST.out], by rw [HS.out, HBB.out, HST.out], Lib.hid (HR.out.trans (HB3.out.mono HR.out.size))⟩
          case measure => simp [intOf]; omega
        · rw [if_neg hv0] at HST
          have hv0' : ¬ v < 0 := hv0
          have hw1 : wrap64 (g.move + v) = g.move + v := by unfold wrap64; omega
          go_wp2_with (first
            | (go_at_call 46; refine (HBS.out _).mono ?_; rintro e w1 ⟨rfl, hb1⟩; have hs1 := hb1.size; have HB1 := Lib.hid (hb1.alloc hs1 (.cells #[.int .i64 nx1, .int .i64 nx2] 26)))
            | (go_at_call 39; refine (HOP.out _ (HB1.out)).mono ?_; rintro e w2 ⟨rfl, hb2⟩; have n0 : w2.cell? ⟨w1.heap.size, 0, none⟩ = some (.int .i64 nx1) := cell_below (World.cell?_alloc_at _ _ _ _ rfl) hb2; have n1 : w2.cell? ⟨w1.heap.size, 1, none⟩ = some (.int .i64 nx2) := cell_below (World.cell?_alloc_at _ _ _ _ rfl) hb2; have HB2 := Lib.hid (HB1.out.trans (hb2.mono HB1.out.size)))
            | (go_at_call 47; refine (HIX.out _ HB2.out).mono ?_; rintro e w3 ⟨rfl, hb3⟩; have HB3 := Lib.hid (HB2.out.trans (hb3.mono HB2.out.size)); have f3 := HFC.out _ HB3.out; have m0 := cell_below n0 hb3; have m1 := cell_below n1 hb3))
          have HW3 := Lib.hid hb3
          have e1 := fun x : Grow w3 => grow_cell f3 x
          have e2 := fun x : Grow w3 => grow_cell m0 x
          have e3 := fun x : Grow w3 => grow_cell m1 x
          have e4 := fun x : Grow w3 => grow_cell (HGC.out _ HB3.out) x
          clear c0 c1 n0 n1 f3 m0 m1 hb1 hb2 hb3
          refine wp_region_grow (by kernel_rfl) (by kernel_rfl) ?_
          repeat (go_big_quiet_step (first
            | (go_at_call 47; refine grow_of (HIX.out _ (HB3.out.trans ((grow_below _).mono HB3.out.size))))))
          refine wpQuiet_nil ?_
          intro _ hw'
          obtain ⟨xq, hw''⟩ := hw'
          subst hw''
          have HB4 := Lib.hid (HB3.out.trans ((grow_below xq).mono HB3.out.size))
          clear e1 e2 e3 e4
          by_cases hb10 : b1 < 0
          · rw [if_pos hb10] at HST
            go_wp2_with fail
            go_roundw
            case rel => exact ⟨k + 1, by omega, by go_num, by rw [HS.out, HBB.out, HST.out], by rw [HS.out, HBB.out, HST.out], Lib.hid (HR.out.trans (HB4.out.mono HR.out.size))⟩
            case measure => simp [intOf]; omega
          · rw [if_neg hb10] at HST
            by_cases hlt2 : g.move + v < b1
            · rw [if_pos hlt2] at HST
              go_wp2_with fail
              go_roundw
              case rel => exact ⟨k + 1, by omega, by go_num, by rw [HS.out, HBB.out, HST.out], by rw [HS.out, HBB.out, HST.out], Lib.hid (HR.out.trans (HB4.out.mono HR.out.size))⟩
              case measure => simp [intOf]; omega
            · rw [if_neg hlt2] at HST
              go_wp2_with fail
              go_roundw
              case rel => exact ⟨k + 1, by omega, by go_num, by rw [HS.out, HBB.out, HST.out], by rw [HS.out, HBB.out, HST.out], Lib.hid (HR.out.trans (HB4.out.mono HR.out.size))⟩
              case measure => simp [intOf]; omega
    · obtain rfl : k = 4 := by omega
      go_wp2_with fail
      go_ret2
      exact ⟨rfl, HBW.out.trans (HR.out.mono HBW.out.size)⟩
end Go.Proofs.Ytpakkjkjppibnaa

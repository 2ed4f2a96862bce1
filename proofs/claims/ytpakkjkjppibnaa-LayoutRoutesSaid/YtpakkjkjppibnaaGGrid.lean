/- Layout: the small functions of a grid. -/
import Derived.Test.YtpakkjkjppibnaaGHp
import Derived.Deep.RegionHeld3
namespace Go.Proofs.Ytpakkjkjppibnaa
open Go.RowKit

/-- a valid grid in memory -/
structure GridAt (W : World) (Bg : Nat) (g : Gr) (bl : Value) (sa : Option Addr) (sc : Nat) : Prop where
  c0 : W.cell? ⟨Bg, 0, none⟩ = some (.int .i64 g.w)
  c1 : W.cell? ⟨Bg, 1, none⟩ = some (.int .i64 g.h)
  c2 : W.cell? ⟨Bg, 2, none⟩ = some (.int .i64 g.move)
  c3 : W.cell? ⟨Bg, 3, none⟩ = some (.int .i64 g.bend)
  c4 : W.cell? ⟨Bg, 4, none⟩ = some bl
  c5 : W.cell? ⟨Bg, 5, none⟩ = some (.slice sa (g.w * g.h) sc)
  cs : CellsAt W sa (bools g.shut)
  len : g.shut.length = g.w * g.h
  w1 : 1 ≤ g.w
  w2 : g.w ≤ 30
  h1 : 1 ≤ g.h
  h2 : g.h ≤ 30
  m1 : 1 ≤ g.move
  m2 : g.move ≤ 1000
  b1 : 0 ≤ g.bend
  b2 : g.bend ≤ 1000
theorem GridAt.below {W W' : World} {Bg : Nat} {g : Gr} {bl : Value} {sa : Option Addr} {sc : Nat} (h : GridAt W Bg g bl sa sc) (hb : Below W.heap.size W W') : GridAt W' Bg g bl sa sc :=
  ⟨cell_below h.c0 hb, cell_below h.c1 hb, cell_below h.c2 hb, cell_below h.c3 hb, cell_below h.c4 hb, cell_below h.c5 hb, h.cs.below hb (Nat.le_refl _), h.len, h.w1, h.w2, h.h1, h.h2, h.m1, h.m2, h.b1, h.b2⟩

theorem between_any (a b c : Int) (w : World) :
    Calls Try.prog 52 #[.int .i64 a, .int .i64 b, .int .i64 c] w fun e w' => e = .returned (.bool (decide (a ≤ b) && decide (b ≤ c))) ∧ w = w' := by
  by_cases h1 : a ≤ b
  · by_cases h2 : b ≤ c
    · go_enter Try.func52, Try.ntmps52
      go_wp2
      go_ret
      exact ⟨by simp [h1, h2], rfl⟩
    · go_enter Try.func52, Try.ntmps52
      go_wp2
      go_ret
      exact ⟨by simp [h2], rfl⟩
  · go_enter Try.func52, Try.ntmps52
    go_wp2
    go_ret
    exact ⟨by simp; intro; omega, rfl⟩

theorem on_any (gw gh mv bd : Int) (bl : Value) (x y : Int) (w : World) (hw1 : 0 ≤ gw) (hw2 : gw ≤ 1000) (hh1 : 0 ≤ gh) (hh2 : gh ≤ 1000) :
    Calls Try.prog 54 #[.agg #[.int .i64 gw, .int .i64 gh, .int .i64 mv, .int .i64 bd, bl], .agg #[.int .i64 x, .int .i64 y]] w fun e w' => e = .returned (.bool (onP gw gh (x, y))) ∧ Below w.heap.size w w' := by
  have hw : wrap64 (gw - 1) = gw - 1 := by unfold wrap64; omega
  have hh : wrap64 (gh - 1) = gh - 1 := by clear hw; unfold wrap64; omega
  have HO : Hid (onP gw gh (x, y) = (decide (0 ≤ x) && decide (x ≤ gw - 1) && (decide (0 ≤ y) && decide (y ≤ gh - 1)))) := Lib.hid rfl
  cases hx : (decide (0 ≤ x) && decide (x ≤ gw - 1)) with
  | false =>
    have HX := Lib.hid hx
    go_enter Try.func54, Try.ntmps54
    go_wp2_with (first
      | (go_at_call 52; refine (between_any _ _ _ _).mono ?_; rintro e w1 ⟨rfl, rfl⟩; (try rw [HX.out])))
    go_ret
    exact ⟨by rw [HO.out, HX.out]; rfl, ((Below.refl _ _).alloc (Nat.le_refl _) _).alloc (by simp) _⟩
  | true =>
    have HX := Lib.hid hx
    go_enter Try.func54, Try.ntmps54
    go_wp2_with (first
      | (go_at_call 52; refine (between_any _ _ _ _).mono ?_; rintro e w1 ⟨rfl, rfl⟩; (try rw [HX.out])))
    go_ret
    exact ⟨by rw [HO.out, HX.out]; rfl, ((Below.refl _ _).alloc (Nat.le_refl _) _).alloc (by simp) _⟩

/-- what a reader of the grid wants of the numbers -/
theorem Gr.small {W : World} {Bg : Nat} {g : Gr} {bl : Value} {sa : Option Addr} {sc : Nat} (h : GridAt W Bg g bl sa sc) {c : Int × Int} (hc : onP g.w g.h c = true) : 0 ≤ c.1 ∧ c.1 ≤ 29 ∧ 0 ≤ c.2 ∧ c.2 ≤ 29 ∧ 0 ≤ indexP g c ∧ indexP g c < g.w * g.h ∧ indexP g c ≤ 899 ∧ c.2 * (g.w : Int) ≤ 870 ∧ 0 ≤ c.2 * (g.w : Int) := by
  unfold onP at hc
  simp at hc
  have h1 := h.w1
  have h2 := h.w2
  have h3 := h.h1
  have h4 := h.h2
  obtain ⟨⟨a1, a2⟩, a3, a4⟩ := hc
  have e1 : 0 ≤ c.2 * (g.w : Int) := Int.mul_nonneg a3 (by omega)
  have e2 : c.2 * (g.w : Int) ≤ ((g.h : Int) - 1) * (g.w : Int) := Int.mul_le_mul_of_nonneg_right a4 (by omega)
  have e3 : ((g.h : Int) - 1) * (g.w : Int) = (g.w : Int) * (g.h : Int) - (g.w : Int) := by rw [Int.sub_mul, Int.one_mul, Int.mul_comm]
  have e4 : ((g.h : Int) - 1) * (g.w : Int) ≤ 29 * (g.w : Int) := Int.mul_le_mul_of_nonneg_right (by omega) (by omega)
  unfold indexP
  omega

theorem index_any (Bg : Nat) (g : Gr) (bl : Value) (sa : Option Addr) (sc : Nat) (c : Int × Int) (w : World) (hg : GridAt w Bg g bl sa sc) (hc : onP g.w g.h c = true) :
    Calls Try.prog 47 #[.pointer (some ⟨Bg, 0, none⟩), .agg #[.int .i64 c.1, .int .i64 c.2]] w fun e w' => e = .returned (.int .i64 (indexP g c)) ∧ Below w.heap.size w w' := by
  have hs := Gr.small hg hc
  have c0 := hg.c0
  obtain ⟨x, y⟩ := c
  dsimp only at *
  have hw1 : wrap64 (y * (g.w : Int)) = y * (g.w : Int) := by unfold wrap64; omega
  have hw2 : wrap64 (y * (g.w : Int) + x) = y * (g.w : Int) + x := by clear hw1; unfold wrap64; omega
  have hlt := World.block_lt_of_cell? _ _ c0
  clear hg hc hs
  go_enter Try.func47, Try.ntmps47
  go_wp2
  go_quiet (fail)
  go_wp2
  go_ret
  exact ⟨ret1i hw2, bel_drewN ((Below.refl _ _).alloc (Nat.le_refl _) _) _⟩

theorem step_any (Bg : Nat) (g : Gr) (bl : Value) (sa : Option Addr) (sc : Nat) (b d : Nat) (w : World) (hg : GridAt w Bg g bl sa sc) :
    Calls Try.prog 48 #[.pointer (some ⟨Bg, 0, none⟩), .int .i64 b, .int .i64 d] w fun e w' => e = .returned (.int .i64 (stepP g b d)) ∧ Below w.heap.size w w' := by
  have c2 := hg.c2
  have c3 := hg.c3
  have hw : wrap64 (g.move + g.bend) = g.move + g.bend := by have := hg.m1; have := hg.m2; have := hg.b1; have := hg.b2; unfold wrap64; omega
  clear hg
  by_cases hbd : b = d
  · subst hbd
    go_enter Try.func48, Try.ntmps48
    go_wp2
    go_ret
    exact ⟨by unfold stepP; rw [if_pos rfl]; rfl, Below.refl _ _⟩
  · have hbd' : ((b : Int) == (d : Int)) = false := by simp; omega
    go_enter Try.func48, Try.ntmps48
    go_wp2
    go_quiet (fail)
    go_wp2
    go_ret
    exact ⟨ret1i (by unfold stepP; rw [if_neg hbd]; exact hw), bel_drewN (Below.refl _ _) _⟩

theorem cell_any (Bg : Nat) (g : Gr) (bl : Value) (sa : Option Addr) (sc : Nat) (i : Nat) (w : World) (hg : GridAt w Bg g bl sa sc) (hi : i ≤ 1000000) :
    Calls Try.prog 41 #[.pointer (some ⟨Bg, 0, none⟩), .int .i64 i] w fun e w' => e = .returned (.agg #[.int .i64 (cellP g i).1, .int .i64 (cellP g i).2]) ∧ Below w.heap.size w w' := by
  have c0 := hg.c0
  have h1 := hg.w1
  obtain ⟨n, hn⟩ : ∃ n, g.w = n := ⟨_, rfl⟩
  unfold cellP
  rw [hn] at c0 h1 ⊢
  have hr : ((i : Int)).tmod (n : Int) = ((i % n : Nat) : Int) := (Int.ofNat_tmod _ _).symm
  have hq : ((i : Int)).tdiv (n : Int) = ((i / n : Nat) : Int) := (Int.ofNat_tdiv _ _).symm
  have hle : i / n ≤ i := Nat.div_le_self _ _
  have hn0 : ¬ ((n : Int) = 0) := by omega
  have hnz : ¬ (n = 0) := by omega
  obtain ⟨q, hq'⟩ : ∃ q, i / n = q := ⟨_, rfl⟩
  obtain ⟨r, hr'⟩ : ∃ r, i % n = r := ⟨_, rfl⟩
  rw [hq'] at hq hle ⊢
  rw [hr'] at hr ⊢
  have hwq : wrap64 (q : Int) = (q : Int) := by unfold wrap64; omega
  have hlt := World.block_lt_of_cell? _ _ c0
  clear hg hn hr' hq'
  go_enter Try.func41, Try.ntmps41
  go_wp2_with fail
  go_region
  all_goals (
    go_wp2_with fail
    refine bodyPost_ret (v := .agg #[.int .i64 r, .int .i64 q]) (by simp [results, Try.results41, go_sem]) rfl ?_
    refine ⟨rfl, ?_⟩
    first
      | exact (Below.refl _ _).alloc (Nat.le_refl _) _
      | exact ((Below.refl _ _).alloc (Nat.le_refl _) _).drew
      | exact ((((Below.refl _ _).alloc (Nat.le_refl _) _).drew).setCell (by simp) _).setCell (by simp) _
      | trace_state)

theorem beside_any (c : Int × Int) (d : Nat) (hd : d < 8) (w : World) (h1 : -1000000 ≤ c.1) (h2 : c.1 ≤ 1000000) (h3 : -1000000 ≤ c.2) (h4 : c.2 ≤ 1000000) :
    Calls Try.prog 46 #[.agg #[.int .i64 c.1, .int .i64 c.2], .int .i64 d] w fun e w' => e = .returned (.agg #[.int .i64 (besideP c d).1, .int .i64 (besideP c d).2]) ∧ Below w.heap.size w w' := by
  obtain ⟨x, y⟩ := c
  dsimp only at *
  have hw1 : wrap64 (x + 1) = x + 1 := by unfold wrap64; omega
  have hw2 : wrap64 (y + 1) = y + 1 := by clear hw1; unfold wrap64; omega
  have hw3 : wrap64 (x - 1) = x - 1 := by clear hw1 hw2; unfold wrap64; omega
  have hw4 : wrap64 (y - 1) = y - 1 := by clear hw1 hw2 hw3; unfold wrap64; omega
  rcases (by omega : d = 0 ∨ d = 1 ∨ d = 2 ∨ d = 3 ∨ d = 4 ∨ d = 5 ∨ d = 6 ∨ d = 7) with rfl | rfl | rfl | rfl | rfl | rfl | rfl | rfl
  · clear hd
    go_enter Try.func46, Try.ntmps46
    go_wp2_with fail
    refine bodyPost_ret (v := .agg #[.int .i64 (x + 1), .int .i64 y]) (by simp [results, Try.results46, go_sem]) rfl ?_
    exact ⟨rfl, ((Below.refl _ _).alloc (Nat.le_refl _) _).alloc (by simp) _⟩
  · clear hd
    go_enter Try.func46, Try.ntmps46
    go_wp2_with fail
    refine bodyPost_ret (v := .agg #[.int .i64 x, .int .i64 (y + 1)]) (by simp [results, Try.results46, go_sem]) rfl ?_
    exact ⟨rfl, ((Below.refl _ _).alloc (Nat.le_refl _) _).alloc (by simp) _⟩
  · clear hd
    go_enter Try.func46, Try.ntmps46
    go_wp2_with fail
    refine bodyPost_ret (v := .agg #[.int .i64 (x - 1), .int .i64 y]) (by simp [results, Try.results46, go_sem]) rfl ?_
    exact ⟨rfl, ((Below.refl _ _).alloc (Nat.le_refl _) _).alloc (by simp) _⟩
  · clear hd
    go_enter Try.func46, Try.ntmps46
    go_wp2_with fail
    refine bodyPost_ret (v := .agg #[.int .i64 x, .int .i64 (y - 1)]) (by simp [results, Try.results46, go_sem]) rfl ?_
    exact ⟨rfl, ((Below.refl _ _).alloc (Nat.le_refl _) _).alloc (by simp) _⟩
  · clear hd
    go_enter Try.func46, Try.ntmps46
    go_wp2_with fail
    refine bodyPost_ret (v := .agg #[.int .i64 (x + 1), .int .i64 y]) (by simp [results, Try.results46, go_sem]) rfl ?_
    exact ⟨rfl, ((Below.refl _ _).alloc (Nat.le_refl _) _).alloc (by simp) _⟩
  · clear hd
    go_enter Try.func46, Try.ntmps46
    go_wp2_with fail
    refine bodyPost_ret (v := .agg #[.int .i64 x, .int .i64 (y + 1)]) (by simp [results, Try.results46, go_sem]) rfl ?_
    exact ⟨rfl, ((Below.refl _ _).alloc (Nat.le_refl _) _).alloc (by simp) _⟩
  · clear hd
    go_enter Try.func46, Try.ntmps46
    go_wp2_with fail
    refine bodyPost_ret (v := .agg #[.int .i64 (x - 1), .int .i64 y]) (by simp [results, Try.results46, go_sem]) rfl ?_
    exact ⟨rfl, ((Below.refl _ _).alloc (Nat.le_refl _) _).alloc (by simp) _⟩
  · clear hd
    go_enter Try.func46, Try.ntmps46
    go_wp2_with fail
    refine bodyPost_ret (v := .agg #[.int .i64 x, .int .i64 (y - 1)]) (by simp [results, Try.results46, go_sem]) rfl ?_
    exact ⟨rfl, ((Below.refl _ _).alloc (Nat.le_refl _) _).alloc (by simp) _⟩

theorem keep9 {w0 W w' : World} {a1 a2 a3 a4 a5 a6 a7 a8 : Addr} {v1 v2 v3 v4 v5 v6 v7 v8 : Value} (hb : Below W.heap.size W w') (hS : W.cell? a1 = some v1 ∧ W.cell? a2 = some v2 ∧ W.cell? a3 = some v3 ∧ W.cell? a4 = some v4 ∧ W.cell? a5 = some v5 ∧ W.cell? a6 = some v6 ∧ W.cell? a7 = some v7 ∧ W.cell? a8 = some v8 ∧ Hid (Below w0.heap.size w0 W)) :
    w'.cell? a1 = some v1 ∧ w'.cell? a2 = some v2 ∧ w'.cell? a3 = some v3 ∧ w'.cell? a4 = some v4 ∧ w'.cell? a5 = some v5 ∧ w'.cell? a6 = some v6 ∧ w'.cell? a7 = some v7 ∧ w'.cell? a8 = some v8 ∧ Hid (Below w0.heap.size w0 w') := by
  obtain ⟨h1, h2, h3, h4, h5, h6, h7, h8, h9⟩ := hS
  exact ⟨cell_below h1 hb, cell_below h2 hb, cell_below h3 hb, cell_below h4 hb, cell_below h5 hb, cell_below h6 hb, cell_below h7 hb, cell_below h8 hb, Lib.hid (h9.out.trans (hb.mono h9.out.size))⟩

end Go.Proofs.Ytpakkjkjppibnaa

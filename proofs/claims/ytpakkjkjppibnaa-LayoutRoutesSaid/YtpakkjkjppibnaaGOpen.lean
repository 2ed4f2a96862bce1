/- Layout: whether a cell is open. -/
import Derived.Test.YtpakkjkjppibnaaGGrid
import Derived.Test.YtpakkjkjppibnaaGQ
namespace Go.Proofs.Ytpakkjkjppibnaa
open Go.RowKit

theorem open_off (Bg : Nat) (g : Gr) (bl : Value) (sa : Option Addr) (sc : Nat) (c : Int × Int) (w : World) (hg : GridAt w Bg g bl sa sc) (hc : onP g.w g.h c = false) :
    Calls Try.prog 39 #[.pointer (some ⟨Bg, 0, none⟩), .agg #[.int .i64 c.1, .int .i64 c.2]] w fun e w' => e = .returned (.bool (openP g c)) ∧ Below w.heap.size w w' := by
  have HO : Hid (openP g c = false) := Lib.hid (by unfold openP; rw [hc]; rfl)
  obtain ⟨x, y⟩ := c
  have HC := Lib.hid (fun W => on_any g.w g.h g.move g.bend bl x y W (by omega) (by have := hg.w2; omega) (by omega) (by have := hg.h2; omega))
  rw [hc] at HC
  have hlt := World.block_lt_of_cell? _ _ hg.c0
  have HG := Lib.hid hg
  dsimp only at *
  clear hg hc
  go_enter Try.func39, Try.ntmps39
  go_wp2
  have hbW := (Below.refl w.heap.size w).alloc (Nat.le_refl _) (.cells #[.int .i64 x, .int .i64 y] 26)
  have d0 : (w.alloc (.cells #[.int .i64 x, .int .i64 y] 26)).cell? ⟨w.heap.size, 0, none⟩ = some (.int .i64 x) := World.cell?_alloc_at _ _ _ _ rfl
  have d1 : (w.alloc (.cells #[.int .i64 x, .int .i64 y] 26)).cell? ⟨w.heap.size, 1, none⟩ = some (.int .i64 y) := World.cell?_alloc_at _ _ _ _ rfl
  generalize hW : w.alloc (.cells #[.int .i64 x, .int .i64 y] 26) = W at *
  clear hW
  have hgW := HG.out.below hbW
  have e0 := fun x : Grow W => grow_cell hgW.c0 x
  have e1 := fun x : Grow W => grow_cell hgW.c1 x
  have e2 := fun x : Grow W => grow_cell hgW.c2 x
  have e3 := fun x : Grow W => grow_cell hgW.c3 x
  have e4 := fun x : Grow W => grow_cell hgW.c4 x
  have e6 := fun x : Grow W => grow_cell d0 x
  have e7 := fun x : Grow W => grow_cell d1 x
  clear d0 d1 hgW
  refine wp_region_grow (by kernel_rfl) (by kernel_rfl) ?_
  repeat (go_big_quiet_step (first | (go_at_call 54; refine grow_of (HC.out _))))
  refine wpQuiet_nil ?_
  intro _ hw'
  obtain ⟨xq, hw''⟩ := hw'
  subst hw''
  have hbq := grow_below xq
  go_wp2_with fail
  go_ret
  exact ⟨by rw [HO.out]; rfl, hbW.trans (hbq.mono hbW.size)⟩

theorem open_on (Bg : Nat) (g : Gr) (bl : Value) (sa : Option Addr) (sc : Nat) (c : Int × Int) (w : World) (hg : GridAt w Bg g bl sa sc) (hc : onP g.w g.h c = true) :
    Calls Try.prog 39 #[.pointer (some ⟨Bg, 0, none⟩), .agg #[.int .i64 c.1, .int .i64 c.2]] w fun e w' => e = .returned (.bool (openP g c)) ∧ Below w.heap.size w w' := by
  obtain ⟨j, hj⟩ : ∃ j : Nat, indexP g c = j := ⟨(indexP g c).toNat, by have := (Gr.small hg hc).2.2.2.2.1; omega⟩
  have hjl : j < g.w * g.h := by have := (Gr.small hg hc).2.2.2.2.2.1; rw [hj] at this; exact_mod_cast this
  have HO : Hid (openP g c = !(g.shut.getD j false)) := Lib.hid (by unfold openP; rw [hc, hj]; rfl)
  obtain ⟨b, off, hsa, hcs⟩ := hg.cs.cell (j := j) (by simp [bools, hg.len, hjl])
  subst hsa
  have hcell := hcs j _ (bools_getD (by rw [hg.len]; exact hjl))
  obtain ⟨s, hs⟩ : ∃ s, g.shut.getD j false = s := ⟨_, rfl⟩
  rw [hs] at hcell HO
  have HI := Lib.hid (fun (W : World) (h : Below w.heap.size w W) => index_any Bg g bl _ sc c W (hg.below h) hc)
  rw [hj] at HI
  obtain ⟨x, y⟩ := c
  have HC := Lib.hid (fun W => on_any g.w g.h g.move g.bend bl x y W (by omega) (by have := hg.w2; omega) (by omega) (by have := hg.h2; omega))
  rw [hc] at HC
  have hlt := World.block_lt_of_cell? _ _ hg.c0
  have HG := Lib.hid hg
  obtain ⟨N, hN⟩ : ∃ N, g.w * g.h = N := ⟨_, rfl⟩
  have c5 := hg.c5
  rw [hN] at hjl c5
  have hjl' : (j : Int) < (N : Int) := by omega
  have C5 := Lib.hid c5
  have CJ := Lib.hid hcell
  dsimp only at *
  clear hg hc hj hcs hs hN c5 hcell hjl
  go_enter Try.func39, Try.ntmps39
  go_wp2
  have hbW := (Below.refl w.heap.size w).alloc (Nat.le_refl _) (.cells #[.int .i64 x, .int .i64 y] 26)
  have d0 : (w.alloc (.cells #[.int .i64 x, .int .i64 y] 26)).cell? ⟨w.heap.size, 0, none⟩ = some (.int .i64 x) := World.cell?_alloc_at _ _ _ _ rfl
  have d1 : (w.alloc (.cells #[.int .i64 x, .int .i64 y] 26)).cell? ⟨w.heap.size, 1, none⟩ = some (.int .i64 y) := World.cell?_alloc_at _ _ _ _ rfl
  generalize hW : w.alloc (.cells #[.int .i64 x, .int .i64 y] 26) = W at *
  clear hW
  have hgW := HG.out.below hbW
  have e0 := fun x : Grow W => grow_cell hgW.c0 x
  have e1 := fun x : Grow W => grow_cell hgW.c1 x
  have e2 := fun x : Grow W => grow_cell hgW.c2 x
  have e3 := fun x : Grow W => grow_cell hgW.c3 x
  have e4 := fun x : Grow W => grow_cell hgW.c4 x
  have e5 := fun x : Grow W => grow_cell (cell_below C5.out hbW) x
  have e6 := fun x : Grow W => grow_cell d0 x
  have e7 := fun x : Grow W => grow_cell d1 x
  have e8 := fun x : Grow W => grow_cell (cell_below CJ.out hbW) x
  have HB := Lib.hid hbW
  clear d0 d1 hgW hbW
  refine wp_region_grow (by kernel_rfl) (by kernel_rfl) ?_
  repeat (go_big_quiet_step (first
    | (go_at_call 54; refine grow_of (HC.out _))
    | (go_at_call 47; refine grow_of (HI.out _ (HB.out.trans ((grow_below _).mono HB.out.size))))))
  refine wpQuiet_nil ?_
  intro _ hw'
  obtain ⟨xq, hw''⟩ := hw'
  subst hw''
  have hbq := grow_below xq
  go_wp2_with fail
  go_ret
  exact ⟨by rw [HO.out]; rfl, HB.out.trans (hbq.mono HB.out.size)⟩

theorem open_any (Bg : Nat) (g : Gr) (bl : Value) (sa : Option Addr) (sc : Nat) (c : Int × Int) (w : World) (hg : GridAt w Bg g bl sa sc) :
    Calls Try.prog 39 #[.pointer (some ⟨Bg, 0, none⟩), .agg #[.int .i64 c.1, .int .i64 c.2]] w fun e w' => e = .returned (.bool (openP g c)) ∧ Below w.heap.size w w' := by
  cases h : onP g.w g.h c with
  | false => exact open_off Bg g bl sa sc c w hg h
  | true => exact open_on Bg g bl sa sc c w hg h
end Go.Proofs.Ytpakkjkjppibnaa

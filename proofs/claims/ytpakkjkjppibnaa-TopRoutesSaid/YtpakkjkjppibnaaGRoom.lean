/- Layout: room beside a step, walked. -/
import Derived.Test.YtpakkjkjppibnaaGLongP
import Derived.Test.YtpakkjkjppibnaaGIdx
import Derived.Test.YtpakkjkjppibnaaGIns
import Derived.Test.YtpakkjkjppibnaaKCheck
namespace Go.Proofs.Ytpakkjkjppibnaa
open Go.RowKit

/-- a cell is not free: it is not open, or the path has it -/
def shutB (op : Ce → Bool) (p : List Ce) (c : Ce) : Bool := !op c || decide (c ∈ p)
theorem roomC (Bg : Nat) (g : Gr) (bl : Value) (sa : Option Addr) (sc : Nat) (p l : List Ce) (v : Value) (B1 B2 : Nat) (W : World) (hg : GridAt W Bg g bl sa sc) (hv : RdP W v p) (hn : p.length ≤ 4000000)
    (h0 : W.cell? ⟨B1, 0, none⟩ = some (.pointer (some ⟨Bg, 0, none⟩))) (h1 : W.cell? ⟨B2, 0, none⟩ = some v) :
    PredP 100 #[.pointer (some ⟨B1, 0, none⟩), .pointer (some ⟨B2, 0, none⟩)] l (fun j => shutB (openP g) p (l.getD j (0, 0))) W := fun V j x hx hb => by
  have e0 := cell_below h0 hb
  have e1 := cell_below h1 hb
  have hlt := World.block_lt_of_cell? _ _ e0
  have hlt1 := World.block_lt_of_cell? _ _ e1
  have hgx : l.getD j (0, 0) = x := by rw [List.getD_eq_getElem?_getD, hx]; rfl
  dsimp only
  rw [hgx]
  clear hgx
  obtain ⟨x, y⟩ := x
  show Calls Try.prog 100 #[.agg #[.int .i64 x, .int .i64 y], .pointer (some ⟨B1, 0, none⟩), .pointer (some ⟨B2, 0, none⟩)] V fun e w' => e = .returned (.bool (shutB (openP g) p (x, y))) ∧ Below V.heap.size V w'
  have HSH : Hid (shutB (openP g) p (x, y) = (!openP g (x, y) || decide ((x, y) ∈ p))) := Lib.hid rfl
  have hbx : Below V.heap.size V (V.alloc (.cells #[.int .i64 x, .int .i64 y] 26)) := (Below.refl V.heap.size V).alloc (Nat.le_refl _) _
  have k0 : (V.alloc (.cells #[.int .i64 x, .int .i64 y] 26)).cell? ⟨V.heap.size, 0, none⟩ = some (.int .i64 x) := World.cell?_alloc_at _ _ _ _ rfl
  have k1 : (V.alloc (.cells #[.int .i64 x, .int .i64 y] 26)).cell? ⟨V.heap.size, 1, none⟩ = some (.int .i64 y) := World.cell?_alloc_at _ _ _ _ rfl
  have HK0 := Lib.hid k0
  have HK1 := Lib.hid k1
  have HE1 := Lib.hid (cell_below e1 hbx)
  have HO := Lib.hid (open_any Bg g bl sa sc (x, y) (V.alloc (.cells #[.int .i64 x, .int .i64 y] 26)) ((hg.below hb).below hbx))
  have HCO := Lib.hid (fun U (hU : RdP U v p) => contains_xy p v x y U hU hn)
  have HV1 := Lib.hid ((hv.below hb).below hbx)
  have HBW := Lib.hid hbx
  obtain ⟨a, cap, rfl, hc, hcm, ha, _⟩ := hv
  obtain ⟨t, ht⟩ : ∃ t, openP g (x, y) = t := ⟨_, rfl⟩
  obtain ⟨m, hm⟩ : ∃ m, decide ((x, y) ∈ p) = m := ⟨_, rfl⟩
  rw [ht, hm] at HSH
  rw [ht] at HO
  rw [hm] at HCO
  clear h0 h1 hx hb hg hbx ha ht hm k0 k1
  cases t with
  | true =>
    go_enter Try.func100, Try.ntmps100
    go_wp2_with (first
      | (go_at_call 39; refine HO.out.mono ?_; rintro e w1 ⟨rfl, hb1⟩; have HB1 := Lib.hid hb1; have f0 := cell_below HK0.out hb1; have f1 := cell_below HK1.out hb1; have f2 := cell_below HE1.out hb1; have g0 := World.block_lt_of_cell? _ _ f0; have g2 := World.block_lt_of_cell? _ _ f2; clear hb1)
      | (go_at_call 101; refine (HCO.out _ (HV1.out.below HB1.out)).mono ?_; rintro e w2 ⟨rfl, hb2⟩))
    go_ret
    exact ⟨by rw [HSH.out]; rfl, HBW.out.trans ((HB1.out.trans (hb2.mono HB1.out.size)).mono HBW.out.size)⟩
  | false =>
    go_enter Try.func100, Try.ntmps100
    go_wp2_with (go_at_call 39; refine HO.out.mono ?_; rintro e w1 ⟨rfl, hb1⟩; have HB1 := Lib.hid hb1; clear hb1)
    go_ret
    exact ⟨by rw [HSH.out]; rfl, HBW.out.trans (HB1.out.mono HBW.out.size)⟩

theorem free_two (op : Ce → Bool) (p : List Ce) (x y : Ce) : (List.range [x, y].length).any (fun j => shutB op p ([x, y].getD j (0, 0))) = !(op x && decide (x ∉ p) && (op y && decide (y ∉ p))) := by
  show (List.range 2).any _ = _
  rw [show List.range 2 = [0, 1] from rfl]
  simp only [List.any_cons, List.any_nil, Bool.or_false]
  show (shutB op p x || shutB op p y) = _
  unfold shutB
  by_cases hx : x ∈ p <;> by_cases hy : y ∈ p <;> cases op x <;> cases op y <;> simp [hx, hy]

set_option maxRecDepth 100000 in
set_option maxHeartbeats 1000000 in
theorem room_any (Bg : Nat) (g : Gr) (bl : Value) (sa : Option Addr) (sc : Nat) (p : List Ce) (v : Value) (i s : Nat) (w : World) (hg : GridAt w Bg g bl sa sc) (hv : RdP w v p) (hw : WfL p) (hn : p.length ≤ 4000000) (hi : i + 1 < p.length) (hs : s = 1 ∨ s = 3)
    (hadj : adjB (p.getD i (0, 0)) (p.getD (i + 1) (0, 0)) = true) (hop : ∀ c ∈ p, -1000 ≤ c.1 ∧ c.1 ≤ 1000 ∧ -1000 ≤ c.2 ∧ c.2 ≤ 1000) :
    Calls Try.prog 89 #[.pointer (some ⟨Bg, 0, none⟩), v, .int .i64 i, .int .i64 s] w fun e w' => ∃ vb, e = .returned (.tuple #[.slice (some ⟨vb, 0, none⟩) 2 2, .bool (roomP (openP g) p i (towD (p.getD i (0, 0)) (p.getD (i + 1) (0, 0)) + s))]) ∧ w.heap.size ≤ vb ∧
      w'.heap[vb]? = some (.cells #[.int .i64 (besideP (p.getD i (0, 0)) (towD (p.getD i (0, 0)) (p.getD (i + 1) (0, 0)) + s)).1, .int .i64 (besideP (p.getD i (0, 0)) (towD (p.getD i (0, 0)) (p.getD (i + 1) (0, 0)) + s)).2, .int .i64 (besideP (p.getD (i + 1) (0, 0)) (towD (p.getD i (0, 0)) (p.getD (i + 1) (0, 0)) + s)).1, .int .i64 (besideP (p.getD (i + 1) (0, 0)) (towD (p.getD i (0, 0)) (p.getD (i + 1) (0, 0)) + s)).2] 26) ∧ Below w.heap.size w w' := by
  obtain ⟨x1, hx1⟩ : ∃ x, p[i]? = some x := ⟨_, List.getElem?_eq_getElem (by omega)⟩
  obtain ⟨x2, hx2⟩ : ∃ x, p[i + 1]? = some x := ⟨_, List.getElem?_eq_getElem hi⟩
  have g1 : p.getD i (0, 0) = x1 := by rw [List.getD_eq_getElem?_getD, hx1]; rfl
  have g2 : p.getD (i + 1) (0, 0) = x2 := by rw [List.getD_eq_getElem?_getD, hx2]; rfl
  have hb1 := hop x1 (List.mem_of_getElem? hx1)
  have hb2 := hop x2 (List.mem_of_getElem? hx2)
  have hwf1 := hw x1 (List.mem_of_getElem? hx1)
  have hwf2 := hw x2 (List.mem_of_getElem? hx2)
  have HRP : Hid (roomP (openP g) p i (towD x1 x2 + s) = (openP g (besideP x1 (towD x1 x2 + s)) && decide (besideP x1 (towD x1 x2 + s) ∉ p) && (openP g (besideP x2 (towD x1 x2 + s)) && decide (besideP x2 (towD x1 x2 + s) ∉ p)))) := Lib.hid (by unfold roomP; rw [g1, g2])
  rw [g1, g2] at hadj ⊢
  have hta : towA x1 x2 = ((towD x1 x2 : Int), true) := by unfold towA; rw [if_pos hadj]
  have htl := towD_lt x1 x2
  have HV := Lib.hid hv
  obtain ⟨a, cap, rfl, hc, hcm, ha, _⟩ := hv
  obtain ⟨b, off, rfl, e1, e2⟩ := RdP.cell ha hx1
  obtain ⟨b', off', e', e3, e4⟩ := RdP.cell ha hx2
  cases e'
  have HG := Lib.hid hg
  have HNN := Lib.hid hn
  have HTW := Lib.hid (fun V => toward_any x1.1 x1.2 x2.1 x2.2 V hwf1.1 hwf1.2 hwf2.1 hwf2.2)
  rw [hta] at HTW
  obtain ⟨d, hd⟩ : ∃ d, towD x1 x2 = d := ⟨_, rfl⟩
  rw [hd] at htl HTW HRP ⊢
  have HB1 := Lib.hid (fun V => beside_any x1 (d + s) (by rcases hs with rfl | rfl <;> omega) V (by omega) (by omega) (by omega) (by omega))
  have HB2 := Lib.hid (fun V => beside_any x2 (d + s) (by rcases hs with rfl | rfl <;> omega) V (by omega) (by omega) (by omega) (by omega))
  obtain ⟨y1, hy1⟩ : ∃ y, besideP x1 (d + s) = y := ⟨_, rfl⟩
  obtain ⟨y2, hy2⟩ : ∃ y, besideP x2 (d + s) = y := ⟨_, rfl⟩
  rw [hy1] at HB1
  rw [hy2] at HB2
  rw [hy1, hy2] at HRP ⊢
  have hds : d + s ≤ 6 := by rcases hs with rfl | rfl <;> omega
  have hw1 : IntKind.i64.wrap ((d : Int) + (s : Int)) = ((d + s : Nat) : Int) := by rw [show (d : Int) + (s : Int) = ((d + s : Nat) : Int) by omega]; exact IntWalk.i64_in _ ⟨by omega, by omega⟩
  obtain ⟨ds, hds2⟩ : ∃ ds, d + s = ds := ⟨_, rfl⟩
  rw [hds2] at HB1 HB2 hw1 hds
  clear hds2
  have hw2 : IntKind.i64.wrap ((i : Int) + 1) = ((i + 1 : Nat) : Int) := by rw [show (i : Int) + 1 = ((i + 1 : Nat) : Int) by omega]; exact IntWalk.i64_in _ ⟨by omega, by omega⟩
  obtain ⟨i1, hi1⟩ : ∃ i1, i + 1 = i1 := ⟨_, rfl⟩
  rw [hi1] at e3 e4 hw2 hi
  have hii : i < p.length := by omega
  obtain ⟨n, hnn⟩ : ∃ n, p.length = n := ⟨_, rfl⟩
  have HN := Lib.hid hnn
  rw [hnn] at hi hii hc HV ⊢
  clear hx1 hx2 g1 g2 hb1 hb2 hwf1 hwf2 hadj hta hop hw ha hd hs hy1 hy2 hi1 hnn hg hn
  obtain ⟨x1, x1'⟩ := x1
  obtain ⟨x2, x2'⟩ := x2
  obtain ⟨y1, y1'⟩ := y1
  obtain ⟨y2, y2'⟩ := y2
  dsimp only at *
  have hbw : Below w.heap.size w ((w.alloc (.cells #[.pointer (some ⟨Bg, 0, none⟩)] 66)).alloc (.cells #[.slice (some ⟨b, off, none⟩) n cap] 22)) := ((Below.refl _ _).alloc (Nat.le_refl _) _).alloc (by simp) _
  have q1 : ((w.alloc (.cells #[.pointer (some ⟨Bg, 0, none⟩)] 66)).alloc (.cells #[.slice (some ⟨b, off, none⟩) n cap] 22)).cell? ⟨w.heap.size, 0, none⟩ = some (.pointer (some ⟨Bg, 0, none⟩)) := cell_alloc (World.cell?_alloc_at _ _ _ _ rfl) _
  have q2 : ((w.alloc (.cells #[.pointer (some ⟨Bg, 0, none⟩)] 66)).alloc (.cells #[.slice (some ⟨b, off, none⟩) n cap] 22)).cell? ⟨w.heap.size + 1, 0, none⟩ = some (.slice (some ⟨b, off, none⟩) n cap) := World.cell?_alloc_at _ _ _ _ (by simp)
  obtain ⟨w1, hw1'⟩ : ∃ w1, (w.alloc (.cells #[.pointer (some ⟨Bg, 0, none⟩)] 66)).alloc (.cells #[.slice (some ⟨b, off, none⟩) n cap] 22) = w1 := ⟨_, rfl⟩
  have HW1 := Lib.hid hw1'
  rw [hw1'] at hbw q1 q2
  have HBW := Lib.hid hbw
  have HQ1 := Lib.hid q1
  have HQ2 := Lib.hid q2
  have HE1 := Lib.hid (cell_below e1 hbw)
  have HE2 := Lib.hid (cell_below e2 hbw)
  have HE3 := Lib.hid (cell_below e3 hbw)
  have HE4 := Lib.hid (cell_below e4 hbw)
  clear hbw q1 q2 e1 e2 e3 e4 hw1'
  go_enter Try.func89, Try.ntmps89
  go_wp2_with fail
  rw [HW1.out]
  have k0 := fun x : Grow w1 => grow_cell HQ2.out x
  have k1 := fun x : Grow w1 => grow_cell HE1.out x
  have k2 := fun x : Grow w1 => grow_cell HE2.out x
  have k3 := fun x : Grow w1 => grow_cell HE3.out x
  have k4 := fun x : Grow w1 => grow_cell HE4.out x
  refine wp_region_grow (by kernel_rfl) (by kernel_rfl) ?_
  repeat (go_big_quiet_step (first | (go_at_call 87; refine grow_of (HTW.out _))))
  refine wpQuiet_nil ?_
  intro _ hw'
  obtain ⟨xq, hw''⟩ := hw'
  subst hw''
  have HB6 := Lib.hid (grow_below xq)
  clear k0 k1 k2 k3 k4
  generalize grow xq = w6 at *
  go_wp2_with fail
  have k0 := fun x : Grow w6 => grow_cell (cell_below HQ2.out HB6.out) x
  have k1 := fun x : Grow w6 => grow_cell (cell_below HE1.out HB6.out) x
  have k2 := fun x : Grow w6 => grow_cell (cell_below HE2.out HB6.out) x
  have k3 := fun x : Grow w6 => grow_cell (cell_below HE3.out HB6.out) x
  have k4 := fun x : Grow w6 => grow_cell (cell_below HE4.out HB6.out) x
  refine wp_region_growTail 17 (by kernel_rfl) (by kernel_rfl) ?_
  simp only [List.take_succ_cons, List.take_zero, List.drop_succ_cons, List.drop_zero]
  repeat (go_big_quiet_step (first | (go_at_call 46; (with_reducible refine grow_of (HB1.out _))) | (go_at_call 46; (with_reducible refine grow_of (HB2.out _)))))
  refine wpQuiet_nil ?_
  intro _ hw'
  obtain ⟨xr, hw''⟩ := hw'
  subst hw''
  have HB7 := Lib.hid (grow_below xr)
  clear k0 k1 k2 k3 k4
  generalize grow xr = w7 at *
  obtain ⟨T, hT⟩ : ∃ T, (openP g (y1, y1') && decide ((y1, y1') ∉ p) && (openP g (y2, y2') && decide ((y2, y2') ∉ p))) = T := ⟨_, rfl⟩
  have HFT : Hid ((List.range [(y1, y1'), (y2, y2')].length).any (fun j => shutB (openP g) p ([(y1, y1'), (y2, y2')].getD j (0, 0))) = !T) := Lib.hid (by rw [free_two, hT])
  rw [hT] at HRP
  have hb8 : Below w7.heap.size w7 (w7.alloc (.cells #[.int .i64 y1, .int .i64 y1', .int .i64 y2, .int .i64 y2'] 26)) := (Below.refl _ _).alloc (Nat.le_refl _) _
  have hb67 := HB6.out.trans (HB7.out.mono HB6.out.size)
  have hb18 := hb67.trans (hb8.mono hb67.size)
  have hbw8 := HBW.out.trans (hb18.mono HBW.out.size)
  have eg : ∀ args w, (callFunc 100 args).run Try.prog w = .ok (.enter 100 args) w := enters_of Try.func100 (by kernel_rfl) rfl
  have HCF := Lib.hid (has_xy (fun j => shutB (openP g) p ([(y1, y1'), (y2, y2')].getD j (0, 0))) 100 #[.pointer (some ⟨w.heap.size, 0, none⟩), .pointer (some ⟨w.heap.size + 1, 0, none⟩)] eg [(y1, y1'), (y2, y2')] (.slice (some ⟨w7.heap.size, 0, none⟩) 2 2) (w7.alloc (.cells #[.int .i64 y1, .int .i64 y1', .int .i64 y2, .int .i64 y2'] 26))
    (roomC Bg g bl sa sc p [(y1, y1'), (y2, y2')] (.slice (some ⟨b, off, none⟩) n cap) w.heap.size (w.heap.size + 1) _ (HG.out.below hbw8) (HV.out.below hbw8) HNN.out (cell_below HQ1.out hb18) (cell_below HQ2.out hb18))
    (RdP.own (own_lit2 w7 w7.heap.size 26 #[.int .i64 y1, .int .i64 y1', .int .i64 y2, .int .i64 y2'] 2 (Nat.le_refl _) rfl (by decide)) rfl) (by simp) (!T) HFT.out)
  have HB8 := Lib.hid hb8
  have HBW8 := Lib.hid hbw8
  have HB67 := Lib.hid hb67
  clear hT eg hb8 hb18 hbw8 hb67 HTW HB1 HB2
  go_wp2_with (go_at_call 59; (with_reducible refine HCF.out.mono ?_); rintro e w9 ⟨rfl, hb9⟩)
  go_ret2
  have hlt : w7.heap.size < (w7.alloc (.cells #[.int .i64 y1, .int .i64 y1', .int .i64 y2, .int .i64 y2'] 26)).heap.size := by simp
  refine ⟨w7.heap.size, by rw [HRP.out]; simp, ?_, (hb9.block _ hlt).trans (heap_alloc_new w7 _), HBW8.out.trans (hb9.mono HBW8.out.size)⟩
  exact Nat.le_trans HBW.out.size HB67.out.size
end Go.Proofs.Ytpakkjkjppibnaa

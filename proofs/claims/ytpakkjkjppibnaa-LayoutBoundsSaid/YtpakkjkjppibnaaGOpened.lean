/- Layout: a grid that is opened. -/
import Derived.Test.YtpakkjkjppibnaaKPairs
namespace Go.Proofs.Ytpakkjkjppibnaa
open Go.RowKit

/-- the cells that are shut when k of the list are laid -/
def shutP (w n : Nat) (bl : List (Int × Int)) (k : Nat) : List Bool := (bl.take k).foldl (fun (s : List Bool) (c : Int × Int) => s.set (c.2 * (w : Int) + c.1).toNat true) (List.replicate n false)
theorem shutP_succ {w n : Nat} {bl : List (Int × Int)} {k : Nat} {x : Int × Int} (h : bl[k]? = some x) : shutP w n bl (k + 1) = (shutP w n bl k).set (x.2 * (w : Int) + x.1).toNat true := by
  unfold shutP
  rw [List.take_add_one, h, List.foldl_append]; rfl
theorem shutP_len (w n : Nat) (bl : List (Int × Int)) (k : Nat) : (shutP w n bl k).length = n := by
  unfold shutP
  generalize bl.take k = l
  suffices ∀ s : List Bool, s.length = n → (l.foldl (fun (s : List Bool) (c : Int × Int) => s.set (c.2 * (w : Int) + c.1).toNat true) s).length = n from this _ (by simp)
  induction l with
  | nil => exact fun s h => h
  | cons x l ih => exact fun s h => ih _ (by simpa using h)
def grK (w h : Nat) (mv bd : Int) (bl : List (Int × Int)) (k : Nat) : Gr := ⟨w, h, mv, bd, shutP w (w * h) bl k⟩
/-- the grid that is opened -/
def grP (w h : Int) (mv bd : Int) (bl : List (Int × Int)) : Gr := grK w.toNat h.toNat mv bd bl bl.length
theorem bools_set (l : List Bool) (i : Nat) (x : Bool) : (bools l).set i (.bool x) = bools (l.set i x) := by simp [bools]
theorem el_bool : ElemK Try.prog 82 4 (.bool false) 1 1 :=
  ⟨by kernel_rfl, info_parts (by kernel_rfl), by rfl, by decide, by decide⟩
theorem made_bools (n : Nat) : (madeCells #[.bool false] (n * 1)).toList = bools (List.replicate n false) := by
  apply List.ext_getElem
  · simp [madeCells, bools]
  · intro j h1 h2
    simp [madeCells, bools, Nat.mod_one]
theorem own_bools {W : World} {B N : Nat} {e : TypeId} {sb : Nat} {l : List Bool} (h : W.ownsRow B e 1 (.slice (some ⟨sb, 0, none⟩) N N) N (bools l)) : CellsAt W (some ⟨sb, 0, none⟩) (bools l) := by
  obtain ⟨a, cap, e1, _, _, h3, _⟩ := Rd.own h
  injection e1 with e1
  subst e1
  exact h3
theorem GridAt.store {W : World} {Bg sb N j : Nat} {w h : Nat} {mv bd : Int} {bl : List (Int × Int)} {k : Nat} {bv : Value} (hg : GridAt W Bg (grK w h mv bd bl k) bv (some ⟨sb, 0, none⟩) N) {B : Nat} {e : TypeId}
    (ho : W.ownsRow B e 1 (.slice (some ⟨sb, 0, none⟩) N N) N (bools (shutP w (w * h) bl k))) (hne : sb ≠ Bg) {x : Int × Int} (hx : bl[k]? = some x) (hj : (x.2 * (w : Int) + x.1).toNat = j) :
    GridAt (W.setCell ⟨sb, j, none⟩ (.bool true)) Bg (grK w h mv bd bl (k + 1)) bv (some ⟨sb, 0, none⟩) N ∧ (W.setCell ⟨sb, j, none⟩ (.bool true)).ownsRow B e 1 (.slice (some ⟨sb, 0, none⟩) N N) N (bools (shutP w (w * h) bl (k + 1))) := by
  have h5 := (ho.stored j (.bool true)).1
  rw [bools_set, ← hj, ← shutP_succ hx, hj] at h5
  have hf : ∀ i, (W.setCell ⟨sb, j, none⟩ (.bool true)).cell? ⟨Bg, i, none⟩ = W.cell? ⟨Bg, i, none⟩ := fun i => World.cell?_setCell_far W ⟨sb, j, none⟩ ⟨Bg, i, none⟩ (.bool true) hne
  exact ⟨⟨(hf 0).trans hg.c0, (hf 1).trans hg.c1, (hf 2).trans hg.c2, (hf 3).trans hg.c3, (hf 4).trans hg.c4, (hf 5).trans hg.c5, own_bools h5, shutP_len _ _ _ _, hg.w1, hg.w2, hg.h1, hg.h2, hg.m1, hg.m2, hg.b1, hg.b2⟩, h5⟩

theorem makeB_run (N : Nat) (hN : N ≤ 900) : ∃ Z : Array Value, (∀ W : World, (Instr.makeSlice 82 (.int .i64 (N : Int)) (.int .i64 (N : Int))).run Try.prog W = .ok (.slice (some ⟨W.heap.size, 0, none⟩) N N) (W.alloc (.cells Z 4))) ∧
    ∀ W : World, (W.alloc (.cells Z 4)).ownsRow W.heap.size 4 1 (.slice (some ⟨W.heap.size, 0, none⟩) N N) N (bools (List.replicate N false)) := by
  obtain ⟨i, hi, hz, hsz, hby⟩ := el_bool.info
  refine ⟨madeCells (Value.bool false).cells (N * 1), fun W => ?_, fun W => ?_⟩
  · have := run_makeSlice (P := Try.prog) (w := W) 82 4 i (.bool false) el_bool.und hi hz .i64 .i64 N N (by omega) (Int.le_refl _) (by rw [hsz]; simp; omega) (by rw [hby]; omega) (by omega)
    rw [this, hsz]
    rfl
  · have e1 : (madeCells (Value.bool false).cells (N * 1)).toList = bools (List.replicate N false) := made_bools N
    have e2 : (madeCells (Value.bool false).cells (N * 1)).size = N := by
      have : (madeCells (Value.bool false).cells (N * 1)).toList.length = N := by rw [e1]; simp [bools]
      simpa using this
    have := own_lit W W.heap.size 4 (madeCells (Value.bool false).cells (N * 1)) N (Nat.le_refl _) e2 (by unfold maxLen; omega)
    rwa [e1] at this

set_option maxRecDepth 100000 in
theorem opened_bad (w h mv bd : Int) (bv : Value) (bl : List (Int × Int)) (W : World) (hv : RdP W bv bl) (hb : validP w h mv bd bl = false) :
    Calls Try.prog 38 #[.agg #[.int .i64 w, .int .i64 h, .int .i64 mv, .int .i64 bd, bv]] W fun e w' => e = .returned (.tuple #[.pointer none, .int .i64 70]) ∧ Below W.heap.size W w' := by
  have hbW := Lib.hid ((Below.refl W.heap.size W).alloc (Nat.le_refl _) (.cells #[.int .i64 w, .int .i64 h, .int .i64 mv, .int .i64 bd, bv] 24))
  have HVA := Lib.hid (fun V (hV : Below W.heap.size W V) => valid_any w h mv bd bv bl V (hv.below hV))
  rw [hb] at HVA
  obtain ⟨a, cap, rfl, hc, hcm, _, _⟩ := hv
  clear hb
  go_enter Try.func38, Try.ntmps38
  go_wp2_with (go_at_call 75; (with_reducible refine (HVA.out _ hbW.out).mono ?_); rintro e w1 ⟨rfl, hb1⟩)
  go_ret2
  exact ⟨rfl, hbW.out.trans (hb1.mono (by simp))⟩

set_option maxRecDepth 100000 in
theorem opened_ok (w h : Nat) (mv bd : Int) (bv : Value) (bl : List (Int × Int)) (W : World) (hv : RdP W bv bl) (hb : validP w h mv bd bl = true) :
    Calls Try.prog 38 #[.agg #[.int .i64 w, .int .i64 h, .int .i64 mv, .int .i64 bd, bv]] W fun e w' => ∃ Bg sb, e = .returned (.tuple #[.pointer (some ⟨Bg, 0, none⟩), .int .i64 0]) ∧ GridAt w' Bg (grK w h mv bd bl bl.length) bv (some ⟨sb, 0, none⟩) (w * h) ∧ Below W.heap.size W w' := by
  have hbW := Lib.hid ((Below.refl W.heap.size W).alloc (Nat.le_refl _) (.cells #[.int .i64 w, .int .i64 h, .int .i64 mv, .int .i64 bd, bv] 24))
  have hp := hb
  unfold validP inB at hp
  simp at hp
  obtain ⟨⟨⟨⟨⟨⟨w1, w2⟩, h1, h2⟩, m1, m2⟩, b1, b2⟩, hl⟩, hon⟩ := hp
  have HB := Lib.hid (show (1 ≤ w ∧ w ≤ 30 ∧ 1 ≤ h ∧ h ≤ 30) ∧ 1 ≤ mv ∧ mv ≤ 1000 ∧ 0 ≤ bd ∧ bd ≤ 1000 from ⟨⟨by omega, by omega, by omega, by omega⟩, m1, m2, b1, b2⟩)
  have HVA := Lib.hid (fun V (hV : Below W.heap.size W V) => valid_any w h mv bd bv bl V (hv.below hV))
  rw [hb] at HVA
  have HON := Lib.hid hon
  have HV := Lib.hid hv
  obtain ⟨a, cap, rfl, hc, hcm, ha, _⟩ := hv
  obtain ⟨n, hn⟩ : ∃ n, bl.length = n := ⟨_, rfl⟩
  have HNL := Lib.hid hn
  obtain ⟨N, hN⟩ : ∃ N, w * h = N := ⟨_, rfl⟩
  have HN := Lib.hid hN
  have hN9 : 1 ≤ N ∧ N ≤ 900 := by rw [← hN]; exact ⟨Nat.mul_le_mul (by omega : 1 ≤ w) (by omega : 1 ≤ h), Nat.mul_le_mul (by omega : w ≤ 30) (by omega : h ≤ 30)⟩
  have HNI : Hid ((w : Int) * (h : Int) = (N : Int)) := Lib.hid (by rw [← hN]; simp)
  rw [hn] at hc hl hbW HVA ⊢
  rw [hN]
  clear hb hon w1 w2 h1 h2 m1 m2 b1 b2 hn hN
  go_enter Try.func38, Try.ntmps38
  go_wp2_with (go_at_call 75; (with_reducible refine (HVA.out _ hbW.out).mono ?_); rintro e w1 ⟨rfl, hb1⟩)
  have HB1 := Lib.hid (hbW.out.trans (hb1.mono (by simp)))
  have g0 : w1.cell? ⟨W.heap.size, 0, none⟩ = some (.int .i64 w) := cell_below (World.cell?_alloc_at _ _ _ _ rfl) hb1
  have g1 : w1.cell? ⟨W.heap.size, 1, none⟩ = some (.int .i64 h) := cell_below (World.cell?_alloc_at _ _ _ _ rfl) hb1
  have g2 : w1.cell? ⟨W.heap.size, 2, none⟩ = some (.int .i64 mv) := cell_below (World.cell?_alloc_at _ _ _ _ rfl) hb1
  have g3 : w1.cell? ⟨W.heap.size, 3, none⟩ = some (.int .i64 bd) := cell_below (World.cell?_alloc_at _ _ _ _ rfl) hb1
  have g4 : w1.cell? ⟨W.heap.size, 4, none⟩ = some (.slice a n cap) := cell_below (World.cell?_alloc_at _ _ _ _ rfl) hb1
  have G4 := Lib.hid g4
  have hNi := HNI.out
  have hwN : IntKind.i64.wrap (N : Int) = (N : Int) := IntWalk.i64_in _ (by clear hNi; omega)
  have q0 : ∀ V : World, Hid (Below w1.heap.size w1 V) → V.cell? ⟨W.heap.size, 0, none⟩ = some (.int .i64 w) := fun V h => cell_below g0 h.out
  have q1 : ∀ V : World, Hid (Below w1.heap.size w1 V) → V.cell? ⟨W.heap.size, 1, none⟩ = some (.int .i64 h) := fun V h => cell_below g1 h.out
  have q2 : ∀ V : World, Hid (Below w1.heap.size w1 V) → V.cell? ⟨W.heap.size, 2, none⟩ = some (.int .i64 mv) := fun V h => cell_below g2 h.out
  have q3 : ∀ V : World, Hid (Below w1.heap.size w1 V) → V.cell? ⟨W.heap.size, 3, none⟩ = some (.int .i64 bd) := fun V h => cell_below g3 h.out
  have q4 : ∀ V : World, Hid (Below w1.heap.size w1 V) → V.cell? ⟨W.heap.size, 4, none⟩ = some (.slice a n cap) := fun V h => cell_below g4 h.out
  obtain ⟨Z, hmk, hZ⟩ := makeB_run N (by omega)
  have HZ := Lib.hid hZ
  clear g0 g1 g2 g3 g4 hb1 hZ
  go_region_held3 (fun w' => Hid (Below w1.heap.size w1 w'))
    (first | exact Lib.hid (Below.refl _ _).drew | exact heldA _ (by assumption))
    (fail)
  clear q0 q1 q2 q3 q4 hmk hNi hwN
  have HST : Hid (GridAt ((w1.alloc (.cells Z 4)).alloc (.cells #[.int .i64 w, .int .i64 h, .int .i64 mv, .int .i64 bd, .slice a n cap, .slice (some ⟨w1.heap.size, 0, none⟩) N N] 84)).drew (w1.heap.size + 1) (grK w h mv bd bl 0) (.slice a n cap) (some ⟨w1.heap.size, 0, none⟩) N
      ∧ ((w1.alloc (.cells Z 4)).alloc (.cells #[.int .i64 w, .int .i64 h, .int .i64 mv, .int .i64 bd, .slice a n cap, .slice (some ⟨w1.heap.size, 0, none⟩) N N] 84)).drew.ownsRow w1.heap.size 4 1 (.slice (some ⟨w1.heap.size, 0, none⟩) N N) N (bools (shutP w N bl 0))
      ∧ Below w1.heap.size w1 ((w1.alloc (.cells Z 4)).alloc (.cells #[.int .i64 w, .int .i64 h, .int .i64 mv, .int .i64 bd, .slice a n cap, .slice (some ⟨w1.heap.size, 0, none⟩) N N] 84)).drew) := by
    have ho := (HZ.out w1).alloc (.cells #[.int .i64 w, .int .i64 h, .int .i64 mv, .int .i64 bd, .slice a n cap, .slice (some ⟨w1.heap.size, 0, none⟩) N N] 84)
    have es : (w1.alloc (.cells Z 4)).heap.size = w1.heap.size + 1 := by simp
    have hb0 : Below w1.heap.size w1 (w1.alloc (.cells Z 4)) := (Below.refl _ _).alloc (Nat.le_refl _) _
    obtain ⟨⟨w1', w2', h1', h2'⟩, m1', m2', b1', b2'⟩ := HB.out
    have hN' := HN.out
    have hcc : ∀ i v, (#[Value.int .i64 w, .int .i64 h, .int .i64 mv, .int .i64 bd, .slice a n cap, .slice (some ⟨w1.heap.size, 0, none⟩) N N] : Array Value)[i]? = some v → ((w1.alloc (.cells Z 4)).alloc (.cells #[.int .i64 w, .int .i64 h, .int .i64 mv, .int .i64 bd, .slice a n cap, .slice (some ⟨w1.heap.size, 0, none⟩) N N] 84)).cell? ⟨w1.heap.size + 1, i, none⟩ = some v := fun i v hi => by
      rw [← es]; exact (World.cell?_alloc_at _ _ _ _ rfl).trans hi
    have hd : Below ((w1.alloc (.cells Z 4)).alloc (.cells #[.int .i64 w, .int .i64 h, .int .i64 mv, .int .i64 bd, .slice a n cap, .slice (some ⟨w1.heap.size, 0, none⟩) N N] 84)).heap.size ((w1.alloc (.cells Z 4)).alloc (.cells #[.int .i64 w, .int .i64 h, .int .i64 mv, .int .i64 bd, .slice a n cap, .slice (some ⟨w1.heap.size, 0, none⟩) N N] 84)) ((w1.alloc (.cells Z 4)).alloc (.cells #[.int .i64 w, .int .i64 h, .int .i64 mv, .int .i64 bd, .slice a n cap, .slice (some ⟨w1.heap.size, 0, none⟩) N N] 84)).drew := (Below.refl _ _).drew
    refine Lib.hid ⟨GridAt.below (W := ((w1.alloc (.cells Z 4)).alloc (.cells #[.int .i64 w, .int .i64 h, .int .i64 mv, .int .i64 bd, .slice a n cap, .slice (some ⟨w1.heap.size, 0, none⟩) N N] 84))) ⟨hcc 0 _ rfl, hcc 1 _ rfl, hcc 2 _ rfl, hcc 3 _ rfl, hcc 4 _ rfl, ?_, ?_, ?_, w1', w2', h1', h2', m1', m2', b1', b2'⟩ hd, own_below ho hd, (hb0.alloc (by rw [es]; omega) _).drew⟩
    · have := hcc 5 _ rfl
      rw [← hN'] at this
      rw [← hN']; exact this
    · have := own_bools ho
      show CellsAt _ _ (bools (shutP w (w * h) bl 0))
      rw [hN']; exact this
    · exact shutP_len _ _ _ _
  generalize ((w1.alloc (.cells Z 4)).alloc (.cells #[.int .i64 w, .int .i64 h, .int .i64 mv, .int .i64 bd, .slice a n cap, .slice (some ⟨w1.heap.size, 0, none⟩) N N] 84)).drew = W2 at *
  have hne : w1.heap.size ≠ w1.heap.size + 1 := by omega
  generalize w1.heap.size + 1 = Bg at *
  have HNE := Lib.hid hne
  have g4 := cell_below G4.out HST.out.2.2
  clear hne HZ
  go_wp2_with fail
  go_loopw [22] (fun p wr => ∃ k : Nat, k ≤ n ∧ p = .int .i64 k ∧ Hid (GridAt wr Bg (grK w h mv bd bl k) (.slice a n cap) (some ⟨w1.heap.size, 0, none⟩) N ∧ wr.ownsRow w1.heap.size 4 1 (.slice (some ⟨w1.heap.size, 0, none⟩) N N) N (bools (shutP w N bl k)) ∧ Below w1.heap.size w1 wr)) (fun p _ => n - (intOf p).toNat)
  case atStart => exact ⟨0, Nat.zero_le _, rfl, HST⟩
  case round =>
    obtain ⟨k, hk, rfl, HK⟩ := hrel
    by_cases hkn : k < n
    · have hkn' : (k : Int) < (n : Int) := by omega
      obtain ⟨x, hx⟩ : ∃ x, bl[k]? = some x := ⟨_, List.getElem?_eq_getElem (by rw [HNL.out]; exact hkn)⟩
      obtain ⟨b, off, rfl, c1, c2⟩ := RdP.cell (ha.below (HB1.out.trans (HK.out.2.2.mono HB1.out.size)) (Nat.le_refl _)) hx
      obtain ⟨x, y⟩ := x
      have hon : onP w h (x, y) = true := HON.out _ _ (List.mem_of_getElem? hx)
      have HX := Lib.hid hx
      have hsm := Gr.small HK.out.1 hon
      obtain ⟨j, hj⟩ : ∃ j : Nat, indexP (grK w h mv bd bl k) (x, y) = j := ⟨(indexP (grK w h mv bd bl k) (x, y)).toNat, by omega⟩
      have HIX := Lib.hid (fun (V : World) (hV : Below wr.heap.size wr V) => index_any Bg (grK w h mv bd bl k) _ _ N (x, y) V (HK.out.1.below hV) hon)
      rw [hj] at HIX hsm
      have hjN : j < N := by have := hsm.2.2.2.2.2.1; rw [← HN.out]; exact_mod_cast this
      have hjN' : (j : Int) < (N : Int) := by omega
      have HJ : Hid ((y * (w : Int) + x).toNat = j) := Lib.hid (by have : y * (w : Int) + x = (j : Int) := hj; rw [this]; simp)
      have hbW5 := Lib.hid ((Below.refl wr.heap.size wr).alloc (Nat.le_refl _) (.cells #[.int .i64 x, .int .i64 y] 26))
      have d0 : (wr.alloc (.cells #[.int .i64 x, .int .i64 y] 26)).cell? ⟨wr.heap.size, 0, none⟩ = some (.int .i64 x) := World.cell?_alloc_at _ _ _ _ rfl
      have d1 : (wr.alloc (.cells #[.int .i64 x, .int .i64 y] 26)).cell? ⟨wr.heap.size, 1, none⟩ = some (.int .i64 y) := World.cell?_alloc_at _ _ _ _ rfl
      clear hx hj hon hsm
      go_wp2_with fail
      have hG5 := HK.out.1.below hbW5.out
      have c5 := hG5.c5
      rw [show (grK w h mv bd bl k).w * (grK w h mv bd bl k).h = N from HN.out] at c5
      generalize hV : wr.alloc (.cells #[.int .i64 x, .int .i64 y] 26) = V at *
      have e0 := fun x : Grow V => grow_cell d0 x
      have e1 := fun x : Grow V => grow_cell d1 x
      have e5 := fun x : Grow V => grow_cell c5 x
      have HIV := Lib.hid (fun x : Grow V => HIX.out (grow x) (hbW5.out.trans ((grow_below x).mono hbW5.out.size)))
      clear d0 d1 c5 hV hG5
      refine wp_region_growTail 8 (by kernel_rfl) (by kernel_rfl) ?_
      simp only [List.take_succ_cons, List.take_zero, List.drop_succ_cons, List.drop_zero]
      repeat (go_big_quiet_step (first | (go_at_call 47; refine grow_of (HIV.out _))))
      refine wpQuiet_nil ?_
      intro _ hw'
      obtain ⟨xq, hw''⟩ := hw'
      subst hw''
      have HB6 := Lib.hid (hbW5.out.trans ((grow_below xq).mono hbW5.out.size))
      clear e0 e1 e5 HIV
      generalize grow xq = w6 at *
      have HG6 := Lib.hid (HK.out.1.below HB6.out)
      have HO6 := Lib.hid (own_below HK.out.2.1 HB6.out)
      have s0 := HO6.out.cellAt j (by omega)
      have sf := HO6.out.frozenAt j
      have hsl : (bools (shutP w N bl k))[j]? = some (.bool ((shutP w N bl k).getD j false)) := bools_getD (by rw [shutP_len]; exact hjN)
      rw [hsl] at s0
      have HSS := Lib.hid (GridAt.store HG6.out (by rw [HN.out]; exact HO6.out) HNE.out HX.out HJ.out)
      clear hsl
      go_wp2_with fail
      go_roundw
      case rel => exact ⟨k + 1, by omega, by go_num, Lib.hid ⟨HSS.out.1, by have := HSS.out.2; rw [HN.out] at this; exact this, (HK.out.2.2.trans (HB6.out.mono HK.out.2.2.size)).setCell (p := ⟨w1.heap.size, j, none⟩) (Nat.le_refl _) _⟩⟩
      case measure => simp [intOf]; omega
    · obtain rfl : k = n := by omega
      go_wp2_with fail
      go_ret2
      exact ⟨Bg, w1.heap.size, rfl, HK.out.1, HB1.out.trans (HK.out.2.2.mono HB1.out.size)⟩
end Go.Proofs.Ytpakkjkjppibnaa

/- Layout: the methods of the heap's list. -/
import Derived.Test.YtpakkjkjppibnaaGMem
import Derived.Test.YtpakkjkjppibnaaGApp
namespace Go.Proofs.Ytpakkjkjppibnaa
open Go.RowKit

theorem grown_tr {A B C : World} {X : Option Nat} (h : A.grownBy B X) (k : B.grownBy C X) : A.grownBy C X :=
  ⟨k.os.trans h.os, k.tape.trans h.tape, k.output.trans h.output, Nat.le_trans h.size k.size, fun i hi hne => (k.block i (Nat.lt_of_lt_of_le hi h.size) hne).trans (h.block i hi hne)⟩
theorem grown_trans6 {A B C D E F G : World} {X : Option Nat} (h1 : A.grownBy B X) (h2 : B.grownBy C X) (h3 : C.grownBy D X) (h4 : D.grownBy E X) (h5 : E.grownBy F X) (h6 : F.grownBy G X) : A.grownBy G.drew X :=
  have h := grown_tr (grown_tr (grown_tr (grown_tr (grown_tr h1 h2) h3) h4) h5) h6
  ⟨h.os, h.tape, h.output, h.size, h.block⟩

theorem len_any (a : Option Addr) (n c : Nat) (w : World) :
    Calls Try.prog 77 #[.slice a n c] w fun e w' => e = .returned (.int .i64 n) ∧ w = w' := by
  go_enter Try.func77, Try.ntmps77
  go_wp2
  go_ret
  exact ⟨rfl, rfl⟩

theorem less_any (g n c B : Nat) (l : List Pl) (i k : Nat) (w : World) (h : w.ownsRow B 116 3 (.slice (some ⟨g, 0, none⟩) n c) n (plcs l)) (hl : l.length = n) (hi : i < n) (hk : k < n) :
    Calls Try.prog 153 #[.slice (some ⟨g, 0, none⟩) n c, .int .i64 i, .int .i64 k] w fun e w' => e = .returned (.bool (lessP l i k)) ∧ Below w.heap.size w w' := by
  obtain ⟨x, hx⟩ : ∃ x, l[i]? = some x := ⟨_, List.getElem?_eq_getElem (by omega)⟩
  obtain ⟨y, hy⟩ : ∃ y, l[k]? = some y := ⟨_, List.getElem?_eq_getElem (by omega)⟩
  obtain ⟨_, _, c1⟩ := own_place h hl hx
  obtain ⟨_, _, c2⟩ := own_place h hl hy
  have HL : Hid (lessP l i k = decide (x.2.2 < y.2.2)) := Lib.hid (by unfold lessP; rw [List.getD_eq_getElem?_getD, List.getD_eq_getElem?_getD, hx, hy]; rfl)
  have hi' : (i : Int) < (n : Int) := by omega
  have hk' : (k : Int) < (n : Int) := by omega
  clear hx hy h hl
  obtain ⟨x1, x2, x3⟩ := x
  obtain ⟨y1, y2, y3⟩ := y
  dsimp only at *
  go_enter Try.func153, Try.ntmps153
  go_wp2
  go_quiet (fail)
  go_wp2
  go_ret
  exact ⟨by rw [HL.out]; rfl, bel_drewN (Below.refl _ _) _⟩

theorem swap_any (g n c B : Nat) (l : List Pl) (i k : Nat) (w : World) (h : w.ownsRow B 116 3 (.slice (some ⟨g, 0, none⟩) n c) n (plcs l)) (hl : l.length = n) (hi : i < n) (hk : k < n) :
    Calls Try.prog 156 #[.slice (some ⟨g, 0, none⟩) n c, .int .i64 i, .int .i64 k] w fun e w' => (∃ v, e = .returned v) ∧ w'.ownsRow B 116 3 (.slice (some ⟨g, 0, none⟩) n c) n (plcs (swapP l i k)) ∧ w.grownBy w' (some g) := by
  obtain ⟨x, hx⟩ : ∃ x, l[i]? = some x := ⟨_, List.getElem?_eq_getElem (by omega)⟩
  obtain ⟨y, hy⟩ : ∃ y, l[k]? = some y := ⟨_, List.getElem?_eq_getElem (by omega)⟩
  obtain ⟨c1, c2, c3⟩ := own_place h hl hx
  obtain ⟨d1, d2, d3⟩ := own_place h hl hy
  have f1 := h.frozenAt (i * 3)
  have f2 := h.frozenAt (i * 3 + 1)
  have f3 := h.frozenAt (i * 3 + 2)
  have e1 := h.frozenAt (k * 3)
  have e2 := h.frozenAt (k * 3 + 1)
  have e3 := h.frozenAt (k * 3 + 2)
  have HR := Lib.hid (own_setPlace (own_setPlace h i y) k x)
  have HG : Hid (∀ W : World, ∀ j u, W.grownBy (W.setCell ⟨g, j, none⟩ u) (some g)) := Lib.hid fun W j u => ⟨rfl, rfl, rfl, (KeepsWalks.setCell W _ u).size, fun k' _ hk' => Below.heap_setCell _ _ _ k' (fun e => hk' (by rw [e]))⟩
  have HL : Hid (swapP l i k = (l.set i y).set k x) := Lib.hid (by unfold swapP; rw [List.getD_eq_getElem?_getD, List.getD_eq_getElem?_getD, hx, hy]; rfl)
  have hi' : (i : Int) < (n : Int) := by omega
  have hk' : (k : Int) < (n : Int) := by omega
  have HXY : Hid (i = k → y = x) := Lib.hid (fun e => by subst e; rw [hx] at hy; exact (Option.some.inj hy).symm)
  clear hx hy h hl
  by_cases hik : i = k
  · obtain rfl := HXY.out hik
    subst hik
    obtain ⟨x1, x2, x3⟩ := y
    dsimp only at *
    go_enter Try.func156, Try.ntmps156
    go_wp2
    go_region
    all_goals (
      go_wp2_with fail
      refine bodyPost_end (results_none rfl _ _ _) rfl ?_
      refine ⟨⟨_, rfl⟩, by rw [HL.out]; exact HR.out.drew, ?_⟩
      exact grown_trans6 (HG.out _ _ _) (HG.out _ _ _) (HG.out _ _ _) (HG.out _ _ _) (HG.out _ _ _) (HG.out _ _ _))
  · obtain ⟨x1, x2, x3⟩ := x
    obtain ⟨y1, y2, y3⟩ := y
    dsimp only at *
    have n1 : ¬ i * 3 = k * 3 := by omega
    have n2 : ¬ k * 3 = i * 3 := by omega
    go_enter Try.func156, Try.ntmps156
    go_wp2
    go_region
    all_goals (
      go_wp2_with fail
      refine bodyPost_end (results_none rfl _ _ _) rfl ?_
      refine ⟨⟨_, rfl⟩, by rw [HL.out]; exact HR.out.drew, ?_⟩
      exact grown_trans6 (HG.out _ _ _) (HG.out _ _ _) (HG.out _ _ _) (HG.out _ _ _) (HG.out _ _ _) (HG.out _ _ _))

theorem el_pl : ElemK Try.prog 113 116 (.agg #[.int .i64 0, .int .i64 0, .int .i64 0]) 3 24 :=
  ⟨by kernel_rfl, info_parts (by kernel_rfl), by rfl, by decide, by decide⟩

theorem assert_pl (xT : TypeId) (v : Value) (w : World) : (Instr.typeAssert (.iface 116 v) xT 116 false).run Try.prog w = .ok v w := by
  simp [Instr.typeAssert, run_underlying Try.underlying116, go_sem, Result.andThen]

theorem push1_any (Bp B : Nat) (v : Value) (l : List Pl) (x : Pl) (w : World) (h : HeapAt w Bp B v l) (hBp : B ≤ Bp) (hn : l.length ≤ 4000000) :
    Calls Try.prog 155 #[.pointer (some ⟨Bp, 0, none⟩), .iface 116 (.agg #[.int .i64 x.1, .int .i64 x.2.1, .int .i64 x.2.2])] w fun e w' => (∃ u, e = .returned u) ∧ ∃ v', HeapAt w' Bp B v' (l ++ [x]) ∧ Kp Bp v w w' ∧ Moved w v v' := by
  obtain ⟨w0, hw0⟩ : ∃ w0, cutW w B = w0 := ⟨_, rfl⟩
  have hBw : B ≤ w.heap.size := Nat.le_trans hBp (Nat.le_of_lt h.1.lt)
  have hb := cutW_below hBw
  have hB0 := cutW_size hBw
  rw [hw0] at hb hB0
  clear hw0
  subst hB0
  obtain ⟨h1, h2⟩ := h
  have hc := h1.cell
  have hf := h1.frozen
  have hlt := h1.lt
  have hbd : Below w0.heap.size w0 w.drew := hb.drew
  obtain ⟨x1, x2, x3⟩ := x
  dsimp only at *
  obtain ⟨va, vc, rfl⟩ := own_form h2
  have hta := assert_pl
  go_enter Try.func155, Try.ntmps155
  go_wp2_with fail
  go_region_law (first
    | (refine stepK el_pl rfl rfl (w0 := w0) rfl rfl (heap_alloc_new _ _) (by exact hbd.alloc hbd.size _) (by exact (World.ownsRow.alloc (show w.drew.ownsRow _ _ _ _ _ _ from h2) _)) rfl (by simp [Value.oneCell']) (by omega) ?_; intro g' cap' w11 ho11 hg11 hat11 hlt11 hb11; have hbx : Boxed w11 Bp 113 _ := Boxed.kept (Boxed.alloc (show Boxed w.drew Bp _ _ from h1) _) hg11 (Boxed.not_row (show Boxed w.drew Bp _ _ from h1) (by decide) (show w.drew.ownsRow _ _ _ _ _ _ from h2)); have hc1 := hbx.cell; have hf1 := hbx.frozen))
  all_goals (
    go_wp2_with fail
    refine bodyPost_end (results_none rfl _ _ _) rfl ?_
    refine ⟨⟨_, rfl⟩, _, ⟨hbx.set _, ?_⟩, Kp.setCell (Kp.grown ((Kp.refl Bp _ w).below ((Below.refl _ _).drew.alloc (Nat.le_refl _) _)) hg11) _, fun k hk => ?_⟩
    rotate_left
    · rcases hat11 with e1 | e1
      · exact .inl (e1.trans hk)
      · have e2 : g' = k := Option.some.inj hk
        refine .inr ?_
        rw [← e2, e1]
        simp
    rw [List.length_append, plcs_append]
    exact ho11.kept (grownBy_setCell' w11 Bp _) (.inr (hbx.not_row (by decide) ho11).symm))

theorem pop1_any (Bp B : Nat) (v : Value) (l : List Pl) (x : Pl) (w : World) (h : HeapAt w Bp B v l) (hn : l.length ≤ 4000000) (hx : l[l.length - 1]? = some x) :
    Calls Try.prog 154 #[.pointer (some ⟨Bp, 0, none⟩)] w fun e w' => e = .returned (.iface 116 (.agg #[.int .i64 x.1, .int .i64 x.2.1, .int .i64 x.2.2])) ∧ ∃ v', HeapAt w' Bp B v' (l.take (l.length - 1)) ∧ Kp Bp v w w' ∧ Moved w v v' := by
  obtain ⟨h1, h2⟩ := h
  have hpos : 0 < l.length := by have := (List.getElem?_eq_some_iff.1 hx).1; omega
  obtain ⟨g, c, rfl, hg1, hg2⟩ := own_some h2 hpos
  obtain ⟨c1, c2, c3⟩ := own_place h2 rfl hx
  have hc := h1.cell
  have hf := h1.frozen
  have hlt := h1.lt
  obtain ⟨k, hk⟩ : ∃ k, l.length = k + 1 := ⟨l.length - 1, by omega⟩
  have HK := Lib.hid hk
  have HO := Lib.hid h2
  have H1 := Lib.hid h1
  rw [hk, Nat.add_sub_cancel] at c1 c2 c3 ⊢
  rw [hk] at hc
  have hwk : wrap64 (k : Int) = (k : Int) := by unfold wrap64; omega
  have hkc : k + 1 ≤ c := by
    rcases h2.2 with ⟨e, _⟩ | ⟨g', cap, cur, e, _, _, q, _⟩
    · simp at e
    · simp only [Value.slice.injEq, Option.some.injEq, Addr.mk.injEq, and_true, true_and] at e
      omega
  have hkc' : (k : Int) ≤ (c : Int) := by omega
  obtain ⟨x1, x2, x3⟩ := x
  dsimp only at *
  clear h1 h2 hx hk
  go_enter Try.func154, Try.ntmps154
  go_wp2_with fail
  go_ret
  have ho := HO.out
  rw [HK.out] at ho
  have ho2 := own_take (k := k) ho (by omega)
  rw [plcs_take] at ho2
  have hlt2 : (l.take k).length = k := by rw [List.length_take, HK.out]; omega
  refine ⟨rfl, _, ⟨(H1.out.set _).alloc _, ?_⟩, ((Kp.refl Bp _ w).setCell _).below ((Below.refl _ _).alloc (Nat.le_refl _) _), fun k hk => .inl hk⟩
  rw [hlt2]
  exact (ho2.kept (grownBy_setCell' w Bp _) (.inr (H1.out.not_row (by decide) ho2).symm)).alloc _

end Go.Proofs.Ytpakkjkjppibnaa

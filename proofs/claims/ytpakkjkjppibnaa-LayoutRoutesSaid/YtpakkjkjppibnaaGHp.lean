/- Layout: heap.Push and heap.Pop. -/
import Derived.Test.YtpakkjkjppibnaaGUp
namespace Go.Proofs.Ytpakkjkjppibnaa
open Go.RowKit

theorem len_at (a : Option Addr) (n c : Nat) (w : World) :
    Calls Try.prog 77 #[.slice a n c] w fun e w' => e = .returned (.int .i64 n) ∧ w' = w := (len_any a n c w).mono fun _ _ h => ⟨h.1, h.2.symm⟩
theorem HeapAt.form {W : World} {Bp B : Nat} {v : Value} {l : List Pl} (h : HeapAt W Bp B v l) : ∃ a c, v = .slice a l.length c := own_form h.2

set_option maxRecDepth 100000 in
theorem push_any (Bp B : Nat) (v : Value) (l : List Pl) (x : Pl) (w : World) (h : HeapAt w Bp B v l) (hBp : B ≤ Bp) (hn : l.length < 4000000) :
    Calls Try.prog 76 #[.iface 111 (.pointer (some ⟨Bp, 0, none⟩)), .iface 116 (.agg #[.int .i64 x.1, .int .i64 x.2.1, .int .i64 x.2.2])] w fun e w' => (∃ u, e = .returned u) ∧ ∃ v', HeapAt w' Bp B v' (pushP l x) ∧ Kp Bp v w w' ∧ Moved w v v' := by
  have hmP := fun W => meth_push ⟨Bp, 0, none⟩ W
  have hmN := fun W => meth_len ⟨Bp, 0, none⟩ W
  have HN := Lib.hid hn
  have HH := Lib.hid h
  have HC := Lib.hid (push1_any Bp B v l x w h hBp (by omega))
  obtain ⟨M, hM⟩ : ∃ M, l.length = M := ⟨_, rfl⟩
  have HM := Lib.hid hM
  have hw1 : wrap64 ((M : Int) + 1 - 1) = (M : Int) := by have := HN.out; rw [hM] at this; unfold wrap64; omega
  have hw2 : wrap64 (M : Int) = (M : Int) := by have := HN.out; rw [hM] at this; clear hw1; unfold wrap64; omega
  obtain ⟨x1, x2, x3⟩ := x
  dsimp only at *
  clear h hn hM
  go_enter Try.func76, Try.ntmps76
  go_wp2_with (first
    | (refine HC.out.mono ?_; rintro e w1 ⟨⟨u1, rfl⟩, v1, hh1, hb1, hm1⟩; obtain ⟨a1, c1, rfl⟩ := hh1.form; rw [List.length_append, HM.out] at hh1; have hc1 := hh1.1.cell; have HH1 := Lib.hid hh1; have HB1 := Lib.hid hb1; have HM1 := Lib.hid hm1; clear hh1 hb1 hm1)
    | (refine (len_any _ _ _ _).mono ?_; rintro e w2 ⟨rfl, rfl⟩)
    | ((refine (up_any (M + 1) Bp B _ (l ++ [(x1, x2, x3)]) M w1 w1 (Kp.refl _ _ _) HH1.out (by rw [List.length_append, HM.out]; simp) (by have := HN.out; rw [List.length_append]; simp; omega) (by omega)).mono ?_); rintro e w3 ⟨⟨u3, rfl⟩, hh3, hb3⟩))
  go_wp2_with fail
  refine bodyPost_end (results_none rfl _ _ _) rfl ?_
  have hm := HM1.out
  rw [List.length_append, HM.out] at hm
  exact ⟨⟨_, rfl⟩, _, by unfold pushP; rw [HM.out]; exact hh3, HB1.out.trans hm hb3, hm⟩

theorem popX_get {l : List Pl} (h : 0 < l.length) : (popL l)[(popL l).length - 1]? = some (popX l) := by
  have : l.length - 1 < (popL l).length := by rw [popL_len]; omega
  rw [popL_len]
  unfold popX
  rw [List.getD_eq_getElem?_getD, List.getElem?_eq_getElem this]
  rfl

set_option maxRecDepth 100000 in
theorem pop_any (Bp B : Nat) (v : Value) (l : List Pl) (w : World) (h : HeapAt w Bp B v l) (hn : l.length ≤ 4000000) (hp : 0 < l.length) :
    Calls Try.prog 78 #[.iface 111 (.pointer (some ⟨Bp, 0, none⟩))] w fun e w' => e = .returned (.iface 116 (.agg #[.int .i64 (popX l).1, .int .i64 (popX l).2.1, .int .i64 (popX l).2.2])) ∧ ∃ v', HeapAt w' Bp B v' (popR l) ∧ Kp Bp v w w' ∧ Moved w v v' := by
  have hmP := fun W => meth_pop ⟨Bp, 0, none⟩ W
  have hmN := fun W => meth_len ⟨Bp, 0, none⟩ W
  have hmS := fun W => meth_swap ⟨Bp, 0, none⟩ W
  have HN := Lib.hid hn
  have HX := Lib.hid (popX_get hp)
  have HR : Hid ((popL l).take ((popL l).length - 1) = popR l) := Lib.hid (by unfold popR; rw [popL_len])
  obtain ⟨M, hM⟩ : ∃ M, l.length = M + 1 := ⟨l.length - 1, by omega⟩
  obtain ⟨g, c, rfl, _, _⟩ := own_some h.2 hp
  have HM := Lib.hid hM
  have hw2 : wrap64 (M : Int) = (M : Int) := by unfold wrap64; omega
  rw [hM] at h ⊢
  have hc := h.1.cell
  have HH := Lib.hid h
  have HP : Hid (popL l = downP (M + 1) (swapP l 0 M) 0 M) := Lib.hid (by unfold popL; rw [hM]; rfl)
  obtain ⟨z, hz⟩ : ∃ z, popX l = z := ⟨_, rfl⟩
  rw [hz] at HX ⊢
  obtain ⟨x1, x2, x3⟩ := z
  dsimp only at *
  clear h hn hM hp hz
  go_enter Try.func78, Try.ntmps78
  go_wp2_with (first
    | ((with_reducible refine (len_any _ _ _ _).mono ?_); rintro e w1 ⟨rfl, rfl⟩)
    | ((with_reducible refine (swap_at g (M + 1) c B l 0 M _ _ (by simp) (by simp) _ (HH.out.own HM.out) HM.out (by omega) (by omega)).mono ?_); rintro e w2 ⟨⟨u2, rfl⟩, ho2, hg2'⟩; have HH2 := Lib.hid (HH.out.swapped hg2' ho2 (by rw [swapP_len, HM.out])); have HB2 := Lib.hid ((Kp.refl Bp (.slice (some ⟨g, 0, none⟩) (M + 1) c) _).grown hg2'))
    | ((with_reducible refine (down_any (M + 1) Bp B _ (swapP l 0 M) M w2 _ HB2.out HH2.out (by rw [swapP_len, HM.out]; omega) (by rw [swapP_len]; exact HN.out) (by omega)).mono ?_); rintro e w3 ⟨⟨u3, rfl⟩, hh3, hb3⟩; rw [← HP.out] at hh3; have HH3 := Lib.hid hh3; have HB3 := Lib.hid hb3; clear hh3 hb3)
    | ((with_reducible refine (pop1_any Bp B _ (popL l) (x1, x2, x3) w3 HH3.out (by rw [popL_len]; exact HN.out) HX.out).mono ?_); rintro e w4 ⟨rfl, v4, hh4, hb4, hm4⟩))

  go_ret
  rw [HR.out] at hh4
  exact ⟨rfl, v4, hh4, HB3.out.trans (Moved.refl _ _) hb4, Moved.trans (Moved.refl _ _) HB3.out.size hm4⟩
end Go.Proofs.Ytpakkjkjppibnaa

/- Layout: slices.DeleteFunc at []api.XY with a closure that marks what it has seen: the cells, each once. -/
import Derived.Test.YtpakkjkjppibnaaGDel
namespace Go.Proofs.Ytpakkjkjppibnaa
open Go.RowKit

structure DelI (W w : World) (B g N cap mb b : Nat) (xs : List Ce) (i j : Nat) (R : List Ce) : Prop where
  own : w.ownsRow B 26 2 (.slice (some ⟨g, 0, none⟩) N cap) N (pairs R)
  seen : Seen w mb b j (xs.take j)
  len : R.length = N
  lo : R.take i = ddL (xs.take j)
  hi : R.drop j = xs.drop j
  bel : Below B W w
theorem seen_step {W w1 w2 : World} {B : Nat} {row : Option Nat} (h : Below B W w1) (hg : w1.grownBy w2 row) (hB : B ≤ w1.heap.size) (hr : ∀ k, row = some k → B ≤ k) : Below B W w2 := h.grown hg hB hr
theorem zero_xy (w : World) : (zeroValue 26).run Try.prog w = .ok (.agg #[.int .i64 0, .int .i64 0]) w := by kernel_rfl

set_option maxRecDepth 100000 in
set_option maxHeartbeats 4000000 in
theorem del_any (gf : Nat) (eg : ∀ args w, (callFunc gf args).run Try.prog w = .ok (.enter gf args) w) (g N cap B mb b : Nat) (xs : List Ce) (W : World) (hcl : RimCl gf mb b)
    (ho : W.ownsRow B 26 2 (.slice (some ⟨g, 0, none⟩) N cap) N (pairs xs)) (hN : xs.length = N) (hs : N ≤ 4000) (hS : Seen W mb b 0 []) (hgb : g ≠ b) (hgm : g ≠ mb) (hwf : ∀ c ∈ xs, WfC c) (hB : B ≤ W.heap.size) (hBg : B ≤ g) (hBb : B ≤ b) :
    Calls Try.prog 80 #[.slice (some ⟨g, 0, none⟩) N cap, .func (.func gf) #[] #[.pointer (some ⟨mb, 0, none⟩)]] W fun e w' => ∃ M, e = .returned (.slice (some ⟨g, 0, none⟩) M cap) ∧ w'.ownsRow B 26 2 (.slice (some ⟨g, 0, none⟩) M cap) M (pairs (ddL xs)) ∧ Below B W w' := by
  have HIF := Lib.hid (idxSeen gf eg g N cap B mb b xs W hcl ho hN hs hS hgb hwf)
  have HCL := Lib.hid hcl
  have HO := Lib.hid ho
  have HN := Lib.hid hN
  have HWF := Lib.hid hwf
  have HB := Lib.hid (And.intro hB (And.intro hBg hBb))
  have hcc : N ≤ cap ∧ cap ≤ maxLen := by
    rcases ho.2 with ⟨h', _⟩ | ⟨g', cap', cur, h', hb, hg, hnc, hcm, hcs, htake⟩
    · simp at h'
    · simp only [Value.slice.injEq] at h'
      obtain ⟨_, _, rfl⟩ := h'
      exact ⟨hnc, hcm⟩
  obtain ⟨hc1, hc2⟩ := hcc
  clear hcl ho hN hwf hS hB hBg hBb
  go_enter Try.func80, Try.ntmps80
  go_wp2_with (go_at_call 83; refine HIF.out.mono ?_; rintro e w1 ⟨hg1, ⟨rfl, hnd⟩ | ⟨k, hk, rfl, hnd, hin, hs1⟩⟩)
  · go_ret
    exact ⟨N, rfl, by rw [ddL_self hnd]; exact HO.out.kept hg1 (.inr (fun e => hgb (Option.some.inj e))), (Below.refl _ _).grown hg1 HB.out.1 (fun k e => by cases e; exact HB.out.2.2)⟩
  · have hne1 : ((k : Int) == -1) = false := beq_eq_false_iff_ne.2 (by omega)
    have HD0 : Hid (DelI W w1 B g N cap mb b xs k (k + 1) xs) := Lib.hid ⟨HO.out.kept hg1 (.inr (fun e => hgb (Option.some.inj e))), hs1, HN.out, by
      obtain ⟨c, hc, hm⟩ := hin
      rw [List.take_add_one, hc]
      show _ = ddL (xs.take k ++ [c])
      rw [ddL_snoc, ddL_self hnd]
      unfold putL
      rw [if_pos hm], rfl, (Below.refl _ _).grown hg1 HB.out.1 (fun k e => by cases e; exact HB.out.2.2)⟩
    clear hg1 hnd hin hs1
    go_wp2_with fail
    go_loopw [5, 6, 7] (fun s5 s6 _ wr => ∃ (i j : Nat) (R : List Ce), s5 = .int .i64 i ∧ s6 = .int .i64 j ∧ i < j ∧ j ≤ N ∧ Hid (DelI W wr B g N cap mb b xs i j R)) (fun _ s6 _ _ => N - (intOf s6).toNat)
    case atStart => exact ⟨k, k + 1, xs, rfl, by go_num, by omega, by omega, HD0⟩
    case round =>
      obtain ⟨i, j, R, rfl, rfl, hij, hjN, HD⟩ := hrel
      by_cases hlt : j < N
      · have hltz : (j : Int) < (N : Int) := by omega
        obtain ⟨⟨x, y⟩, hx⟩ : ∃ x, xs[j]? = some x := ⟨_, List.getElem?_eq_getElem (by rw [HN.out]; exact hlt)⟩
        have hRx : R[j]? = some (x, y) := by
          have := congrArg (fun l => l[0]?) HD.out.hi
          simp only [List.getElem?_drop, Nat.add_zero] at this
          rw [this, hx]
        obtain ⟨c1, c2⟩ := own_xyAt HD.out.own HD.out.len hRx
        dsimp only at c1 c2
        have hlb := HD.out.seen.set.lt
        have HS1 : Hid (Seen (wr.alloc (.cells #[.int .i64 x, .int .i64 y] 26)) mb b j (xs.take j)) := Lib.hid (HD.out.seen.kept (row := none) (World.grownBy_alloc _ _ _) (by simp) (by simp))
        have hcall := Lib.hid (HCL.out (x, y) _ j _ HS1.out (HWF.out _ (List.mem_of_getElem? hx)) (by omega))
        have HTK : Hid (xs.take (j + 1) = xs.take j ++ [(x, y)]) := Lib.hid (by rw [List.take_add_one, hx]; rfl)
        have HBN : Hid (wr.heap.size ≠ b) := Lib.hid (by omega)
        have HHI : Hid (R.drop (j + 1) = xs.drop (j + 1)) := Lib.hid (by
          have := congrArg (List.drop 1) HD.out.hi
          rw [List.drop_drop, List.drop_drop] at this
          exact this)
        have HO1 := Lib.hid (HD.out.own.alloc (.cells #[.int .i64 x, .int .i64 y] 26))
        have HB1 : Hid (Below B W (wr.alloc (.cells #[.int .i64 x, .int .i64 y] 26))) := Lib.hid (HD.out.bel.alloc (Nat.le_trans HB.out.1 HD.out.bel.size) _)
        clear hx hRx hlb
        obtain ⟨t, ht⟩ : ∃ t, decide ((x, y) ∈ xs.take j) = t := ⟨_, rfl⟩
        rw [ht] at hcall
        have HT := Lib.hid ht
        clear ht
        cases t with
        | true =>
          have HLO : Hid (R.take i = ddL (xs.take (j + 1))) := Lib.hid (by
            rw [HTK.out, ddL_snoc, ← HD.out.lo]
            unfold putL
            rw [if_pos (by rw [HD.out.lo, ddL_mem]; exact of_decide_eq_true HT.out)])
          go_wp2_with (go_at_fn gf; refine hcall.out.mono ?_; rintro e w2 ⟨rfl, hs2, hg2⟩)
          go_roundw
          case rel =>
            (repeat apply Exists.intro)
            exact ⟨⟨i, j + 1, R, rfl, by go_num, by omega, by omega, Lib.hid ⟨HO1.out.kept hg2 (.inr (fun e => hgb (Option.some.inj e))), by rw [HTK.out]; exact hs2, HD.out.len, HLO.out, HHI.out, HB1.out.grown hg2 (Nat.le_trans HB.out.1 HB1.out.size) (fun k e => by cases e; exact HB.out.2.2)⟩⟩, rfl⟩
          case measure => simp [intOf]; omega
        | false =>
          have hii : i < R.length := by rw [HD.out.len]; omega
          have HLO : Hid ((R.set i (x, y)).take (i + 1) = ddL (xs.take (j + 1))) := Lib.hid (by
            have hg : (R.set i (x, y))[i]? = some (x, y) := by rw [List.getElem?_set_self hii]
            rw [HTK.out, ddL_snoc, ← HD.out.lo, List.take_add_one, hg, List.take_set_of_le (Nat.le_refl _)]
            unfold putL
            rw [if_neg (by rw [HD.out.lo, ddL_mem]; exact of_decide_eq_false HT.out)]
            rfl)
          have HHI' : Hid ((R.set i (x, y)).drop (j + 1) = xs.drop (j + 1)) := Lib.hid (by rw [List.drop_set_of_lt (by omega)]; exact HHI.out)
          have HLN : Hid ((R.set i (x, y)).length = N) := Lib.hid (by rw [List.length_set]; exact HD.out.len)
          obtain ⟨⟨z1, z2⟩, hz⟩ : ∃ z, R[i]? = some z := ⟨_, List.getElem?_eq_getElem hii⟩
          have HZ := Lib.hid hz
          have hiz1 : (0 : Int) ≤ (i : Int) := by omega
          have hiz2 : (i : Int) < (N : Int) := by omega
          clear hii hz
          go_wp2_with (go_at_fn gf; refine hcall.out.mono ?_; rintro e w2 ⟨rfl, hs2, hg2⟩; have HO2 := Lib.hid (HO1.out.kept hg2 (.inr (fun e => hgb (Option.some.inj e)))); have HS2 := Lib.hid hs2; have HB2 := Lib.hid (HB1.out.grown hg2 (Nat.le_trans HB.out.1 HB1.out.size) (fun k e => by cases e; exact HB.out.2.2)); have b1 : w2.cell? ⟨wr.heap.size, 0, none⟩ = some (.int .i64 x) := hg2.cell (World.cell?_alloc_at _ _ _ _ rfl) (fun e => HBN.out (Option.some.inj e)); have b2 : w2.cell? ⟨wr.heap.size, 1, none⟩ = some (.int .i64 y) := hg2.cell (World.cell?_alloc_at _ _ _ _ rfl) (fun e => HBN.out (Option.some.inj e)); have k1 := (own_xyAt HO2.out HD.out.len HZ.out).1; have k2 := (own_xyAt HO2.out HD.out.len HZ.out).2; have k3 := HO2.out.frozenAt (i * 2); have k4 := HO2.out.frozenAt (i * 2 + 1); dsimp only at k1 k2; clear hs2 hg2 c1 c2)
          go_roundw
          case rel =>
            (repeat apply Exists.intro)
            exact ⟨⟨i + 1, j + 1, R.set i (x, y), by go_num, by go_num, by omega, by omega, Lib.hid ⟨own_setXY HO2.out i (x, y), ((by rw [HTK.out]; exact HS2.out : Seen w2 mb b (j + 1) (xs.take (j + 1))).kept (grown_setA _ _ _) (by simpa using Ne.symm hgb) (by simpa using Ne.symm hgm)).kept (grown_setA _ _ _) (by simpa using Ne.symm hgb) (by simpa using Ne.symm hgm), HLN.out, HLO.out, HHI'.out, (HB2.out.setCell HB.out.2.1 _).setCell HB.out.2.1 _⟩⟩, rfl⟩
          case measure => simp [intOf]; omega
      · obtain rfl : j = N := by omega
        have hi1 : (0 : Int) ≤ (i : Int) := by omega
        have hi2 : (i : Int) ≤ (j : Int) := by omega
        have hi3 : (j : Int) ≤ (cap : Int) := by omega
        have hi4 : (i : Int) ≤ (cap : Int) := by omega
        have hcle : ∀ ty, (Builtin.clear_ #[22] ty #[.slice (some ⟨g, i * 2, none⟩) (j - i) (cap - i)]).run Try.prog wr = .ok (.tuple #[]) (wr.setCells g (i * 2) (zc (j - i))) := fun ty =>
          run_clear2 wr _ 26 ty Try.underlying22 zero_xy g (i * 2) (j - i) (cap - i) (by omega)
            (fun q hq => by rw [HD.out.own.cellAt _ (by omega), List.getElem?_eq_getElem (by rw [pairs_length, HD.out.len]; omega)]; rfl)
            (fun q hq => HD.out.own.frozenAt _)
        have HFIN : Hid ((wr.setCells g (i * 2) (zc (j - i))).ownsRow B 26 2 (.slice (some ⟨g, 0, none⟩) i cap) i (pairs (ddL xs)) ∧ Below B W (wr.setCells g (i * 2) (zc (j - i)))) := Lib.hid (by
          obtain ⟨ys, h1, h2⟩ := own_setCells (zc (j - i)) (i * 2) HD.out.own
          have h3 := own_take h1 (k := i) (by omega)
          rw [h2, pairs_take, HD.out.lo, List.take_of_length_le (by rw [HN.out]; exact Nat.le_refl _)] at h3
          exact ⟨h3, HD.out.bel.grown (grown_set g _ _ _) (Nat.le_trans HB.out.1 HD.out.bel.size) (fun k e => by cases e; exact HB.out.2.1)⟩)
        go_wp2
        go_ret
        exact ⟨i, rfl, HFIN.out.1, HFIN.out.2⟩
end Go.Proofs.Ytpakkjkjppibnaa

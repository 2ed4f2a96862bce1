/- Layout: slices.DeleteFunc at []api.XY with a closure that marks what it has seen. -/
import Derived.Test.YtpakkjkjppibnaaGMap
import Derived.Test.YtpakkjkjppibnaaGIns
import Derived.Test.YtpakkjkjppibnaaGRimP
namespace Go.Proofs.Ytpakkjkjppibnaa
open Go.RowKit

/-- box mb holds the map b, which holds the cells of l -/
structure Seen (W : World) (mb b n : Nat) (l : List Ce) : Prop where
  box : W.cell? ⟨mb, 0, none⟩ = some (.map (some b))
  set : MSet W b n l
  ne : mb ≠ b
theorem Seen.kept {W W' : World} {mb b n : Nat} {l : List Ce} (h : Seen W mb b n l) {row : Option Nat} (hg : W.grownBy W' row) (h1 : some b ≠ row) (h2 : some mb ≠ row) : Seen W' mb b n l :=
  ⟨(hg.cell h.box h2), h.set.kept hg h1, h.ne⟩
theorem grown_newE {A B C : World} {b : Nat} (h : Below A.heap.size A B) (k : B.grownBy C (some b)) : A.grownBy C (some b) :=
  ⟨k.os.trans h.os, k.tape.trans h.tape, k.output.trans h.output, Nat.le_trans h.size k.size, fun i hi hne => (k.block i (Nat.lt_of_lt_of_le hi h.size) hne).trans (h.block i hi)⟩
set_option maxRecDepth 100000 in
set_option maxHeartbeats 1000000 in
theorem rim1_any (c : Ce) (W : World) (mb b n : Nat) (l : List Ce) (h : Seen W mb b n l) (hc : WfC c) (hn : n < 4000000) :
    Calls Try.prog 81 #[.agg #[.int .i64 c.1, .int .i64 c.2], .pointer (some ⟨mb, 0, none⟩)] W fun e w' => e = .returned (.bool (decide (c ∈ l))) ∧ Seen w' mb b (n + 1) (l ++ [c]) ∧ W.grownBy w' (some b) := by
  obtain ⟨x, y⟩ := c
  obtain ⟨t, ht⟩ : ∃ t, decide ((x, y) ∈ l) = t := ⟨_, rfl⟩
  have e0 := h.box
  have hlt := World.block_lt_of_cell? _ _ e0
  have HH := Lib.hid h
  have HC := Lib.hid hc
  have HT := Lib.hid ht
  rw [ht]
  clear h hc ht
  go_enter Try.func81, Try.ntmps81
  go_wp2_with (first
    | (at_lookup; refine wp_mset_get _ rfl _ _ rfl b n l (x, y) rfl (HH.out.set.below ((Below.refl _ _).alloc (Nat.le_refl _) _)) rfl HC.out ?_; rw [HT.out])
    | (at_mapUpdate; refine wp_mset_store _ rfl _ _ _ rfl b n l (x, y) rfl (HH.out.set.below ((Below.refl _ _).alloc (Nat.le_refl _) _)) (by unfold maxLen; omega) rfl rfl HC.out ?_; intro w2 hw2 hg2))
  go_ret
  exact ⟨rfl, ⟨hg2.cell (cell_below HH.out.box ((Below.refl _ _).alloc (Nat.le_refl _) _)) (by simpa using HH.out.ne), hw2, HH.out.ne⟩, grown_newE ((Below.refl W.heap.size W).alloc (Nat.le_refl _) _) hg2⟩

theorem own_xyAt {W : World} {B g c n : Nat} {l : List Ce} (h : W.ownsRow B 26 2 (.slice (some ⟨g, 0, none⟩) n c) n (pairs l)) (hn : l.length = n) {i : Nat} {x : Ce} (hx : l[i]? = some x) :
    W.cell? ⟨g, i * 2, none⟩ = some (.int .i64 x.1) ∧ W.cell? ⟨g, i * 2 + 1, none⟩ = some (.int .i64 x.2) := by
  have hi := (List.getElem?_eq_some_iff.1 hx).1
  obtain ⟨h1, h2⟩ := pairs_get hx
  exact ⟨by rw [h.cellAt _ (by omega)]; exact h1, by rw [h.cellAt _ (by omega)]; exact h2⟩
theorem pairs_set (x : Ce) : ∀ (l : List Ce) (i : Nat), ((pairs l).set (i * 2) (.int .i64 x.1)).set (i * 2 + 1) (.int .i64 x.2) = pairs (l.set i x)
  | [], i => by simp [pairs]
  | y :: l, 0 => by simp [pairs]
  | y :: l, i + 1 => by
    have ih := pairs_set x l i
    rw [List.set_cons_succ, show pairs (y :: l) = .int .i64 y.1 :: .int .i64 y.2 :: pairs l from rfl, show pairs (y :: l.set i x) = .int .i64 y.1 :: .int .i64 y.2 :: pairs (l.set i x) from rfl, show (i + 1) * 2 = i * 2 + 1 + 1 by omega, ← ih]
    simp
theorem own_setXY {W : World} {B g c n : Nat} {l : List Ce} (h : W.ownsRow B 26 2 (.slice (some ⟨g, 0, none⟩) n c) n (pairs l)) (i : Nat) (x : Ce) :
    ((W.setCell ⟨g, i * 2, none⟩ (.int .i64 x.1)).setCell ⟨g, i * 2 + 1, none⟩ (.int .i64 x.2)).ownsRow B 26 2 (.slice (some ⟨g, 0, none⟩) n c) n (pairs (l.set i x)) := by
  have h3 := ((h.stored (i * 2) (.int .i64 x.1)).1.stored (i * 2 + 1) (.int .i64 x.2)).1
  rwa [pairs_set] at h3
theorem own_setCells {B g n cap size : Nat} {e : TypeId} : ∀ (cs : List Value) (o : Nat) {w : World} {xs : List Value}, w.ownsRow B e size (.slice (some ⟨g, 0, none⟩) n cap) n xs →
    ∃ ys : List Value, (w.setCells g o cs).ownsRow B e size (.slice (some ⟨g, 0, none⟩) n cap) n ys ∧ ys.take o = xs.take o
  | [], o, w, xs, h => ⟨xs, h, rfl⟩
  | v :: cs, o, w, xs, h => by
    obtain ⟨ys, h1, h2⟩ := own_setCells cs (o + 1) (h.stored o v).1
    refine ⟨ys, h1, ?_⟩
    have h3 := congrArg (List.take o) h2
    rw [List.take_take, List.take_take, Nat.min_eq_left (by omega), List.take_set_of_le (by omega)] at h3
    exact h3
def zc (n : Nat) : List Value := (Builtin.zeroCells #[.int .i64 0, .int .i64 0] n).toList
theorem zc_len (n : Nat) : (zc n).length = n * 2 := by simp [zc, Builtin.zeroCells]
theorem zc_cell (n : Nat) : ∀ v ∈ zc n, v.oneCell' = true := fun v hv => by
  simp only [zc, Builtin.zeroCells, Array.toList_map, List.mem_map] at hv
  obtain ⟨i, _, rfl⟩ := hv
  rcases (by omega : i % 2 = 0 ∨ i % 2 = 1) with h | h <;> simp [h, Value.oneCell']
theorem run_clear2 {P : Program} (w : World) (t e ty : TypeId) (ht : P.underlying t = some (.slice e)) (hv : ∀ w, (zeroValue e).run P w = .ok (.agg #[.int .i64 0, .int .i64 0]) w) (b o n c : Nat) (hn : 0 < n)
    (hc : ∀ j, j < n * 2 → (w.cell? ⟨b, o + j, none⟩).isSome = true) (hf : ∀ j, j < n * 2 → w.frozen? ⟨b, o + j, none⟩ = false) :
    (Builtin.clear_ #[t] ty #[.slice (some ⟨b, o, none⟩) n c]).run P w = .ok (.tuple #[]) (w.setCells b o (zc n)) := by
  have hst := run_storeCells_cells (P := P) b o (zc n) 0 w (by simpa [zc_len] using hc) (by simpa [zc_len] using hf) (zc_cell n)
  simp only [Nat.add_zero] at hst
  have hcl : (Value.agg #[.int .i64 0, .int .i64 0]).cells = #[.int .i64 0, .int .i64 0] := rfl
  obtain ⟨m, rfl⟩ : ∃ m, n = m + 1 := ⟨n - 1, by omega⟩
  simp only [zc] at hst
  simp [Builtin.clear_, run_underlying ht, hv, hcl, hst, zc]

def RimCl (gf mb b : Nat) : Prop := ∀ (c : Ce) (W : World) (n : Nat) (l : List Ce), Seen W mb b n l → WfC c → n < 4000000 →
  Calls Try.prog gf (#[.agg #[.int .i64 c.1, .int .i64 c.2]] ++ #[.pointer (some ⟨mb, 0, none⟩)]) W fun e w' => e = .returned (.bool (decide (c ∈ l))) ∧ Seen w' mb b (n + 1) (l ++ [c]) ∧ W.grownBy w' (some b)

set_option maxRecDepth 100000 in
set_option maxHeartbeats 2000000 in
theorem idxSeen (gf : Nat) (eg : ∀ args w, (callFunc gf args).run Try.prog w = .ok (.enter gf args) w) (g N cap B mb b : Nat) (xs : List Ce) (W : World) (hcl : RimCl gf mb b)
    (ho : W.ownsRow B 26 2 (.slice (some ⟨g, 0, none⟩) N cap) N (pairs xs)) (hN : xs.length = N) (hs : N ≤ 4000) (hS : Seen W mb b 0 []) (hgb : g ≠ b) (hwf : ∀ c ∈ xs, WfC c) :
    Calls Try.prog 83 #[.slice (some ⟨g, 0, none⟩) N cap, .func (.func gf) #[] #[.pointer (some ⟨mb, 0, none⟩)]] W fun e w' => W.grownBy w' (some b) ∧
      ((e = .returned (.int .i64 (-1)) ∧ xs.Nodup) ∨ ∃ k : Nat, k < N ∧ e = .returned (.int .i64 k) ∧ (xs.take k).Nodup ∧ (∃ c, xs[k]? = some c ∧ c ∈ xs.take k) ∧ Seen w' mb b (k + 1) (xs.take (k + 1))) := by
  have HCL := Lib.hid hcl
  have HO := Lib.hid ho
  have HN := Lib.hid hN
  have HWF := Lib.hid hwf
  have HS := Lib.hid hS
  have hcc : N ≤ cap ∧ cap ≤ maxLen := by
    rcases ho.2 with ⟨h', _⟩ | ⟨g', cap', cur, h', hb, hg, hnc, hcm, hcs, htake⟩
    · simp at h'
    · simp only [Value.slice.injEq] at h'
      obtain ⟨_, _, rfl⟩ := h'
      exact ⟨hnc, hcm⟩
  obtain ⟨hc1, hc2⟩ := hcc
  clear hcl ho hN hwf hS
  go_enter Try.func83, Try.ntmps83
  go_wp2
  go_loopw [5, 8] (fun _ s8 wr => ∃ kk : Nat, kk ≤ N ∧ s8 = .int .i64 kk ∧ Hid (W.grownBy wr (some b)) ∧ Hid (Seen wr mb b kk (xs.take kk)) ∧ Hid (xs.take kk).Nodup) (fun _ s8 _ => N - (intOf s8).toNat)
  case atStart => exact ⟨0, Nat.zero_le _, rfl, Lib.hid (World.grownBy.refl _ _), Lib.hid HS.out, Lib.hid List.nodup_nil⟩
  case round =>
    obtain ⟨kk, hkk, rfl, HG, HSS, HND⟩ := hrel
    by_cases hlt : kk < N
    · obtain ⟨⟨x, y⟩, hx⟩ : ∃ x, xs[kk]? = some x := ⟨_, List.getElem?_eq_getElem (by rw [HN.out]; exact hlt)⟩
      obtain ⟨c1, c2⟩ := own_xyAt (HO.out.kept HG.out (.inr (fun e => hgb (Option.some.inj e)))) HN.out hx
      have hcall := Lib.hid (HCL.out (x, y) wr kk _ HSS.out (HWF.out _ (List.mem_of_getElem? hx)) (by omega))
      have HTK : Hid (xs.take (kk + 1) = xs.take kk ++ [(x, y)]) := Lib.hid (by rw [List.take_add_one, hx]; rfl)
      have HX := Lib.hid hx
      dsimp only at c1 c2
      clear hx
      obtain ⟨t, ht⟩ : ∃ t, decide ((x, y) ∈ xs.take kk) = t := ⟨_, rfl⟩
      rw [ht] at hcall
      have HT := Lib.hid ht
      clear ht
      cases t with
      | true =>
        go_wp2_with (go_at_fn gf; refine hcall.out.mono ?_; rintro e w' ⟨rfl, hs', hg'⟩)
        go_ret
        exact ⟨HG.out.trans hg', .inr ⟨kk, hlt, rfl, HND.out, ⟨_, HX.out, of_decide_eq_true HT.out⟩, by rw [HTK.out]; exact hs'⟩⟩
      | false =>
        have HND' : Hid (xs.take (kk + 1)).Nodup := Lib.hid (by
          rw [HTK.out]
          exact List.nodup_append.2 ⟨HND.out, by simp, fun a ha z hz => by rw [List.mem_singleton] at hz; subst hz; exact fun e => of_decide_eq_false HT.out (e ▸ ha)⟩)
        go_wp2_with (go_at_fn gf; refine hcall.out.mono ?_; rintro e w' ⟨rfl, hs', hg'⟩)
        go_roundw
        case rel => exact ⟨kk + 1, by omega, by go_num, Lib.hid (HG.out.trans hg'), Lib.hid (by rw [HTK.out]; exact hs'), HND'⟩
        case measure => simp [intOf]; omega
    · obtain rfl : kk = N := by omega
      go_wp2
      go_ret
      exact ⟨HG.out, .inl ⟨rfl, by have := HND.out; rwa [List.take_of_length_le (by rw [HN.out]; exact Nat.le_refl _)] at this⟩⟩
end Go.Proofs.Ytpakkjkjppibnaa

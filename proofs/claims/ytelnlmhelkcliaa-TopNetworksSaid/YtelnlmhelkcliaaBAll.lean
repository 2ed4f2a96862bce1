/- Benes: all: every permutation of n, handed over one by one. (printed by gen_all.py) -/
import Derived.Test.YtelnlmhelkcliaaBPm
namespace Go.Proofs.Ytelnlmhelkcliaa
open Go.RowKit Go.Shelf
attribute [local go_sem] Oper.semAt_some

/-- what is handed over -/
def RxP (B : Nat) (v : Value) (b : List Int) (W : World) : Prop := Rd W v (ints b) ∧ (b = [] → v = .slice none 0 0) ∧ ∀ a n c, v = .slice (some a) n c → B ≤ a.block
theorem rxP_own (B C : Nat) (v : Value) (b : List Int) : OwnFrom C (fun (_ : Unit) W => RxP B v b W) := fun _ _ _ _ ⟨h1, h2⟩ hg hr => ⟨h1.turned hg (fun r e => (hr r e).2), h2⟩
theorem no_stop {e : Ending} {p q : Prop} {r s : Ending} (h : (e = r ∧ false = false ∧ p ∧ q) ∨ (e = s ∧ False)) : e = r ∧ p ∧ q := by
  rcases h with ⟨h1, _, h2⟩ | ⟨_, h⟩
  · exact ⟨h1, h2⟩
  · exact h.elim
theorem wantOp {n : Nat} {P : Program} {ops : Array Oper} {o : Oper} {a : Act} {w : World} {K : Act → World → Prop} {Q : Exit → Act → World → Prop} {E : Prop} (hgd : o.guard = none) (h : o.wp P a w K Q) :
    if Region.wanted o (yielded ops a.tmps) = true then Oper.wpIn Fence.wide n P o a w K Q else E := by
  have hw : Region.wanted o (yielded ops a.tmps) = true := by simp [Region.wanted, hgd]
  rw [if_pos hw]
  exact opIn_wide h

theorem ins_A {wr w3 : World} (xs : List Int) (k N : Nat) (x : Int) {a3 : Option Addr} {c3 : Nat} (ho : w3.ownsRow wr.drew.heap.size 3 1 (.slice a3 N c3) N (ints xs)) (hb : Below wr.drew.heap.size wr.drew w3) (hN : xs.length = N) (hk : k ≤ N) (hs : N ≤ 1000) :
    Calls Try.prog 74 #[.slice a3 N c3, .int .i64 k, .slice (some ⟨w3.heap.size, 0, none⟩) 1 1] (w3.alloc (.cells #[.int .i64 x] 3)) fun e w' => ∃ b m c, e = .returned (.slice (some b) m c) ∧ Rd w' (.slice (some b) m c) (ints (insL xs k x)) ∧ wr.heap.size ≤ b.block ∧ wr.grownBy w' none := by
  subst hN
  have hsz : wr.heap.size ≤ w3.heap.size := hb.size
  have hown := own_below ho ((Below.refl w3.heap.size w3).alloc (Nat.le_refl _) (.cells #[.int .i64 x] 3))
  refine (insert_any xs wr.drew.heap.size k x _ w3.heap.size 3 _ hown hk hs (World.alloc_heap_new w3 _) (fun e => by have := (ho.lt _ e).2; omega) (by simp; omega)).mono ?_
  rintro e w' ⟨u, rfl, h1, ⟨a, m, c, rfl, h2⟩, h3⟩
  refine ⟨a, m, c, rfl, h1, h2, ?_⟩
  exact grown_new (B := w3.alloc (.cells #[.int .i64 x] 3)) (grown_trans (grown_trans (grown_drew wr none) (below_grown hb none)) (World.grownBy_alloc _ _ _)) h3 (fun j e => (ho.lt _ e).1)
theorem ins_B {wr w3 : World} (xs : List Int) (k N : Nat) (x : Int) {a3 : Option Addr} {c3 : Nat} (ho : w3.ownsRow (wr.alloc (.cells #[.int .i64 x] 3)).drew.heap.size 3 1 (.slice a3 N c3) N (ints xs))
    (hb : Below (wr.alloc (.cells #[.int .i64 x] 3)).drew.heap.size (wr.alloc (.cells #[.int .i64 x] 3)).drew w3) (hN : xs.length = N) (hk : k ≤ N) (hs : N ≤ 1000) :
    Calls Try.prog 74 #[.slice a3 N c3, .int .i64 k, .slice (some ⟨wr.heap.size, 0, none⟩) 1 1] w3 fun e w' => ∃ b m c, e = .returned (.slice (some b) m c) ∧ Rd w' (.slice (some b) m c) (ints (insL xs k x)) ∧ wr.heap.size ≤ b.block ∧ wr.grownBy w' none := by
  subst hN
  have hz : (wr.alloc (.cells #[.int .i64 x] 3)).drew.heap.size = wr.heap.size + 1 := by simp
  have hx : w3.heap[wr.heap.size]? = some (.cells #[.int .i64 x] 3) := (hb.block _ (by omega)).trans (World.alloc_heap_new wr _)
  have hsz := hb.size
  refine (insert_any xs _ k x _ wr.heap.size 3 _ ho hk hs hx (fun e => by have := (ho.lt _ e).1; omega) hsz).mono ?_
  rintro e w' ⟨u, rfl, h1, ⟨a, m, c, rfl, h2⟩, h3⟩
  refine ⟨a, m, c, rfl, h1, by omega, ?_⟩
  exact grown_new (B := w3) (grown_trans (grown_trans (World.grownBy_alloc _ _ _) (grown_drew _ none)) (below_grown hb none)) h3 (fun j e => by have := (ho.lt _ e).1; omega)
theorem all_any (n : Int) (w : World) :
    Calls Try.prog 62 #[.int .i64 n] w fun e w' => e = .returned (.func (.func 73) #[] #[.pointer (some ⟨w.heap.size, 0, none⟩)]) ∧ w' = w.alloc (.cells #[.int .i64 n] 3) := by
  go_enter Try.func62, Try.ntmps62
  go_wp2
  go_ret
  exact ⟨rfl, rfl⟩

set_option maxRecDepth 100000 in
set_option maxHeartbeats 4000000 in
theorem all_zero (X : Option Nat) (w0 : World) (Bn : Nat) (c1 : w0.cell? ⟨Bn, 0, none⟩ = some (.int .i64 0)) :
    SeqX Try.prog 73 #[.pointer (some ⟨Bn, 0, none⟩)] (RxP w0.heap.size) X (fun _ => false) (permsP 0) w0 := fun l J Jx W hW hJ hJx hY h0 => by
  have d1 := cell_below c1 hW
  have l1 : Bn < W.heap.size := World.block_lt_of_cell? _ _ d1
  obtain ⟨fn, tmps, assign, body, hy, hR⟩ := hY [] (.slice none 0 0) [] (W.alloc (.cells #[.func (.yield l) #[] #[]] 41)) (hJ.alloc _ h0) ⟨Rd.nil _, fun _ => rfl, fun a n c e => by cases e⟩ ⟨[], rfl⟩
  refine callsIn_of_wp Try.func73 rfl trivial ?_ rfl
  simp only [Try.ntmps73, List.size_toArray, List.length_cons, List.length_nil, Nat.reduceAdd, Nat.reduceSub, Array.replicate_succ, Array.replicate_zero, List.push_toArray, List.append_toArray, List.nil_append, List.cons_append]
  gi_wp2
  refine ⟨rfl, hR.mono ?_⟩
  rintro e W3 (⟨rfl, _, hJ3, hk3⟩ | ⟨_, hf, _⟩)
  · gi_wp2
    refine bodyPost_ret (results_none rfl _ _ _) rfl ?_
    exact ⟨⟨_, rfl⟩, .inl ⟨fun _ _ => by trivial, hJ3⟩⟩
  · cases hf

set_option maxRecDepth 100000 in
set_option maxHeartbeats 8000000 in
theorem all_succ (n : Nat) (hn : n ≤ 100) (IH : ∀ (X : Option Nat) (w0 : World) (Bn : Nat), (∀ k, X = some k → k < w0.heap.size) → some Bn ≠ X → w0.cell? ⟨Bn, 0, none⟩ = some (.int .i64 n) →
      SeqX Try.prog 73 #[.pointer (some ⟨Bn, 0, none⟩)] (RxP w0.heap.size) X (fun _ => false) (permsP n) w0)
    (X : Option Nat) (w0 : World) (Bn : Nat) (hX : ∀ k, X = some k → k < w0.heap.size) (hBn : some Bn ≠ X) (c1 : w0.cell? ⟨Bn, 0, none⟩ = some (.int .i64 ((n : Int) + 1))) :
    SeqX Try.prog 73 #[.pointer (some ⟨Bn, 0, none⟩)] (RxP w0.heap.size) X (fun _ => false) (permsP (n + 1)) w0 := fun l J Jx W hW hJ hJx hY h0 => by
  have d1 := cell_below c1 hW
  have l1 : Bn < W.heap.size := World.block_lt_of_cell? _ _ d1
  have h0W := hW.size
  have hXW : ∀ k, X = some k → k < W.heap.size := fun k e => Nat.lt_of_lt_of_le (hX k e) hW.size
  have IH' := Lib.hid IH
  clear IH c1 hX hW
  have hz : (((n : Int) + 1) == 0) = false := by simp; omega
  have hw1 : IntKind.i64.wrap ((n : Int) + 1 - 1) = (n : Int) := by rw [show (n : Int) + 1 - 1 = n by omega]; exact IntWalk.i64_in _ ⟨by omega, by omega⟩
  have hw2 : IntKind.i64.wrap (n : Int) = (n : Int) := IntWalk.i64_in _ ⟨by omega, by omega⟩
  obtain ⟨V, hV⟩ : ∃ V, W.alloc (.cells #[.func (.yield l) #[] #[]] 41) = V := ⟨_, rfl⟩
  have vS : V.heap.size = W.heap.size + 1 := by rw [← hV]; simp
  have vC : V.cell? ⟨W.heap.size, 0, none⟩ = some (.func (.yield l) #[] #[]) := by rw [← hV]; exact World.cell?_alloc_at _ _ _ _ rfl
  have v1 : V.cell? ⟨Bn, 0, none⟩ = some (.int .i64 ((n : Int) + 1)) := by rw [← hV]; exact cell_alloc d1 _
  have vJ : J [] V := by rw [← hV]; exact hJ.alloc _ h0
  have hCX : some W.heap.size ≠ X := fun e => by have := hXW _ e.symm; omega
  have hJ' := Lib.hid hJ
  have hY' := Lib.hid hY
  have VJ := Lib.hid vJ
  refine callsIn_of_wp_marks Try.func73 rfl trivial ?_ rfl
  simp only [Try.ntmps73, List.size_toArray, List.length_cons, List.length_nil, Nat.reduceAdd, Nat.reduceSub, Array.replicate_succ, Array.replicate_zero, List.push_toArray, List.append_toArray, List.nil_append, List.cons_append]
  clear hJ hJx hY h0 vJ
  gi_wp2_with (first
    | (refine ⟨trivial, rfl, ?_⟩; gi_at_call 62; refine (callsIn_wide.2 (all_any _ _)).mono ?_; rintro e w5 ⟨rfl, rfl⟩))
  obtain ⟨w5, hw5⟩ : ∃ w5, V.alloc (.cells #[.int .i64 n] 3) = w5 := ⟨_, rfl⟩
  have z5 : w5.heap.size = W.heap.size + 2 := by rw [← hw5]; simp; omega
  have g5 : V.grownBy w5 none := by rw [← hw5]; exact World.grownBy_alloc _ _ _
  have f2 : w5.cell? ⟨W.heap.size + 1, 0, none⟩ = some (.int .i64 n) := by rw [← hw5]; exact World.cell?_alloc_at _ _ _ _ (by omega)
  have f1 := g5.cell v1 (by simp)
  have f4 := g5.cell vC (by simp)
  try simp only [World.size_alloc]
  try rw [hV]
  rw [hw5]
  have hX5 : ∀ k, X = some k → k < w5.heap.size := fun j e => by have := hXW j e; omega
  have nX : ∀ j, W.heap.size ≤ j → some j ≠ X := fun j hj e => by have := hXW j e.symm; omega
  refine rangeX (X := X) (stop := fun _ => false) (T := permsP n) (Rx := RxP w5.heap.size) (gf := 73) (lb := #[.pointer (some ⟨W.heap.size + 1, 0, none⟩)]) rfl (enters_of Try.func73 (by kernel_rfl) rfl)
    (IH'.out X w5 (W.heap.size + 1) hX5 (nX _ (by omega)) f2) hX5 rfl (fun v b => rxP_own _ _ v b)
    (fun pre W' => Hid (J (pre.flatMap fun r => (List.range (n + 1)).map fun k => insL r k n) W') ∧ w5.grownBy W' X) (fun _ _ => False)
    (fun s A B row ⟨q1, q2⟩ hg hr => ⟨Lib.hid (hJ'.out _ A B row q1.out hg (fun r e => ⟨by have := (hr r e).1; omega, (hr r e).2⟩)), grown_above q2 hg (fun r e => (hr r e).1)⟩) (fun _ _ _ _ k _ _ => k)
    ⟨Lib.hid (hJ'.out _ V w5 none VJ.out g5 (fun _ e => by cases e)), World.grownBy.refl _ _⟩
    (fun v a' _ => a' = { tmps := #[.func (.yield l) #[] #[], .pointer (some ⟨Bn, 0, none⟩), .pointer (some ⟨W.heap.size, 0, none⟩), v, undef, .int .i64 ((n : Int) + 1), .bool false, undef, undef, .int .i64 ((n : Int) + 1), .int .i64 n, .func (.func 73) #[] #[.pointer (some ⟨W.heap.size + 1, 0, none⟩)], v, undef, undef, undef, undef, undef, undef, undef, undef, undef, undef, undef, undef, undef, undef, undef], defers := [] })
    (fun v a' _ A B row h _ _ => h)
    ?assign ?body ?done ?stop
  case assign =>
    rintro l' v b W' K hge hx hK
    gi_wp2
    exact hK _ _ (Below.refl _ _) rfl
  case body =>
    rintro l' pre xv xs a' W' hl ⟨r, hr⟩ ⟨HJp, hg'⟩ ⟨hx1, hx2, hx3⟩ rfl ⟨posto, hpo⟩
    have hxl := permsP_len n xs (by rw [hpo]; simp)
    have e1 := hg'.cell f1 hBn
    have e4 := hg'.cell f4 hCX
    have le1 : Bn < W'.heap.size := World.block_lt_of_cell? _ _ e1
    have le4 : W.heap.size < W'.heap.size := World.block_lt_of_cell? _ _ e4
    have hXo : ∀ a m c, xv = .slice (some a) m c → some a.block ≠ X := fun a m c e hh => by
      have h1 := hx3 a m c e
      have h2 := hX5 _ hh.symm
      omega
    have HX1 := Lib.hid hx1
    have HX2 := Lib.hid hx2
    have HXO := Lib.hid hXo
    have HXL := Lib.hid hxl
    have HPO := Lib.hid hpo
    have HG' := Lib.hid hg'
    have HSZ : Hid (w0.heap.size ≤ W'.heap.size) := Lib.hid (by have := hg'.size; omega)
    clear hx1 hx2 hx3 hXo hxl hpo hg' hr
    gi_wp2
    refine wpIn_loop (fun a' w' => ∃ (u4 u14 u15 u16 u17 u18 u19 u20 u21 u22 u23 u24 u25 u26 u27 : Value), (∃ k : Nat, k ≤ n + 1 ∧ u14 = .int .i64 k ∧ Hid (J ((pre.flatMap fun r => (List.range (n + 1)).map fun k => insL r k n) ++ (List.range k).map fun k => insL xs k n) w') ∧ W'.grownBy w' X) ∧ a' = { tmps := #[.func (.yield l) #[] #[], .pointer (some ⟨Bn, 0, none⟩), .pointer (some ⟨W.heap.size, 0, none⟩), xv, u4, .int .i64 ((n : Int) + 1), .bool false, undef, undef, .int .i64 ((n : Int) + 1), .int .i64 n, .func (.func 73) #[] #[.pointer (some ⟨W.heap.size + 1, 0, none⟩)], xv, .int .i64 ((n : Int) + 1), u14, u15, u16, u17, u18, u19, u20, u21, u22, u23, u24, u25, u26, u27], defers := [] }) (fun a' _ => n + 1 - (intOf (a'.tmps.getD 14 undef)).toNat) ?start ?round
    case start =>
      (repeat apply Exists.intro)
      refine ⟨?_, rfl⟩
      exact ⟨0, Nat.zero_le _, rfl, Lib.hid (by simpa using HJp.out), World.grownBy.refl _ _⟩
    case round =>
      intro _ wr hinv
      obtain ⟨u4, u14, u15, u16, u17, u18, u19, u20, u21, u22, u23, u24, u25, u26, u27, ⟨k, hk, rfl, HJk, hgr⟩, ha⟩ := hinv
      subst ha
      dsimp only
      have r1 := hgr.cell e1 hBn
      have r4 := hgr.cell e4 hCX
      have m1 : Bn < wr.heap.size := World.block_lt_of_cell? _ _ r1
      have m4 : W.heap.size < wr.heap.size := World.block_lt_of_cell? _ _ r4
      have HGR := Lib.hid hgr
      have HRD := Lib.hid (grown_rd hgr HX1.out HXO.out)
      clear hgr e1 e4
      by_cases hlt : k < n + 1
      · have hki : decide ((k : Int) < (n : Int) + 1) = true := by simp; omega
        gi_wp2
        refine region_roundIn (by kernel_rfl) (by kernel_rfl) ?_
        change wpAnyIn _ _ _ _ _ _ _ _ _ (World.drew _)
        refine wpAnyIn_take (i := 1) (v := ?_) rfl rfl (by kernel_rfl) (by kernel_rfl) (by kernel_rfl) (fun _ _ _ h => h) ⟨Or.inl ⟨by rfl, by intro w; go_simp; try with_reducible rfl⟩, fun _ => rfl⟩ ?_
        refine wpAnyIn_take (i := 3) (v := ?_) rfl rfl (by kernel_rfl) (by kernel_rfl) (by kernel_rfl) (fun _ _ _ h => h) ⟨Or.inl ⟨by rfl, by intro w; go_simp; try with_reducible rfl⟩, fun _ => rfl⟩ ?_
        refine wpAnyIn_ready (rs := [0, 2, 4]) (by kernel_rfl) (by simp) ?_
        refine AllReadyIn.cons rfl (fun K hK => ?_) ?_
        · go_simp
          refine hK _ _ ?_
          clear hK K
          refine wpAnyIn_ready (rs := [2, 4]) (by kernel_rfl) (by simp) ?_
          refine AllReadyIn.cons rfl (fun K hK => ?_) ?_
          · (refine wantOp rfl ?_; go_simp; go_at_call 75; refine (clone_both _ xs _ (HRD.out.below (by first | exact (Below.refl _ _).drew | exact ((Below.refl _ _).drew).alloc (Nat.le_refl _) _ | exact ((Below.refl _ _).alloc (Nat.le_refl _) _).drew) (Nat.le_refl _)) HX2.out (by have := HXL.out; omega)).mono ?_; rintro e w3 ⟨a3, c3, rfl, ho3, hb3⟩; have HO3 := Lib.hid ho3; have HB3 := Lib.hid hb3; rw [HXL.out] at HO3 ⊢; have s1 : w3.cell? ⟨Bn, 0, none⟩ = some (.int .i64 ((n : Int) + 1)) := cell_below (by first | exact r1 | exact cell_alloc r1 _) hb3; have s4 : w3.cell? ⟨W.heap.size, 0, none⟩ = some (.func (.yield l) #[] #[]) := cell_below (by first | exact r4 | exact cell_alloc r4 _) hb3; have t1 := World.block_lt_of_cell? _ _ s1; have t4 := World.block_lt_of_cell? _ _ s4; clear ho3 hb3)
            refine hK _ _ ?_
            clear hK K
            refine wpAnyIn_ready (rs := [4]) (by kernel_rfl) (by simp) ?_
            refine AllReadyIn.cons rfl (fun K hK => ?_) ?_
            · go_simp
              refine hK _ _ ?_
              clear hK K
              refine wpAnyIn_take (i := 5) (v := ?_) rfl rfl (by kernel_rfl) (by kernel_rfl) (by kernel_rfl) (fun _ _ _ h => h) ⟨Or.inl ⟨by rfl, by intro w; go_simp; try with_reducible rfl⟩, fun _ => rfl⟩ ?_
              refine wpAnyIn_ready (rs := [6]) (by kernel_rfl) (by simp) ?_
              refine AllReadyIn.cons rfl (fun K hK => ?_) ?_
              · go_simp
                refine hK _ _ ?_
                clear hK K
                refine wpAnyIn_ready (rs := [7]) (by kernel_rfl) (by simp) ?_
                refine AllReadyIn.cons rfl (fun K hK => ?_) ?_
                · (refine wantOp rfl ?_; go_simp; go_at_call 74; (first | (with_reducible refine (ins_A xs k n n HO3.out HB3.out HXL.out (by omega) (by omega)).mono ?_) | (with_reducible refine (ins_B xs k n n HO3.out HB3.out HXL.out (by omega) (by omega)).mono ?_)); rintro e w4 ⟨b4, n4, c4, rfl, hr4, hb4, hg4⟩; have v1' := hg4.cell r1 (by simp); have v4' := hg4.cell r4 (by simp); have y1 := World.block_lt_of_cell? _ _ v1'; have y4 := World.block_lt_of_cell? _ _ v4'; obtain ⟨fn, tmps, asg, bd, hy, hR⟩ := hY'.out _ (.slice (some b4) n4 c4) (insL xs k n) w4 (hJ'.out _ wr w4 none HJk.out hg4 (fun _ e => by cases e)) ⟨hr4, fun e => absurd e (by simp [insL]), fun a m c e => by cases e; have := HSZ.out; have := HGR.out.size; omega⟩ (perms_cut HPO.out hlt); have HG4 := Lib.hid hg4; clear hr4 hb4 hg4)
                  refine hK _ _ ?_
                  clear hK K
                  refine wpAnyIn_ready (rs := [8]) (by kernel_rfl) (by simp) ?_
                  refine AllReadyIn.cons rfl (fun K hK => ?_) ?_
                  · (go_simp; refine ⟨rfl, hR.mono ?_⟩; rintro e W3 (⟨rfl, _, hJ3, hk3⟩ | ⟨_, hf, _⟩); rotate_left; (exact absurd hf (by simp)))
                    refine hK _ _ ?_
                    clear hK K
                    refine wpAnyIn_take (i := 9) (v := ?_) rfl rfl (by kernel_rfl) (by kernel_rfl) (by kernel_rfl) (fun _ _ _ h => h) ⟨Or.inl ⟨by rfl, by intro w; go_simp; try with_reducible rfl⟩, fun _ => rfl⟩ ?_
                    refine wpAnyIn_done (by kernel_rfl) ?_ _
                    gi_wp2
                    refine ⟨?_, ?_⟩
                    rotate_left
                    · simp [intOf]; omega
                    have e9 : (List.range (k + 1)).map (fun q => insL xs q n) = (List.range k).map (fun q => insL xs q n) ++ [insL xs k n] := by rw [List.range_succ, List.map_append]; rfl
                    exact ⟨k + 1, by omega, by go_num, Lib.hid (by rw [e9, ← List.append_assoc]; exact hJ3), grown_trans HGR.out (grown_trans (grown_none HG4.out X) hk3)⟩
                  exact AllReadyIn.nil
                exact AllReadyIn.nil
              exact AllReadyIn.nil
            exact AllReadyIn.nil
          refine AllReadyIn.cons rfl (fun K hK => ?_) ?_
          · go_simp
            refine hK _ _ ?_
            clear hK K
            refine wpAnyIn_take (i := 5) (v := ?_) rfl rfl (by kernel_rfl) (by kernel_rfl) (by kernel_rfl) (fun _ _ _ h => h) ⟨Or.inl ⟨by rfl, by intro w; go_simp; try with_reducible rfl⟩, fun _ => rfl⟩ ?_
            refine wpAnyIn_ready (rs := [2, 6]) (by kernel_rfl) (by simp) ?_
            refine AllReadyIn.cons rfl (fun K hK => ?_) ?_
            · (refine wantOp rfl ?_; go_simp; go_at_call 75; refine (clone_both _ xs _ (HRD.out.below (by first | exact (Below.refl _ _).drew | exact ((Below.refl _ _).drew).alloc (Nat.le_refl _) _ | exact ((Below.refl _ _).alloc (Nat.le_refl _) _).drew) (Nat.le_refl _)) HX2.out (by have := HXL.out; omega)).mono ?_; rintro e w3 ⟨a3, c3, rfl, ho3, hb3⟩; have HO3 := Lib.hid ho3; have HB3 := Lib.hid hb3; rw [HXL.out] at HO3 ⊢; have s1 : w3.cell? ⟨Bn, 0, none⟩ = some (.int .i64 ((n : Int) + 1)) := cell_below (by first | exact r1 | exact cell_alloc r1 _) hb3; have s4 : w3.cell? ⟨W.heap.size, 0, none⟩ = some (.func (.yield l) #[] #[]) := cell_below (by first | exact r4 | exact cell_alloc r4 _) hb3; have t1 := World.block_lt_of_cell? _ _ s1; have t4 := World.block_lt_of_cell? _ _ s4; clear ho3 hb3)
              refine hK _ _ ?_
              clear hK K
              refine wpAnyIn_ready (rs := [6]) (by kernel_rfl) (by simp) ?_
              refine AllReadyIn.cons rfl (fun K hK => ?_) ?_
              · go_simp
                refine hK _ _ ?_
                clear hK K
                refine wpAnyIn_ready (rs := [7]) (by kernel_rfl) (by simp) ?_
                refine AllReadyIn.cons rfl (fun K hK => ?_) ?_
                · (refine wantOp rfl ?_; go_simp; go_at_call 74; (first | (with_reducible refine (ins_A xs k n n HO3.out HB3.out HXL.out (by omega) (by omega)).mono ?_) | (with_reducible refine (ins_B xs k n n HO3.out HB3.out HXL.out (by omega) (by omega)).mono ?_)); rintro e w4 ⟨b4, n4, c4, rfl, hr4, hb4, hg4⟩; have v1' := hg4.cell r1 (by simp); have v4' := hg4.cell r4 (by simp); have y1 := World.block_lt_of_cell? _ _ v1'; have y4 := World.block_lt_of_cell? _ _ v4'; obtain ⟨fn, tmps, asg, bd, hy, hR⟩ := hY'.out _ (.slice (some b4) n4 c4) (insL xs k n) w4 (hJ'.out _ wr w4 none HJk.out hg4 (fun _ e => by cases e)) ⟨hr4, fun e => absurd e (by simp [insL]), fun a m c e => by cases e; have := HSZ.out; have := HGR.out.size; omega⟩ (perms_cut HPO.out hlt); have HG4 := Lib.hid hg4; clear hr4 hb4 hg4)
                  refine hK _ _ ?_
                  clear hK K
                  refine wpAnyIn_ready (rs := [8]) (by kernel_rfl) (by simp) ?_
                  refine AllReadyIn.cons rfl (fun K hK => ?_) ?_
                  · (go_simp; refine ⟨rfl, hR.mono ?_⟩; rintro e W3 (⟨rfl, _, hJ3, hk3⟩ | ⟨_, hf, _⟩); rotate_left; (exact absurd hf (by simp)))
                    refine hK _ _ ?_
                    clear hK K
                    refine wpAnyIn_take (i := 9) (v := ?_) rfl rfl (by kernel_rfl) (by kernel_rfl) (by kernel_rfl) (fun _ _ _ h => h) ⟨Or.inl ⟨by rfl, by intro w; go_simp; try with_reducible rfl⟩, fun _ => rfl⟩ ?_
                    refine wpAnyIn_done (by kernel_rfl) ?_ _
                    gi_wp2
                    refine ⟨?_, ?_⟩
                    rotate_left
                    · simp [intOf]; omega
                    have e9 : (List.range (k + 1)).map (fun q => insL xs q n) = (List.range k).map (fun q => insL xs q n) ++ [insL xs k n] := by rw [List.range_succ, List.map_append]; rfl
                    exact ⟨k + 1, by omega, by go_num, Lib.hid (by rw [e9, ← List.append_assoc]; exact hJ3), grown_trans HGR.out (grown_trans (grown_none HG4.out X) hk3)⟩
                  exact AllReadyIn.nil
                exact AllReadyIn.nil
              exact AllReadyIn.nil
            refine AllReadyIn.cons rfl (fun K hK => ?_) ?_
            · go_simp
              refine hK _ _ ?_
              clear hK K
              refine wpAnyIn_ready (rs := [2]) (by kernel_rfl) (by simp) ?_
              refine AllReadyIn.cons rfl (fun K hK => ?_) ?_
              · (refine wantOp rfl ?_; go_simp; go_at_call 75; refine (clone_both _ xs _ (HRD.out.below (by first | exact (Below.refl _ _).drew | exact ((Below.refl _ _).drew).alloc (Nat.le_refl _) _ | exact ((Below.refl _ _).alloc (Nat.le_refl _) _).drew) (Nat.le_refl _)) HX2.out (by have := HXL.out; omega)).mono ?_; rintro e w3 ⟨a3, c3, rfl, ho3, hb3⟩; have HO3 := Lib.hid ho3; have HB3 := Lib.hid hb3; rw [HXL.out] at HO3 ⊢; have s1 : w3.cell? ⟨Bn, 0, none⟩ = some (.int .i64 ((n : Int) + 1)) := cell_below (by first | exact r1 | exact cell_alloc r1 _) hb3; have s4 : w3.cell? ⟨W.heap.size, 0, none⟩ = some (.func (.yield l) #[] #[]) := cell_below (by first | exact r4 | exact cell_alloc r4 _) hb3; have t1 := World.block_lt_of_cell? _ _ s1; have t4 := World.block_lt_of_cell? _ _ s4; clear ho3 hb3)
                refine hK _ _ ?_
                clear hK K
                refine wpAnyIn_ready (rs := [7]) (by kernel_rfl) (by simp) ?_
                refine AllReadyIn.cons rfl (fun K hK => ?_) ?_
                · (refine wantOp rfl ?_; go_simp; go_at_call 74; (first | (with_reducible refine (ins_A xs k n n HO3.out HB3.out HXL.out (by omega) (by omega)).mono ?_) | (with_reducible refine (ins_B xs k n n HO3.out HB3.out HXL.out (by omega) (by omega)).mono ?_)); rintro e w4 ⟨b4, n4, c4, rfl, hr4, hb4, hg4⟩; have v1' := hg4.cell r1 (by simp); have v4' := hg4.cell r4 (by simp); have y1 := World.block_lt_of_cell? _ _ v1'; have y4 := World.block_lt_of_cell? _ _ v4'; obtain ⟨fn, tmps, asg, bd, hy, hR⟩ := hY'.out _ (.slice (some b4) n4 c4) (insL xs k n) w4 (hJ'.out _ wr w4 none HJk.out hg4 (fun _ e => by cases e)) ⟨hr4, fun e => absurd e (by simp [insL]), fun a m c e => by cases e; have := HSZ.out; have := HGR.out.size; omega⟩ (perms_cut HPO.out hlt); have HG4 := Lib.hid hg4; clear hr4 hb4 hg4)
                  refine hK _ _ ?_
                  clear hK K
                  refine wpAnyIn_ready (rs := [8]) (by kernel_rfl) (by simp) ?_
                  refine AllReadyIn.cons rfl (fun K hK => ?_) ?_
                  · (go_simp; refine ⟨rfl, hR.mono ?_⟩; rintro e W3 (⟨rfl, _, hJ3, hk3⟩ | ⟨_, hf, _⟩); rotate_left; (exact absurd hf (by simp)))
                    refine hK _ _ ?_
                    clear hK K
                    refine wpAnyIn_take (i := 9) (v := ?_) rfl rfl (by kernel_rfl) (by kernel_rfl) (by kernel_rfl) (fun _ _ _ h => h) ⟨Or.inl ⟨by rfl, by intro w; go_simp; try with_reducible rfl⟩, fun _ => rfl⟩ ?_
                    refine wpAnyIn_done (by kernel_rfl) ?_ _
                    gi_wp2
                    refine ⟨?_, ?_⟩
                    rotate_left
                    · simp [intOf]; omega
                    have e9 : (List.range (k + 1)).map (fun q => insL xs q n) = (List.range k).map (fun q => insL xs q n) ++ [insL xs k n] := by rw [List.range_succ, List.map_append]; rfl
                    exact ⟨k + 1, by omega, by go_num, Lib.hid (by rw [e9, ← List.append_assoc]; exact hJ3), grown_trans HGR.out (grown_trans (grown_none HG4.out X) hk3)⟩
                  exact AllReadyIn.nil
                exact AllReadyIn.nil
              exact AllReadyIn.nil
            exact AllReadyIn.nil
          exact AllReadyIn.nil
        refine AllReadyIn.cons rfl (fun K hK => ?_) ?_
        · (refine wantOp rfl ?_; go_simp; go_at_call 75; refine (clone_both _ xs _ (HRD.out.below (by first | exact (Below.refl _ _).drew | exact ((Below.refl _ _).drew).alloc (Nat.le_refl _) _ | exact ((Below.refl _ _).alloc (Nat.le_refl _) _).drew) (Nat.le_refl _)) HX2.out (by have := HXL.out; omega)).mono ?_; rintro e w3 ⟨a3, c3, rfl, ho3, hb3⟩; have HO3 := Lib.hid ho3; have HB3 := Lib.hid hb3; rw [HXL.out] at HO3 ⊢; have s1 : w3.cell? ⟨Bn, 0, none⟩ = some (.int .i64 ((n : Int) + 1)) := cell_below (by first | exact r1 | exact cell_alloc r1 _) hb3; have s4 : w3.cell? ⟨W.heap.size, 0, none⟩ = some (.func (.yield l) #[] #[]) := cell_below (by first | exact r4 | exact cell_alloc r4 _) hb3; have t1 := World.block_lt_of_cell? _ _ s1; have t4 := World.block_lt_of_cell? _ _ s4; clear ho3 hb3)
          refine hK _ _ ?_
          clear hK K
          refine wpAnyIn_ready (rs := [0, 4]) (by kernel_rfl) (by simp) ?_
          refine AllReadyIn.cons rfl (fun K hK => ?_) ?_
          · go_simp
            refine hK _ _ ?_
            clear hK K
            refine wpAnyIn_ready (rs := [4]) (by kernel_rfl) (by simp) ?_
            refine AllReadyIn.cons rfl (fun K hK => ?_) ?_
            · go_simp
              refine hK _ _ ?_
              clear hK K
              refine wpAnyIn_take (i := 5) (v := ?_) rfl rfl (by kernel_rfl) (by kernel_rfl) (by kernel_rfl) (fun _ _ _ h => h) ⟨Or.inl ⟨by rfl, by intro w; go_simp; try with_reducible rfl⟩, fun _ => rfl⟩ ?_
              refine wpAnyIn_ready (rs := [6]) (by kernel_rfl) (by simp) ?_
              refine AllReadyIn.cons rfl (fun K hK => ?_) ?_
              · go_simp
                refine hK _ _ ?_
                clear hK K
                refine wpAnyIn_ready (rs := [7]) (by kernel_rfl) (by simp) ?_
                refine AllReadyIn.cons rfl (fun K hK => ?_) ?_
                · (refine wantOp rfl ?_; go_simp; go_at_call 74; (first | (with_reducible refine (ins_A xs k n n HO3.out HB3.out HXL.out (by omega) (by omega)).mono ?_) | (with_reducible refine (ins_B xs k n n HO3.out HB3.out HXL.out (by omega) (by omega)).mono ?_)); rintro e w4 ⟨b4, n4, c4, rfl, hr4, hb4, hg4⟩; have v1' := hg4.cell r1 (by simp); have v4' := hg4.cell r4 (by simp); have y1 := World.block_lt_of_cell? _ _ v1'; have y4 := World.block_lt_of_cell? _ _ v4'; obtain ⟨fn, tmps, asg, bd, hy, hR⟩ := hY'.out _ (.slice (some b4) n4 c4) (insL xs k n) w4 (hJ'.out _ wr w4 none HJk.out hg4 (fun _ e => by cases e)) ⟨hr4, fun e => absurd e (by simp [insL]), fun a m c e => by cases e; have := HSZ.out; have := HGR.out.size; omega⟩ (perms_cut HPO.out hlt); have HG4 := Lib.hid hg4; clear hr4 hb4 hg4)
                  refine hK _ _ ?_
                  clear hK K
                  refine wpAnyIn_ready (rs := [8]) (by kernel_rfl) (by simp) ?_
                  refine AllReadyIn.cons rfl (fun K hK => ?_) ?_
                  · (go_simp; refine ⟨rfl, hR.mono ?_⟩; rintro e W3 (⟨rfl, _, hJ3, hk3⟩ | ⟨_, hf, _⟩); rotate_left; (exact absurd hf (by simp)))
                    refine hK _ _ ?_
                    clear hK K
                    refine wpAnyIn_take (i := 9) (v := ?_) rfl rfl (by kernel_rfl) (by kernel_rfl) (by kernel_rfl) (fun _ _ _ h => h) ⟨Or.inl ⟨by rfl, by intro w; go_simp; try with_reducible rfl⟩, fun _ => rfl⟩ ?_
                    refine wpAnyIn_done (by kernel_rfl) ?_ _
                    gi_wp2
                    refine ⟨?_, ?_⟩
                    rotate_left
                    · simp [intOf]; omega
                    have e9 : (List.range (k + 1)).map (fun q => insL xs q n) = (List.range k).map (fun q => insL xs q n) ++ [insL xs k n] := by rw [List.range_succ, List.map_append]; rfl
                    exact ⟨k + 1, by omega, by go_num, Lib.hid (by rw [e9, ← List.append_assoc]; exact hJ3), grown_trans HGR.out (grown_trans (grown_none HG4.out X) hk3)⟩
                  exact AllReadyIn.nil
                exact AllReadyIn.nil
              exact AllReadyIn.nil
            exact AllReadyIn.nil
          refine AllReadyIn.cons rfl (fun K hK => ?_) ?_
          · go_simp
            refine hK _ _ ?_
            clear hK K
            refine wpAnyIn_take (i := 5) (v := ?_) rfl rfl (by kernel_rfl) (by kernel_rfl) (by kernel_rfl) (fun _ _ _ h => h) ⟨Or.inl ⟨by rfl, by intro w; go_simp; try with_reducible rfl⟩, fun _ => rfl⟩ ?_
            refine wpAnyIn_ready (rs := [0, 6]) (by kernel_rfl) (by simp) ?_
            refine AllReadyIn.cons rfl (fun K hK => ?_) ?_
            · go_simp
              refine hK _ _ ?_
              clear hK K
              refine wpAnyIn_ready (rs := [6]) (by kernel_rfl) (by simp) ?_
              refine AllReadyIn.cons rfl (fun K hK => ?_) ?_
              · go_simp
                refine hK _ _ ?_
                clear hK K
                refine wpAnyIn_ready (rs := [7]) (by kernel_rfl) (by simp) ?_
                refine AllReadyIn.cons rfl (fun K hK => ?_) ?_
                · (refine wantOp rfl ?_; go_simp; go_at_call 74; (first | (with_reducible refine (ins_A xs k n n HO3.out HB3.out HXL.out (by omega) (by omega)).mono ?_) | (with_reducible refine (ins_B xs k n n HO3.out HB3.out HXL.out (by omega) (by omega)).mono ?_)); rintro e w4 ⟨b4, n4, c4, rfl, hr4, hb4, hg4⟩; have v1' := hg4.cell r1 (by simp); have v4' := hg4.cell r4 (by simp); have y1 := World.block_lt_of_cell? _ _ v1'; have y4 := World.block_lt_of_cell? _ _ v4'; obtain ⟨fn, tmps, asg, bd, hy, hR⟩ := hY'.out _ (.slice (some b4) n4 c4) (insL xs k n) w4 (hJ'.out _ wr w4 none HJk.out hg4 (fun _ e => by cases e)) ⟨hr4, fun e => absurd e (by simp [insL]), fun a m c e => by cases e; have := HSZ.out; have := HGR.out.size; omega⟩ (perms_cut HPO.out hlt); have HG4 := Lib.hid hg4; clear hr4 hb4 hg4)
                  refine hK _ _ ?_
                  clear hK K
                  refine wpAnyIn_ready (rs := [8]) (by kernel_rfl) (by simp) ?_
                  refine AllReadyIn.cons rfl (fun K hK => ?_) ?_
                  · (go_simp; refine ⟨rfl, hR.mono ?_⟩; rintro e W3 (⟨rfl, _, hJ3, hk3⟩ | ⟨_, hf, _⟩); rotate_left; (exact absurd hf (by simp)))
                    refine hK _ _ ?_
                    clear hK K
                    refine wpAnyIn_take (i := 9) (v := ?_) rfl rfl (by kernel_rfl) (by kernel_rfl) (by kernel_rfl) (fun _ _ _ h => h) ⟨Or.inl ⟨by rfl, by intro w; go_simp; try with_reducible rfl⟩, fun _ => rfl⟩ ?_
                    refine wpAnyIn_done (by kernel_rfl) ?_ _
                    gi_wp2
                    refine ⟨?_, ?_⟩
                    rotate_left
                    · simp [intOf]; omega
                    have e9 : (List.range (k + 1)).map (fun q => insL xs q n) = (List.range k).map (fun q => insL xs q n) ++ [insL xs k n] := by rw [List.range_succ, List.map_append]; rfl
                    exact ⟨k + 1, by omega, by go_num, Lib.hid (by rw [e9, ← List.append_assoc]; exact hJ3), grown_trans HGR.out (grown_trans (grown_none HG4.out X) hk3)⟩
                  exact AllReadyIn.nil
                exact AllReadyIn.nil
              exact AllReadyIn.nil
            refine AllReadyIn.cons rfl (fun K hK => ?_) ?_
            · go_simp
              refine hK _ _ ?_
              clear hK K
              refine wpAnyIn_ready (rs := [0, 7]) (by kernel_rfl) (by simp) ?_
              refine AllReadyIn.cons rfl (fun K hK => ?_) ?_
              · go_simp
                refine hK _ _ ?_
                clear hK K
                refine wpAnyIn_ready (rs := [7]) (by kernel_rfl) (by simp) ?_
                refine AllReadyIn.cons rfl (fun K hK => ?_) ?_
                · (refine wantOp rfl ?_; go_simp; go_at_call 74; (first | (with_reducible refine (ins_A xs k n n HO3.out HB3.out HXL.out (by omega) (by omega)).mono ?_) | (with_reducible refine (ins_B xs k n n HO3.out HB3.out HXL.out (by omega) (by omega)).mono ?_)); rintro e w4 ⟨b4, n4, c4, rfl, hr4, hb4, hg4⟩; have v1' := hg4.cell r1 (by simp); have v4' := hg4.cell r4 (by simp); have y1 := World.block_lt_of_cell? _ _ v1'; have y4 := World.block_lt_of_cell? _ _ v4'; obtain ⟨fn, tmps, asg, bd, hy, hR⟩ := hY'.out _ (.slice (some b4) n4 c4) (insL xs k n) w4 (hJ'.out _ wr w4 none HJk.out hg4 (fun _ e => by cases e)) ⟨hr4, fun e => absurd e (by simp [insL]), fun a m c e => by cases e; have := HSZ.out; have := HGR.out.size; omega⟩ (perms_cut HPO.out hlt); have HG4 := Lib.hid hg4; clear hr4 hb4 hg4)
                  refine hK _ _ ?_
                  clear hK K
                  refine wpAnyIn_ready (rs := [8]) (by kernel_rfl) (by simp) ?_
                  refine AllReadyIn.cons rfl (fun K hK => ?_) ?_
                  · (go_simp; refine ⟨rfl, hR.mono ?_⟩; rintro e W3 (⟨rfl, _, hJ3, hk3⟩ | ⟨_, hf, _⟩); rotate_left; (exact absurd hf (by simp)))
                    refine hK _ _ ?_
                    clear hK K
                    refine wpAnyIn_take (i := 9) (v := ?_) rfl rfl (by kernel_rfl) (by kernel_rfl) (by kernel_rfl) (fun _ _ _ h => h) ⟨Or.inl ⟨by rfl, by intro w; go_simp; try with_reducible rfl⟩, fun _ => rfl⟩ ?_
                    refine wpAnyIn_done (by kernel_rfl) ?_ _
                    gi_wp2
                    refine ⟨?_, ?_⟩
                    rotate_left
                    · simp [intOf]; omega
                    have e9 : (List.range (k + 1)).map (fun q => insL xs q n) = (List.range k).map (fun q => insL xs q n) ++ [insL xs k n] := by rw [List.range_succ, List.map_append]; rfl
                    exact ⟨k + 1, by omega, by go_num, Lib.hid (by rw [e9, ← List.append_assoc]; exact hJ3), grown_trans HGR.out (grown_trans (grown_none HG4.out X) hk3)⟩
                  exact AllReadyIn.nil
                exact AllReadyIn.nil
              refine AllReadyIn.cons rfl (fun K hK => ?_) ?_
              · (refine wantOp rfl ?_; go_simp; go_at_call 74; (first | (with_reducible refine (ins_A xs k n n HO3.out HB3.out HXL.out (by omega) (by omega)).mono ?_) | (with_reducible refine (ins_B xs k n n HO3.out HB3.out HXL.out (by omega) (by omega)).mono ?_)); rintro e w4 ⟨b4, n4, c4, rfl, hr4, hb4, hg4⟩; have v1' := hg4.cell r1 (by simp); have v4' := hg4.cell r4 (by simp); have y1 := World.block_lt_of_cell? _ _ v1'; have y4 := World.block_lt_of_cell? _ _ v4'; obtain ⟨fn, tmps, asg, bd, hy, hR⟩ := hY'.out _ (.slice (some b4) n4 c4) (insL xs k n) w4 (hJ'.out _ wr w4 none HJk.out hg4 (fun _ e => by cases e)) ⟨hr4, fun e => absurd e (by simp [insL]), fun a m c e => by cases e; have := HSZ.out; have := HGR.out.size; omega⟩ (perms_cut HPO.out hlt); have HG4 := Lib.hid hg4; clear hr4 hb4 hg4)
                refine hK _ _ ?_
                clear hK K
                refine wpAnyIn_ready (rs := [0]) (by kernel_rfl) (by simp) ?_
                refine AllReadyIn.cons rfl (fun K hK => ?_) ?_
                · go_simp
                  refine hK _ _ ?_
                  clear hK K
                  refine wpAnyIn_ready (rs := [8]) (by kernel_rfl) (by simp) ?_
                  refine AllReadyIn.cons rfl (fun K hK => ?_) ?_
                  · (go_simp; refine ⟨rfl, hR.mono ?_⟩; rintro e W3 (⟨rfl, _, hJ3, hk3⟩ | ⟨_, hf, _⟩); rotate_left; (exact absurd hf (by simp)))
                    refine hK _ _ ?_
                    clear hK K
                    refine wpAnyIn_take (i := 9) (v := ?_) rfl rfl (by kernel_rfl) (by kernel_rfl) (by kernel_rfl) (fun _ _ _ h => h) ⟨Or.inl ⟨by rfl, by intro w; go_simp; try with_reducible rfl⟩, fun _ => rfl⟩ ?_
                    refine wpAnyIn_done (by kernel_rfl) ?_ _
                    gi_wp2
                    refine ⟨?_, ?_⟩
                    rotate_left
                    · simp [intOf]; omega
                    have e9 : (List.range (k + 1)).map (fun q => insL xs q n) = (List.range k).map (fun q => insL xs q n) ++ [insL xs k n] := by rw [List.range_succ, List.map_append]; rfl
                    exact ⟨k + 1, by omega, by go_num, Lib.hid (by rw [e9, ← List.append_assoc]; exact hJ3), grown_trans HGR.out (grown_trans (grown_none HG4.out X) hk3)⟩
                  exact AllReadyIn.nil
                exact AllReadyIn.nil
              exact AllReadyIn.nil
            exact AllReadyIn.nil
          exact AllReadyIn.nil
        refine AllReadyIn.cons rfl (fun K hK => ?_) ?_
        · go_simp
          refine hK _ _ ?_
          clear hK K
          refine wpAnyIn_take (i := 5) (v := ?_) rfl rfl (by kernel_rfl) (by kernel_rfl) (by kernel_rfl) (fun _ _ _ h => h) ⟨Or.inl ⟨by rfl, by intro w; go_simp; try with_reducible rfl⟩, fun _ => rfl⟩ ?_
          refine wpAnyIn_ready (rs := [0, 2, 6]) (by kernel_rfl) (by simp) ?_
          refine AllReadyIn.cons rfl (fun K hK => ?_) ?_
          · go_simp
            refine hK _ _ ?_
            clear hK K
            refine wpAnyIn_ready (rs := [2, 6]) (by kernel_rfl) (by simp) ?_
            refine AllReadyIn.cons rfl (fun K hK => ?_) ?_
            · (refine wantOp rfl ?_; go_simp; go_at_call 75; refine (clone_both _ xs _ (HRD.out.below (by first | exact (Below.refl _ _).drew | exact ((Below.refl _ _).drew).alloc (Nat.le_refl _) _ | exact ((Below.refl _ _).alloc (Nat.le_refl _) _).drew) (Nat.le_refl _)) HX2.out (by have := HXL.out; omega)).mono ?_; rintro e w3 ⟨a3, c3, rfl, ho3, hb3⟩; have HO3 := Lib.hid ho3; have HB3 := Lib.hid hb3; rw [HXL.out] at HO3 ⊢; have s1 : w3.cell? ⟨Bn, 0, none⟩ = some (.int .i64 ((n : Int) + 1)) := cell_below (by first | exact r1 | exact cell_alloc r1 _) hb3; have s4 : w3.cell? ⟨W.heap.size, 0, none⟩ = some (.func (.yield l) #[] #[]) := cell_below (by first | exact r4 | exact cell_alloc r4 _) hb3; have t1 := World.block_lt_of_cell? _ _ s1; have t4 := World.block_lt_of_cell? _ _ s4; clear ho3 hb3)
              refine hK _ _ ?_
              clear hK K
              refine wpAnyIn_ready (rs := [6]) (by kernel_rfl) (by simp) ?_
              refine AllReadyIn.cons rfl (fun K hK => ?_) ?_
              · go_simp
                refine hK _ _ ?_
                clear hK K
                refine wpAnyIn_ready (rs := [7]) (by kernel_rfl) (by simp) ?_
                refine AllReadyIn.cons rfl (fun K hK => ?_) ?_
                · (refine wantOp rfl ?_; go_simp; go_at_call 74; (first | (with_reducible refine (ins_A xs k n n HO3.out HB3.out HXL.out (by omega) (by omega)).mono ?_) | (with_reducible refine (ins_B xs k n n HO3.out HB3.out HXL.out (by omega) (by omega)).mono ?_)); rintro e w4 ⟨b4, n4, c4, rfl, hr4, hb4, hg4⟩; have v1' := hg4.cell r1 (by simp); have v4' := hg4.cell r4 (by simp); have y1 := World.block_lt_of_cell? _ _ v1'; have y4 := World.block_lt_of_cell? _ _ v4'; obtain ⟨fn, tmps, asg, bd, hy, hR⟩ := hY'.out _ (.slice (some b4) n4 c4) (insL xs k n) w4 (hJ'.out _ wr w4 none HJk.out hg4 (fun _ e => by cases e)) ⟨hr4, fun e => absurd e (by simp [insL]), fun a m c e => by cases e; have := HSZ.out; have := HGR.out.size; omega⟩ (perms_cut HPO.out hlt); have HG4 := Lib.hid hg4; clear hr4 hb4 hg4)
                  refine hK _ _ ?_
                  clear hK K
                  refine wpAnyIn_ready (rs := [8]) (by kernel_rfl) (by simp) ?_
                  refine AllReadyIn.cons rfl (fun K hK => ?_) ?_
                  · (go_simp; refine ⟨rfl, hR.mono ?_⟩; rintro e W3 (⟨rfl, _, hJ3, hk3⟩ | ⟨_, hf, _⟩); rotate_left; (exact absurd hf (by simp)))
                    refine hK _ _ ?_
                    clear hK K
                    refine wpAnyIn_take (i := 9) (v := ?_) rfl rfl (by kernel_rfl) (by kernel_rfl) (by kernel_rfl) (fun _ _ _ h => h) ⟨Or.inl ⟨by rfl, by intro w; go_simp; try with_reducible rfl⟩, fun _ => rfl⟩ ?_
                    refine wpAnyIn_done (by kernel_rfl) ?_ _
                    gi_wp2
                    refine ⟨?_, ?_⟩
                    rotate_left
                    · simp [intOf]; omega
                    have e9 : (List.range (k + 1)).map (fun q => insL xs q n) = (List.range k).map (fun q => insL xs q n) ++ [insL xs k n] := by rw [List.range_succ, List.map_append]; rfl
                    exact ⟨k + 1, by omega, by go_num, Lib.hid (by rw [e9, ← List.append_assoc]; exact hJ3), grown_trans HGR.out (grown_trans (grown_none HG4.out X) hk3)⟩
                  exact AllReadyIn.nil
                exact AllReadyIn.nil
              exact AllReadyIn.nil
            refine AllReadyIn.cons rfl (fun K hK => ?_) ?_
            · go_simp
              refine hK _ _ ?_
              clear hK K
              refine wpAnyIn_ready (rs := [2]) (by kernel_rfl) (by simp) ?_
              refine AllReadyIn.cons rfl (fun K hK => ?_) ?_
              · (refine wantOp rfl ?_; go_simp; go_at_call 75; refine (clone_both _ xs _ (HRD.out.below (by first | exact (Below.refl _ _).drew | exact ((Below.refl _ _).drew).alloc (Nat.le_refl _) _ | exact ((Below.refl _ _).alloc (Nat.le_refl _) _).drew) (Nat.le_refl _)) HX2.out (by have := HXL.out; omega)).mono ?_; rintro e w3 ⟨a3, c3, rfl, ho3, hb3⟩; have HO3 := Lib.hid ho3; have HB3 := Lib.hid hb3; rw [HXL.out] at HO3 ⊢; have s1 : w3.cell? ⟨Bn, 0, none⟩ = some (.int .i64 ((n : Int) + 1)) := cell_below (by first | exact r1 | exact cell_alloc r1 _) hb3; have s4 : w3.cell? ⟨W.heap.size, 0, none⟩ = some (.func (.yield l) #[] #[]) := cell_below (by first | exact r4 | exact cell_alloc r4 _) hb3; have t1 := World.block_lt_of_cell? _ _ s1; have t4 := World.block_lt_of_cell? _ _ s4; clear ho3 hb3)
                refine hK _ _ ?_
                clear hK K
                refine wpAnyIn_ready (rs := [7]) (by kernel_rfl) (by simp) ?_
                refine AllReadyIn.cons rfl (fun K hK => ?_) ?_
                · (refine wantOp rfl ?_; go_simp; go_at_call 74; (first | (with_reducible refine (ins_A xs k n n HO3.out HB3.out HXL.out (by omega) (by omega)).mono ?_) | (with_reducible refine (ins_B xs k n n HO3.out HB3.out HXL.out (by omega) (by omega)).mono ?_)); rintro e w4 ⟨b4, n4, c4, rfl, hr4, hb4, hg4⟩; have v1' := hg4.cell r1 (by simp); have v4' := hg4.cell r4 (by simp); have y1 := World.block_lt_of_cell? _ _ v1'; have y4 := World.block_lt_of_cell? _ _ v4'; obtain ⟨fn, tmps, asg, bd, hy, hR⟩ := hY'.out _ (.slice (some b4) n4 c4) (insL xs k n) w4 (hJ'.out _ wr w4 none HJk.out hg4 (fun _ e => by cases e)) ⟨hr4, fun e => absurd e (by simp [insL]), fun a m c e => by cases e; have := HSZ.out; have := HGR.out.size; omega⟩ (perms_cut HPO.out hlt); have HG4 := Lib.hid hg4; clear hr4 hb4 hg4)
                  refine hK _ _ ?_
                  clear hK K
                  refine wpAnyIn_ready (rs := [8]) (by kernel_rfl) (by simp) ?_
                  refine AllReadyIn.cons rfl (fun K hK => ?_) ?_
                  · (go_simp; refine ⟨rfl, hR.mono ?_⟩; rintro e W3 (⟨rfl, _, hJ3, hk3⟩ | ⟨_, hf, _⟩); rotate_left; (exact absurd hf (by simp)))
                    refine hK _ _ ?_
                    clear hK K
                    refine wpAnyIn_take (i := 9) (v := ?_) rfl rfl (by kernel_rfl) (by kernel_rfl) (by kernel_rfl) (fun _ _ _ h => h) ⟨Or.inl ⟨by rfl, by intro w; go_simp; try with_reducible rfl⟩, fun _ => rfl⟩ ?_
                    refine wpAnyIn_done (by kernel_rfl) ?_ _
                    gi_wp2
                    refine ⟨?_, ?_⟩
                    rotate_left
                    · simp [intOf]; omega
                    have e9 : (List.range (k + 1)).map (fun q => insL xs q n) = (List.range k).map (fun q => insL xs q n) ++ [insL xs k n] := by rw [List.range_succ, List.map_append]; rfl
                    exact ⟨k + 1, by omega, by go_num, Lib.hid (by rw [e9, ← List.append_assoc]; exact hJ3), grown_trans HGR.out (grown_trans (grown_none HG4.out X) hk3)⟩
                  exact AllReadyIn.nil
                exact AllReadyIn.nil
              exact AllReadyIn.nil
            exact AllReadyIn.nil
          refine AllReadyIn.cons rfl (fun K hK => ?_) ?_
          · (refine wantOp rfl ?_; go_simp; go_at_call 75; refine (clone_both _ xs _ (HRD.out.below (by first | exact (Below.refl _ _).drew | exact ((Below.refl _ _).drew).alloc (Nat.le_refl _) _ | exact ((Below.refl _ _).alloc (Nat.le_refl _) _).drew) (Nat.le_refl _)) HX2.out (by have := HXL.out; omega)).mono ?_; rintro e w3 ⟨a3, c3, rfl, ho3, hb3⟩; have HO3 := Lib.hid ho3; have HB3 := Lib.hid hb3; rw [HXL.out] at HO3 ⊢; have s1 : w3.cell? ⟨Bn, 0, none⟩ = some (.int .i64 ((n : Int) + 1)) := cell_below (by first | exact r1 | exact cell_alloc r1 _) hb3; have s4 : w3.cell? ⟨W.heap.size, 0, none⟩ = some (.func (.yield l) #[] #[]) := cell_below (by first | exact r4 | exact cell_alloc r4 _) hb3; have t1 := World.block_lt_of_cell? _ _ s1; have t4 := World.block_lt_of_cell? _ _ s4; clear ho3 hb3)
            refine hK _ _ ?_
            clear hK K
            refine wpAnyIn_ready (rs := [0, 6]) (by kernel_rfl) (by simp) ?_
            refine AllReadyIn.cons rfl (fun K hK => ?_) ?_
            · go_simp
              refine hK _ _ ?_
              clear hK K
              refine wpAnyIn_ready (rs := [6]) (by kernel_rfl) (by simp) ?_
              refine AllReadyIn.cons rfl (fun K hK => ?_) ?_
              · go_simp
                refine hK _ _ ?_
                clear hK K
                refine wpAnyIn_ready (rs := [7]) (by kernel_rfl) (by simp) ?_
                refine AllReadyIn.cons rfl (fun K hK => ?_) ?_
                · (refine wantOp rfl ?_; go_simp; go_at_call 74; (first | (with_reducible refine (ins_A xs k n n HO3.out HB3.out HXL.out (by omega) (by omega)).mono ?_) | (with_reducible refine (ins_B xs k n n HO3.out HB3.out HXL.out (by omega) (by omega)).mono ?_)); rintro e w4 ⟨b4, n4, c4, rfl, hr4, hb4, hg4⟩; have v1' := hg4.cell r1 (by simp); have v4' := hg4.cell r4 (by simp); have y1 := World.block_lt_of_cell? _ _ v1'; have y4 := World.block_lt_of_cell? _ _ v4'; obtain ⟨fn, tmps, asg, bd, hy, hR⟩ := hY'.out _ (.slice (some b4) n4 c4) (insL xs k n) w4 (hJ'.out _ wr w4 none HJk.out hg4 (fun _ e => by cases e)) ⟨hr4, fun e => absurd e (by simp [insL]), fun a m c e => by cases e; have := HSZ.out; have := HGR.out.size; omega⟩ (perms_cut HPO.out hlt); have HG4 := Lib.hid hg4; clear hr4 hb4 hg4)
                  refine hK _ _ ?_
                  clear hK K
                  refine wpAnyIn_ready (rs := [8]) (by kernel_rfl) (by simp) ?_
                  refine AllReadyIn.cons rfl (fun K hK => ?_) ?_
                  · (go_simp; refine ⟨rfl, hR.mono ?_⟩; rintro e W3 (⟨rfl, _, hJ3, hk3⟩ | ⟨_, hf, _⟩); rotate_left; (exact absurd hf (by simp)))
                    refine hK _ _ ?_
                    clear hK K
                    refine wpAnyIn_take (i := 9) (v := ?_) rfl rfl (by kernel_rfl) (by kernel_rfl) (by kernel_rfl) (fun _ _ _ h => h) ⟨Or.inl ⟨by rfl, by intro w; go_simp; try with_reducible rfl⟩, fun _ => rfl⟩ ?_
                    refine wpAnyIn_done (by kernel_rfl) ?_ _
                    gi_wp2
                    refine ⟨?_, ?_⟩
                    rotate_left
                    · simp [intOf]; omega
                    have e9 : (List.range (k + 1)).map (fun q => insL xs q n) = (List.range k).map (fun q => insL xs q n) ++ [insL xs k n] := by rw [List.range_succ, List.map_append]; rfl
                    exact ⟨k + 1, by omega, by go_num, Lib.hid (by rw [e9, ← List.append_assoc]; exact hJ3), grown_trans HGR.out (grown_trans (grown_none HG4.out X) hk3)⟩
                  exact AllReadyIn.nil
                exact AllReadyIn.nil
              exact AllReadyIn.nil
            refine AllReadyIn.cons rfl (fun K hK => ?_) ?_
            · go_simp
              refine hK _ _ ?_
              clear hK K
              refine wpAnyIn_ready (rs := [0, 7]) (by kernel_rfl) (by simp) ?_
              refine AllReadyIn.cons rfl (fun K hK => ?_) ?_
              · go_simp
                refine hK _ _ ?_
                clear hK K
                refine wpAnyIn_ready (rs := [7]) (by kernel_rfl) (by simp) ?_
                refine AllReadyIn.cons rfl (fun K hK => ?_) ?_
                · (refine wantOp rfl ?_; go_simp; go_at_call 74; (first | (with_reducible refine (ins_A xs k n n HO3.out HB3.out HXL.out (by omega) (by omega)).mono ?_) | (with_reducible refine (ins_B xs k n n HO3.out HB3.out HXL.out (by omega) (by omega)).mono ?_)); rintro e w4 ⟨b4, n4, c4, rfl, hr4, hb4, hg4⟩; have v1' := hg4.cell r1 (by simp); have v4' := hg4.cell r4 (by simp); have y1 := World.block_lt_of_cell? _ _ v1'; have y4 := World.block_lt_of_cell? _ _ v4'; obtain ⟨fn, tmps, asg, bd, hy, hR⟩ := hY'.out _ (.slice (some b4) n4 c4) (insL xs k n) w4 (hJ'.out _ wr w4 none HJk.out hg4 (fun _ e => by cases e)) ⟨hr4, fun e => absurd e (by simp [insL]), fun a m c e => by cases e; have := HSZ.out; have := HGR.out.size; omega⟩ (perms_cut HPO.out hlt); have HG4 := Lib.hid hg4; clear hr4 hb4 hg4)
                  refine hK _ _ ?_
                  clear hK K
                  refine wpAnyIn_ready (rs := [8]) (by kernel_rfl) (by simp) ?_
                  refine AllReadyIn.cons rfl (fun K hK => ?_) ?_
                  · (go_simp; refine ⟨rfl, hR.mono ?_⟩; rintro e W3 (⟨rfl, _, hJ3, hk3⟩ | ⟨_, hf, _⟩); rotate_left; (exact absurd hf (by simp)))
                    refine hK _ _ ?_
                    clear hK K
                    refine wpAnyIn_take (i := 9) (v := ?_) rfl rfl (by kernel_rfl) (by kernel_rfl) (by kernel_rfl) (fun _ _ _ h => h) ⟨Or.inl ⟨by rfl, by intro w; go_simp; try with_reducible rfl⟩, fun _ => rfl⟩ ?_
                    refine wpAnyIn_done (by kernel_rfl) ?_ _
                    gi_wp2
                    refine ⟨?_, ?_⟩
                    rotate_left
                    · simp [intOf]; omega
                    have e9 : (List.range (k + 1)).map (fun q => insL xs q n) = (List.range k).map (fun q => insL xs q n) ++ [insL xs k n] := by rw [List.range_succ, List.map_append]; rfl
                    exact ⟨k + 1, by omega, by go_num, Lib.hid (by rw [e9, ← List.append_assoc]; exact hJ3), grown_trans HGR.out (grown_trans (grown_none HG4.out X) hk3)⟩
                  exact AllReadyIn.nil
                exact AllReadyIn.nil
              refine AllReadyIn.cons rfl (fun K hK => ?_) ?_
              · (refine wantOp rfl ?_; go_simp; go_at_call 74; (first | (with_reducible refine (ins_A xs k n n HO3.out HB3.out HXL.out (by omega) (by omega)).mono ?_) | (with_reducible refine (ins_B xs k n n HO3.out HB3.out HXL.out (by omega) (by omega)).mono ?_)); rintro e w4 ⟨b4, n4, c4, rfl, hr4, hb4, hg4⟩; have v1' := hg4.cell r1 (by simp); have v4' := hg4.cell r4 (by simp); have y1 := World.block_lt_of_cell? _ _ v1'; have y4 := World.block_lt_of_cell? _ _ v4'; obtain ⟨fn, tmps, asg, bd, hy, hR⟩ := hY'.out _ (.slice (some b4) n4 c4) (insL xs k n) w4 (hJ'.out _ wr w4 none HJk.out hg4 (fun _ e => by cases e)) ⟨hr4, fun e => absurd e (by simp [insL]), fun a m c e => by cases e; have := HSZ.out; have := HGR.out.size; omega⟩ (perms_cut HPO.out hlt); have HG4 := Lib.hid hg4; clear hr4 hb4 hg4)
                refine hK _ _ ?_
                clear hK K
                refine wpAnyIn_ready (rs := [0]) (by kernel_rfl) (by simp) ?_
                refine AllReadyIn.cons rfl (fun K hK => ?_) ?_
                · go_simp
                  refine hK _ _ ?_
                  clear hK K
                  refine wpAnyIn_ready (rs := [8]) (by kernel_rfl) (by simp) ?_
                  refine AllReadyIn.cons rfl (fun K hK => ?_) ?_
                  · (go_simp; refine ⟨rfl, hR.mono ?_⟩; rintro e W3 (⟨rfl, _, hJ3, hk3⟩ | ⟨_, hf, _⟩); rotate_left; (exact absurd hf (by simp)))
                    refine hK _ _ ?_
                    clear hK K
                    refine wpAnyIn_take (i := 9) (v := ?_) rfl rfl (by kernel_rfl) (by kernel_rfl) (by kernel_rfl) (fun _ _ _ h => h) ⟨Or.inl ⟨by rfl, by intro w; go_simp; try with_reducible rfl⟩, fun _ => rfl⟩ ?_
                    refine wpAnyIn_done (by kernel_rfl) ?_ _
                    gi_wp2
                    refine ⟨?_, ?_⟩
                    rotate_left
                    · simp [intOf]; omega
                    have e9 : (List.range (k + 1)).map (fun q => insL xs q n) = (List.range k).map (fun q => insL xs q n) ++ [insL xs k n] := by rw [List.range_succ, List.map_append]; rfl
                    exact ⟨k + 1, by omega, by go_num, Lib.hid (by rw [e9, ← List.append_assoc]; exact hJ3), grown_trans HGR.out (grown_trans (grown_none HG4.out X) hk3)⟩
                  exact AllReadyIn.nil
                exact AllReadyIn.nil
              exact AllReadyIn.nil
            exact AllReadyIn.nil
          refine AllReadyIn.cons rfl (fun K hK => ?_) ?_
          · go_simp
            refine hK _ _ ?_
            clear hK K
            refine wpAnyIn_ready (rs := [0, 2]) (by kernel_rfl) (by simp) ?_
            refine AllReadyIn.cons rfl (fun K hK => ?_) ?_
            · go_simp
              refine hK _ _ ?_
              clear hK K
              refine wpAnyIn_ready (rs := [2]) (by kernel_rfl) (by simp) ?_
              refine AllReadyIn.cons rfl (fun K hK => ?_) ?_
              · (refine wantOp rfl ?_; go_simp; go_at_call 75; refine (clone_both _ xs _ (HRD.out.below (by first | exact (Below.refl _ _).drew | exact ((Below.refl _ _).drew).alloc (Nat.le_refl _) _ | exact ((Below.refl _ _).alloc (Nat.le_refl _) _).drew) (Nat.le_refl _)) HX2.out (by have := HXL.out; omega)).mono ?_; rintro e w3 ⟨a3, c3, rfl, ho3, hb3⟩; have HO3 := Lib.hid ho3; have HB3 := Lib.hid hb3; rw [HXL.out] at HO3 ⊢; have s1 : w3.cell? ⟨Bn, 0, none⟩ = some (.int .i64 ((n : Int) + 1)) := cell_below (by first | exact r1 | exact cell_alloc r1 _) hb3; have s4 : w3.cell? ⟨W.heap.size, 0, none⟩ = some (.func (.yield l) #[] #[]) := cell_below (by first | exact r4 | exact cell_alloc r4 _) hb3; have t1 := World.block_lt_of_cell? _ _ s1; have t4 := World.block_lt_of_cell? _ _ s4; clear ho3 hb3)
                refine hK _ _ ?_
                clear hK K
                refine wpAnyIn_ready (rs := [7]) (by kernel_rfl) (by simp) ?_
                refine AllReadyIn.cons rfl (fun K hK => ?_) ?_
                · (refine wantOp rfl ?_; go_simp; go_at_call 74; (first | (with_reducible refine (ins_A xs k n n HO3.out HB3.out HXL.out (by omega) (by omega)).mono ?_) | (with_reducible refine (ins_B xs k n n HO3.out HB3.out HXL.out (by omega) (by omega)).mono ?_)); rintro e w4 ⟨b4, n4, c4, rfl, hr4, hb4, hg4⟩; have v1' := hg4.cell r1 (by simp); have v4' := hg4.cell r4 (by simp); have y1 := World.block_lt_of_cell? _ _ v1'; have y4 := World.block_lt_of_cell? _ _ v4'; obtain ⟨fn, tmps, asg, bd, hy, hR⟩ := hY'.out _ (.slice (some b4) n4 c4) (insL xs k n) w4 (hJ'.out _ wr w4 none HJk.out hg4 (fun _ e => by cases e)) ⟨hr4, fun e => absurd e (by simp [insL]), fun a m c e => by cases e; have := HSZ.out; have := HGR.out.size; omega⟩ (perms_cut HPO.out hlt); have HG4 := Lib.hid hg4; clear hr4 hb4 hg4)
                  refine hK _ _ ?_
                  clear hK K
                  refine wpAnyIn_ready (rs := [8]) (by kernel_rfl) (by simp) ?_
                  refine AllReadyIn.cons rfl (fun K hK => ?_) ?_
                  · (go_simp; refine ⟨rfl, hR.mono ?_⟩; rintro e W3 (⟨rfl, _, hJ3, hk3⟩ | ⟨_, hf, _⟩); rotate_left; (exact absurd hf (by simp)))
                    refine hK _ _ ?_
                    clear hK K
                    refine wpAnyIn_take (i := 9) (v := ?_) rfl rfl (by kernel_rfl) (by kernel_rfl) (by kernel_rfl) (fun _ _ _ h => h) ⟨Or.inl ⟨by rfl, by intro w; go_simp; try with_reducible rfl⟩, fun _ => rfl⟩ ?_
                    refine wpAnyIn_done (by kernel_rfl) ?_ _
                    gi_wp2
                    refine ⟨?_, ?_⟩
                    rotate_left
                    · simp [intOf]; omega
                    have e9 : (List.range (k + 1)).map (fun q => insL xs q n) = (List.range k).map (fun q => insL xs q n) ++ [insL xs k n] := by rw [List.range_succ, List.map_append]; rfl
                    exact ⟨k + 1, by omega, by go_num, Lib.hid (by rw [e9, ← List.append_assoc]; exact hJ3), grown_trans HGR.out (grown_trans (grown_none HG4.out X) hk3)⟩
                  exact AllReadyIn.nil
                exact AllReadyIn.nil
              exact AllReadyIn.nil
            refine AllReadyIn.cons rfl (fun K hK => ?_) ?_
            · (refine wantOp rfl ?_; go_simp; go_at_call 75; refine (clone_both _ xs _ (HRD.out.below (by first | exact (Below.refl _ _).drew | exact ((Below.refl _ _).drew).alloc (Nat.le_refl _) _ | exact ((Below.refl _ _).alloc (Nat.le_refl _) _).drew) (Nat.le_refl _)) HX2.out (by have := HXL.out; omega)).mono ?_; rintro e w3 ⟨a3, c3, rfl, ho3, hb3⟩; have HO3 := Lib.hid ho3; have HB3 := Lib.hid hb3; rw [HXL.out] at HO3 ⊢; have s1 : w3.cell? ⟨Bn, 0, none⟩ = some (.int .i64 ((n : Int) + 1)) := cell_below (by first | exact r1 | exact cell_alloc r1 _) hb3; have s4 : w3.cell? ⟨W.heap.size, 0, none⟩ = some (.func (.yield l) #[] #[]) := cell_below (by first | exact r4 | exact cell_alloc r4 _) hb3; have t1 := World.block_lt_of_cell? _ _ s1; have t4 := World.block_lt_of_cell? _ _ s4; clear ho3 hb3)
              refine hK _ _ ?_
              clear hK K
              refine wpAnyIn_ready (rs := [0, 7]) (by kernel_rfl) (by simp) ?_
              refine AllReadyIn.cons rfl (fun K hK => ?_) ?_
              · go_simp
                refine hK _ _ ?_
                clear hK K
                refine wpAnyIn_ready (rs := [7]) (by kernel_rfl) (by simp) ?_
                refine AllReadyIn.cons rfl (fun K hK => ?_) ?_
                · (refine wantOp rfl ?_; go_simp; go_at_call 74; (first | (with_reducible refine (ins_A xs k n n HO3.out HB3.out HXL.out (by omega) (by omega)).mono ?_) | (with_reducible refine (ins_B xs k n n HO3.out HB3.out HXL.out (by omega) (by omega)).mono ?_)); rintro e w4 ⟨b4, n4, c4, rfl, hr4, hb4, hg4⟩; have v1' := hg4.cell r1 (by simp); have v4' := hg4.cell r4 (by simp); have y1 := World.block_lt_of_cell? _ _ v1'; have y4 := World.block_lt_of_cell? _ _ v4'; obtain ⟨fn, tmps, asg, bd, hy, hR⟩ := hY'.out _ (.slice (some b4) n4 c4) (insL xs k n) w4 (hJ'.out _ wr w4 none HJk.out hg4 (fun _ e => by cases e)) ⟨hr4, fun e => absurd e (by simp [insL]), fun a m c e => by cases e; have := HSZ.out; have := HGR.out.size; omega⟩ (perms_cut HPO.out hlt); have HG4 := Lib.hid hg4; clear hr4 hb4 hg4)
                  refine hK _ _ ?_
                  clear hK K
                  refine wpAnyIn_ready (rs := [8]) (by kernel_rfl) (by simp) ?_
                  refine AllReadyIn.cons rfl (fun K hK => ?_) ?_
                  · (go_simp; refine ⟨rfl, hR.mono ?_⟩; rintro e W3 (⟨rfl, _, hJ3, hk3⟩ | ⟨_, hf, _⟩); rotate_left; (exact absurd hf (by simp)))
                    refine hK _ _ ?_
                    clear hK K
                    refine wpAnyIn_take (i := 9) (v := ?_) rfl rfl (by kernel_rfl) (by kernel_rfl) (by kernel_rfl) (fun _ _ _ h => h) ⟨Or.inl ⟨by rfl, by intro w; go_simp; try with_reducible rfl⟩, fun _ => rfl⟩ ?_
                    refine wpAnyIn_done (by kernel_rfl) ?_ _
                    gi_wp2
                    refine ⟨?_, ?_⟩
                    rotate_left
                    · simp [intOf]; omega
                    have e9 : (List.range (k + 1)).map (fun q => insL xs q n) = (List.range k).map (fun q => insL xs q n) ++ [insL xs k n] := by rw [List.range_succ, List.map_append]; rfl
                    exact ⟨k + 1, by omega, by go_num, Lib.hid (by rw [e9, ← List.append_assoc]; exact hJ3), grown_trans HGR.out (grown_trans (grown_none HG4.out X) hk3)⟩
                  exact AllReadyIn.nil
                exact AllReadyIn.nil
              refine AllReadyIn.cons rfl (fun K hK => ?_) ?_
              · (refine wantOp rfl ?_; go_simp; go_at_call 74; (first | (with_reducible refine (ins_A xs k n n HO3.out HB3.out HXL.out (by omega) (by omega)).mono ?_) | (with_reducible refine (ins_B xs k n n HO3.out HB3.out HXL.out (by omega) (by omega)).mono ?_)); rintro e w4 ⟨b4, n4, c4, rfl, hr4, hb4, hg4⟩; have v1' := hg4.cell r1 (by simp); have v4' := hg4.cell r4 (by simp); have y1 := World.block_lt_of_cell? _ _ v1'; have y4 := World.block_lt_of_cell? _ _ v4'; obtain ⟨fn, tmps, asg, bd, hy, hR⟩ := hY'.out _ (.slice (some b4) n4 c4) (insL xs k n) w4 (hJ'.out _ wr w4 none HJk.out hg4 (fun _ e => by cases e)) ⟨hr4, fun e => absurd e (by simp [insL]), fun a m c e => by cases e; have := HSZ.out; have := HGR.out.size; omega⟩ (perms_cut HPO.out hlt); have HG4 := Lib.hid hg4; clear hr4 hb4 hg4)
                refine hK _ _ ?_
                clear hK K
                refine wpAnyIn_ready (rs := [0]) (by kernel_rfl) (by simp) ?_
                refine AllReadyIn.cons rfl (fun K hK => ?_) ?_
                · go_simp
                  refine hK _ _ ?_
                  clear hK K
                  refine wpAnyIn_ready (rs := [8]) (by kernel_rfl) (by simp) ?_
                  refine AllReadyIn.cons rfl (fun K hK => ?_) ?_
                  · (go_simp; refine ⟨rfl, hR.mono ?_⟩; rintro e W3 (⟨rfl, _, hJ3, hk3⟩ | ⟨_, hf, _⟩); rotate_left; (exact absurd hf (by simp)))
                    refine hK _ _ ?_
                    clear hK K
                    refine wpAnyIn_take (i := 9) (v := ?_) rfl rfl (by kernel_rfl) (by kernel_rfl) (by kernel_rfl) (fun _ _ _ h => h) ⟨Or.inl ⟨by rfl, by intro w; go_simp; try with_reducible rfl⟩, fun _ => rfl⟩ ?_
                    refine wpAnyIn_done (by kernel_rfl) ?_ _
                    gi_wp2
                    refine ⟨?_, ?_⟩
                    rotate_left
                    · simp [intOf]; omega
                    have e9 : (List.range (k + 1)).map (fun q => insL xs q n) = (List.range k).map (fun q => insL xs q n) ++ [insL xs k n] := by rw [List.range_succ, List.map_append]; rfl
                    exact ⟨k + 1, by omega, by go_num, Lib.hid (by rw [e9, ← List.append_assoc]; exact hJ3), grown_trans HGR.out (grown_trans (grown_none HG4.out X) hk3)⟩
                  exact AllReadyIn.nil
                exact AllReadyIn.nil
              exact AllReadyIn.nil
            exact AllReadyIn.nil
          exact AllReadyIn.nil
        exact AllReadyIn.nil
      · have hki : decide ((k : Int) < (n : Int) + 1) = false := by simp; omega
        obtain rfl : k = n + 1 := by omega
        gi_wp2
        refine ⟨rfl, HGR.out, Lib.hid ?_, grown_trans HG'.out HGR.out⟩
        rw [List.flatMap_append]
        simpa using HJk.out
  case done =>
    rintro D W' hD _ ⟨HJ', hg'⟩ hK
    gi_wp2
    refine ⟨by simp, .inl ⟨_, _, rfl, run_takeDeferred hK, ?_⟩⟩
    exact ⟨_, results_none rfl _ _ _, ⟨_, rfl⟩, hJ'.out.putObj _ HJ'.out (by omega) hK rfl⟩
  case stop =>
    rintro D pre b post W' _ _ _ e
    cases e

theorem all_seq : ∀ (n : Nat), n ≤ 100 → ∀ (X : Option Nat) (w0 : World) (Bn : Nat), (∀ k, X = some k → k < w0.heap.size) → some Bn ≠ X → w0.cell? ⟨Bn, 0, none⟩ = some (.int .i64 n) →
      SeqX Try.prog 73 #[.pointer (some ⟨Bn, 0, none⟩)] (RxP w0.heap.size) X (fun _ => false) (permsP n) w0
  | 0, _, X, w0, Bn, _, _, c1 => all_zero X w0 Bn c1
  | n + 1, hn, X, w0, Bn, hX, h1, c1 => all_succ n (by omega) (all_seq n (by omega)) X w0 Bn hX h1 (by rw [c1]; simp)
end Go.Proofs.Ytelnlmhelkcliaa

/- Heat: Cheapest, the program's. -/
import Derived.Test.YtnaoanmkepcinaaHLs
import Derived.Test.YtnaoanmkepcinaaHPeak
namespace Go.Proofs.Ytnaoanmkepcinaa
open Go.RowKit Go.Shelf
attribute [local go_sem] Oper.semAt_some

/-- whether the powers p turn every guide nearly as wanted -/
def nearB (m : List (List Int)) (want : List Int) (s : Int) (p : List Int) (k : Nat) : Bool := (List.range k).all fun i => decide (((hs m p i m.length - want.getD i 0).natAbs : Int) ≤ s)
def lessB (b : Option (List Int)) (p : List Int) : Bool := match b with | none => true | some q => decide (p.sum < q.sum)
def chStep (m : List (List Int)) (want : List Int) (s : Int) (b : Option (List Int)) (p : List Int) : Option (List Int) := if lessB b p && nearB m want s p m.length then some p else b
def chO (m : List (List Int)) (want : List Int) (s : Int) (t : Nat) : Option (List Int) := (listsP m.length t).foldl (chStep m want s) none

/-- what the variable of the best powers holds -/
def BestAt (W : World) (v : Value) (b : Option (List Int)) : Prop :=
  match b with | none => v = .slice none 0 0 | some q => (∃ a c, v = .slice (some a) q.length c) ∧ Rd W v (ints q)
theorem BestAt.below {A B : World} {v : Value} {b : Option (List Int)} (h : BestAt A v b) (hb : Below A.heap.size A B) : BestAt B v b := by
  cases b with
  | none => exact h
  | some q => exact ⟨h.1, h.2.below hb (Nat.le_refl _)⟩
theorem Rd.turned {A B : World} {row : Option Nat} {v : Value} {cs : List Value} (h : Rd A v cs) (hg : A.grownBy B row) (hr : ∀ r, row = some r → ∃ o : Obj, A.heap[r]? = some o ∧ o.isCells = false) : Rd B v cs := by
  obtain ⟨a, cap, e, q1, q2, q3, q4⟩ := h
  refine ⟨a, cap, e, q1, q2, ?_, q4⟩
  rcases q3 with q3 | ⟨b, off, rfl, q3⟩
  · exact .inl q3
  · exact .inr ⟨b, off, rfl, fun j u hj => cell_kept (q3 j u hj) hg hr⟩
theorem best_own {β : Type} (B Bo : Nat) (t : TypeId) (f : β → Option (List Int)) : OwnFrom B (fun s W => ∃ v, Boxed W Bo t v ∧ BestAt W v (f s)) := fun s A C row ⟨v, h1, h2⟩ hg hr => by
  refine ⟨v, boxed_own (β := Unit) Bo t (fun _ => v) () A C row h1 hg (fun r e => (hr r e).2), ?_⟩
  cases hq : f s with
  | none => rw [hq] at h2; exact h2
  | some q => rw [hq] at h2; exact ⟨h2.1, h2.2.turned hg fun r e => (hr r e).2⟩
theorem wpIn_n {l n n' : Nat} {P : Program} {c : Code} {Q : Exit → Act → World → Prop} {a : Act} {w : World} (h : c.wpIn (Fence.wide.inRound l) n P Q a w) : c.wpIn (Fence.wide.inRound l) n' P Q a w :=
  fun b k cs h1 h2 _ => h b k cs h1 h2 (room_wide _)
theorem below_grown {A B : World} (h : Below A.heap.size A B) (X : Option Nat) : A.grownBy B X := ⟨h.os, h.tape, h.output, h.size, fun k hk _ => h.block k hk⟩


/-- a piece of code comes to its end with the frame A and the world B -/
def cutQ (A1 : Act) (B1 : World) : Exit → Act → World → Prop
  | .normal, a, w => a = A1 ∧ w = B1
  | _, _, _ => False
theorem no_cut {A1 : Act} {B1 : World} : ¬ LetsOut (cutQ A1 B1) := fun ⟨_, _, h⟩ => h
theorem cut_region {F : Fence} {n : Nat} {P : Program} {c : Code} {Q : Exit → Act → World → Prop} {a : Act} {w : World} {A1 : Act} {B1 : World} (h : c.wpIn F n P (cutQ A1 B1) a w) (k : Q .normal A1 B1) : c.wpIn F n P Q a w :=
  wpIn_mono h fun e a' w' hq => by
    cases e with
    | normal => obtain ⟨rfl, rfl⟩ := hq; exact k
    | ret => exact hq.elim
    | exit id => exact hq.elim
    | goto t => exact hq.elim
    | panic ch => exact hq.elim
    | outgrown => exact hq.elim
theorem all_fin (N : Nat) (f : Nat → Bool) : ((List.finRange N).all fun x => f x.1) = (List.range N).all f := by
  rw [Bool.eq_iff_iff, List.all_eq_true, List.all_eq_true]
  constructor
  · intro h x hx
    exact h ⟨x, List.mem_range.1 hx⟩ (List.mem_finRange _)
  · intro h x _
    exact h x.1 (List.mem_range.2 x.2)

set_option maxRecDepth 100000 in
set_option maxHeartbeats 8000000 in
theorem Cheapest_main (v wv : Value) (m : List (List Int)) (want : List Int) (s : Int) (t : Nat) (w : World) (hv : RdM w v m) (hwv : Rd w wv (ints want))
    (hq1 : vB m = true) (hq2 : lstB want m.length (-1000000) 1000000 = true) (hs1 : 0 ≤ s) (hs2 : s ≤ 1000000) (ht : t ≤ 20) (hN3 : m.length ≤ 3) :
    Calls Try.prog 44 #[.agg #[v], wv, .int .i64 s, .int .i64 t] w fun e w' => ∃ u, e = .returned (.tuple #[u, .int .i64 (if (chO m want s t).isNone then 62 else 0)]) ∧ Rd w' u (ints ((chO m want s t).getD [])) ∧ Below w.heap.size w w' := by
  have HV := Lib.hid hv
  have HWV := Lib.hid hwv
  obtain ⟨h1, h2, h3⟩ := vB_bd hq1
  obtain ⟨g1, g2⟩ := lstB_bd hq2
  obtain ⟨vs, ⟨a, cap, rfl, hc, hcm, ha, _⟩, hr⟩ := hv
  obtain ⟨ab, capb, rfl, hcb, hcmb, hab, _⟩ := hwv
  rw [hr.1] at hc HV ⊢
  rw [ints_length, g1] at hcb HWV ⊢
  have hcall := Lib.hid (fun W hb => opened_any _ m W (HV.out.below (w' := W) hb) (by omega) (fun r hr => by rw [(h3 r hr).1]; omega))
  rw [hq1] at hcall
  simp only [if_true] at hcall
  have HPH := Lib.hid (fun W hb => phases_any a m.length cap _ want W (HWV.out.below (w' := W) (B := w.heap.size) hb (Nat.le_refl _)) (by omega))
  rw [hq2] at HPH
  have HB1 := Lib.hid (fun W => between_any 0 s 1000000 W)
  rw [(inB_iff 0 s 1000000).2 ⟨hs1, hs2⟩] at HB1
  have HB2 := Lib.hid (fun W => between_any 0 t 20 W)
  rw [(inB_iff 0 (t : Int) 20).2 ⟨by omega, by omega⟩] at HB2
  have HGB : Hid (∀ j, j < m.length → ∃ x, want[j]? = some x ∧ want.getD j 0 = x ∧ -1000000 ≤ x ∧ x ≤ 1000000) := Lib.hid fun j hj =>
    have hj2 : j < want.length := by omega
    ⟨_, List.getElem?_eq_getElem hj2, by rw [List.getD_eq_getElem?_getD, List.getElem?_eq_getElem hj2]; rfl, g2 _ (List.getElem_mem hj2)⟩
  have hbl := Lib.hid g1
  have HQ1 := Lib.hid hq1
  have HHB : Hid (∀ p, p ∈ listsP m.length t → ∀ i, -1000000 ≤ hs m p i m.length ∧ hs m p i m.length ≤ 1000000) := Lib.hid fun p hp i => hs_bd hq1 (fun x hx => by have := (listsP_mem _ _ _ hp).2 x hx; omega) i _ h2
  have HLP : Hid (∀ p, p ∈ listsP m.length t → lstB p m.length 0 1000 = true ∧ p.length = m.length ∧ (∀ x ∈ p, -1000000 ≤ x ∧ x ≤ 1000000)) := Lib.hid fun p hp => by
    obtain ⟨q1, q2⟩ := listsP_mem _ _ _ hp
    refine ⟨?_, q1, fun x hx => by have := q2 x hx; omega⟩
    unfold lstB allB
    rw [Bool.and_eq_true, decide_eq_true_eq, List.all_eq_true]
    exact ⟨q1, fun x hx => (inB_iff _ _ _).2 (by have := q2 x hx; omega)⟩
  have HCO : Hid (chO m want s t = (listsP m.length t).foldl (chStep m want s) none) := Lib.hid rfl
  have HNS : Hid (∀ p k, nearB m want s p (k + 1) = (nearB m want s p k && decide (((hs m p k m.length - want.getD k 0).natAbs : Int) ≤ s))) := Lib.hid fun p k => by unfold nearB; rw [List.range_succ, List.all_append]; simp
  have HN0 : Hid (∀ p, nearB m want s p 0 = true) := Lib.hid fun p => rfl
  have HCS : Hid (∀ b p, chStep m want s b p = if lessB b p && nearB m want s p m.length then some p else b) := Lib.hid fun b p => rfl
  generalize hCO : chO m want s t = CO at *
  clear hq1 hq2 h3 g2 hr g1 hCO
  generalize hN : m.length = N at *
  have HN := Lib.hid hN
  clear hN
  obtain ⟨V, hV⟩ : ∃ V, ((w.alloc (.cells #[.slice a N cap] 24)).alloc (.cells #[.slice ab N capb] 28)).alloc (.cells #[.int .i64 s] 3) = V := ⟨_, rfl⟩
  have hb0 : Hid (Below w.heap.size w V) := Lib.hid (by rw [← hV]; exact (((Below.refl _ _).alloc (Nat.le_refl _) _).alloc (by simp) _).alloc (by simp; omega) _)
  have cB0 : V.cell? ⟨w.heap.size, 0, none⟩ = some (.slice a N cap) := by rw [← hV]; exact cell_alloc (cell_alloc (World.cell?_alloc_at _ _ _ _ rfl) _) _
  have cb0 : Hid (V.cell? ⟨w.heap.size + 1, 0, none⟩ = some (.slice ab N capb)) := Lib.hid (by rw [← hV]; exact cell_alloc (World.cell?_alloc_at _ _ _ _ (by simp)) _)
  have cs0 : Hid (V.cell? ⟨w.heap.size + 1 + 1, 0, none⟩ = some (.int .i64 s)) := Lib.hid (by rw [← hV]; exact World.cell?_alloc_at _ _ _ _ (by simp))
  have hn3b : ((N : Int) > 3) = False := by simp; omega
  refine (callsIn_wide (n := 0)).1 ?_
  refine callsIn_of_wp_marks Try.func44 rfl trivial ?_ rfl
  simp only [Try.ntmps44, List.size_toArray, List.length_cons, List.length_nil, Nat.reduceAdd, Nat.reduceSub, Array.replicate_succ, Array.replicate_zero, List.push_toArray, List.append_toArray, List.nil_append, List.cons_append]
  gi_wp2_with (first
    | (refine ⟨trivial, rfl, ?_⟩; gi_at_call 48; refine (callsIn_wide.2 (hcall.out _ hb0.out)).mono ?_; rintro e w1 ⟨rfl, hb1⟩; have hb01 := hb0.out.trans (hb1.mono hb0.out.size); have cb1 := cell_below cb0.out hb1; have cs1 := cell_below cs0.out hb1; have lb1 : w.heap.size + 1 < w1.heap.size := World.block_lt_of_cell? _ _ cb1; have ls1 : w.heap.size + 1 + 1 < w1.heap.size := World.block_lt_of_cell? _ _ cs1)
    | (refine ⟨trivial, rfl, ?_⟩; gi_at_call 62; refine (callsIn_wide.2 (HPH.out _ (hb01.alloc hb01.size _))).mono ?_; rintro e w2 ⟨rfl, hb2⟩; have hb02 := (hb01.alloc hb01.size _).trans (hb2.mono (by have := hb01.size; simp; omega)); have cx2 : w2.cell? ⟨w1.heap.size, 0, none⟩ = some (.slice a N cap) := cell_below (World.cell?_alloc_at _ _ _ _ rfl) hb2; have cb2 := cell_below (cell_alloc cb1 _) hb2; have cs2 := cell_below (cell_alloc cs1 _) hb2)
    | (refine ⟨trivial, rfl, ?_⟩; gi_at_call 53; (with_reducible refine (callsIn_wide.2 (HB1.out _)).mono ?_); rintro e w' ⟨rfl, rfl⟩)
    | (refine ⟨trivial, rfl, ?_⟩; gi_at_call 53; (with_reducible refine (callsIn_wide.2 (HB2.out _)).mono ?_); rintro e w' ⟨rfl, rfl⟩)
    | (refine ⟨trivial, rfl, ?_⟩; gi_at_call 63; refine (callsIn_wide.2 (bsize_any a N cap _)).mono ?_; rintro e w3 ⟨rfl, hb3⟩; have hb03 := hb02.trans (hb3.mono hb02.size); have cx3 := cell_below cx2 hb3; have cb3 := cell_below cb2 hb3; have cs3 := cell_below cs2 hb3; have lx3 : w1.heap.size < w3.heap.size := World.block_lt_of_cell? _ _ cx3; clear hb02)
    | (refine ⟨trivial, rfl, ?_⟩; gi_at_call 63; refine (callsIn_wide.2 (bsize_any a N cap _)).mono ?_; rintro e w5 ⟨rfl, hb5⟩)
    | (refine ⟨trivial, rfl, ?_⟩; gi_at_call 78; refine (callsIn_wide.2 (lists_any _ _ _)).mono ?_; rintro e w6 ⟨rfl, rfl⟩))
  have bO := Boxed.new w3 28 (.slice none 0 0)
  have bO5 := Boxed.kept bO (below_grown hb5 none) (by simp)
  have z5 := hb5.size
  rw [World.size_alloc] at z5
  have hb35 : Below w3.heap.size w3 w5 := ((Below.refl _ _).alloc (Nat.le_refl _) _).trans (hb5.mono (by simp))
  have bN := Boxed.new w5 3 (.int .i64 N)
  have bT := Boxed.new (w5.alloc (.cells #[.int .i64 N] 3)) 3 (.int .i64 t)
  obtain ⟨w6, hw6⟩ : ∃ w6, (w5.alloc (.cells #[.int .i64 N] 3)).alloc (.cells #[.int .i64 t] 3) = w6 := ⟨_, rfl⟩
  have z6 : w6.heap.size = w5.heap.size + 2 := by rw [← hw6]; simp
  have hb36 : Below w3.heap.size w3 w6 := by rw [← hw6]; exact (hb35.alloc hb35.size _).alloc (by have := hb35.size; simp; omega) _
  replace bO := (bO5.alloc (.cells #[.int .i64 N] 3)).alloc (.cells #[.int .i64 t] 3)
  replace bN := bN.alloc (.cells #[.int .i64 t] 3)
  rw [World.size_alloc] at bT
  rw [hw6] at bO bN bT ⊢
  clear hw6 bO5 hb5 hb35
  have hX6 : ∀ k, some w3.heap.size = some k → k < w6.heap.size := fun k e => by cases e; omega
  have cb3' : w3.cell? ⟨w.heap.size + 1, 0, none⟩ = some (.slice ab N capb) := cb3
  refine rangeR (X := some w3.heap.size) (gf := 89) (lb := #[.pointer (some ⟨w5.heap.size, 0, none⟩), .pointer (some ⟨w5.heap.size + 1, 0, none⟩)]) rfl (enters_of Try.func89 (by kernel_rfl) rfl)
    (lists_seq t (by omega) N (by omega) (some w3.heap.size) w6 w5.heap.size (w5.heap.size + 1) hX6 (by simp; omega) (by simp; omega) bN.cell bT.cell) hX6 (fun _ => rfl) (fun x => rxL_own N t _ x)
    (fun (pre : List (Value × List Int)) W => ((∃ v, Boxed W w3.heap.size 28 v ∧ BestAt W v ((pre.map (·.2)).foldl (chStep m want s) none)) ∧ Below w3.heap.size w3 W) ∧ ∀ q, (pre.map (·.2)).foldl (chStep m want s) none = some q → q ∈ listsP N t)
    (OwnFrom.and (OwnFrom.and (best_own _ _ _ _) (ownFrom_below (Nat.le_refl _) (by omega))) (ownFrom_pure _ _))
    ⟨⟨⟨_, bO, rfl⟩, hb36⟩, fun q e => by simp at e⟩
    ?a1 ?assign ?body ?done
  case assign =>
    intro l x W K hK
    gi_wp2
    exact hK
  case body =>
    rintro l pre ⟨xv, xs⟩ W hl ⟨r, hr⟩ ⟨⟨⟨v, hv, hbest⟩, hB⟩, hmem⟩ ⟨hx1, hx2, hx3⟩
    dsimp only at hx1 hx2 hx3 ⊢
    have hfold : ((pre ++ [(xv, xs)]).map (·.2)).foldl (chStep m want s) none = chStep m want s ((pre.map (·.2)).foldl (chStep m want s) none) xs := by
      rw [List.map_append, List.foldl_append]; rfl
    have HFO := Lib.hid hfold
    clear hfold
    generalize hbb : (pre.map (·.2)).foldl (chStep m want s) none = b at *
    clear hbb
    obtain ⟨p1, p2, p3⟩ := HLP.out xs hx2
    have HP1 := Lib.hid p1
    have HXR := Lib.hid hx1
    have HX2 := Lib.hid hx2
    obtain ⟨ax, capx, rfl, hcx, hcmx, hax, _⟩ := hx1
    rw [ints_length, p2] at hcx HXR HFO ⊢
    have HT1 := Lib.hid (fun W' (hb : Below W.heap.size W W') => total_any _ xs W' (HXR.out.below hb (Nat.le_refl _)) (by omega) p3)
    have cB := cell_below cb3 hB
    have cS := cell_below cs3 hB
    have cX := cell_below cx3 hB
    have lB : w.heap.size + 1 < W.heap.size := World.block_lt_of_cell? _ _ cB
    have lS : w.heap.size + 1 + 1 < W.heap.size := World.block_lt_of_cell? _ _ cS
    have lX : w1.heap.size < W.heap.size := World.block_lt_of_cell? _ _ cX
    have lv : w3.heap.size < W.heap.size := hv.lt
    have hc := hv.cell
    have lL : l < W.heap.size := (Array.getElem?_eq_some_iff.1 hr).1
    have hn3 := hB.size
    obtain ⟨bx, offx, rfl, hcellx⟩ := hax.cell (j := 0) (by rw [ints_length]; omega)
    obtain ⟨x0, hx0⟩ : ∃ x0, xs[0]? = some x0 := ⟨_, List.getElem?_eq_getElem (by omega)⟩
    have hcx0 := hcellx 0 _ (ints_get hx0)
    have hbne : bx ≠ w3.heap.size := fun e => by
      subst e
      have hv' : W.heap[w3.heap.size]? = some (.cells #[v] 28 (0, 0)) := hv
      have hvf : ∀ y, v ≠ Value.int .i64 y := fun y e => by
        subst e
        cases b with
        | none => exact absurd hbest (by simp [BestAt])
        | some q => obtain ⟨⟨_, _, h⟩, _⟩ := hbest; cases h
      simp only [World.cell?, hv'] at hcx0
      cases offx with
      | zero => simp at hcx0; exact hvf _ hcx0
      | succ k => simp at hcx0
    clear hx3 p1 p3 hcellx hcx0 hx0
    have hl3 : xs.length = N := p2
    refine wpIn_block ?_
    refine wpIn_seq ?_
    cases b with
    | none =>
      obtain rfl : v = .slice none 0 0 := hbest
      have heq : ∀ w0, (binOp .eql 28 (.slice none 0 0) (.slice none 0 0)).run Try.prog w0 = .ok (.bool true) w0 := fun w0 => Lib.run_eql_slice_nil (P := Try.prog) w0 28 3 none 0 0 0 0 Try.underlying28
      obtain ⟨nb, hnbq⟩ : ∃ nb : Bool, Hid (true = nb) := ⟨_, Lib.hid rfl⟩
      refine cut_region (A1 := { tmps := #[.agg #[.slice a N cap], .slice ab N capb, .int .i64 s, .int .i64 (t : Int), .pointer (some ⟨w.heap.size, 0, none⟩), .pointer (some ⟨w.heap.size + 1, 0, none⟩), .pointer (some ⟨w.heap.size + 1 + 1, 0, none⟩), undef, .slice none 0 0, .int .i64 0, .pointer (some ⟨w1.heap.size, 0, none⟩), .int .i64 0, .pointer (some ⟨w3.heap.size, 0, none⟩), .slice (some ⟨bx, offx, none⟩) N capx, .pointer (some ⟨W.heap.size, 0, none⟩), undef, undef, .tuple #[.agg #[.slice a N cap], .int .i64 0], .agg #[.slice a N cap], .tuple #[.agg #[.slice a N cap], .int .i64 0], .agg #[.slice a N cap], .int .i64 0, .bool false, .int .i64 0, .bool false, undef, .bool false, .agg #[.slice a N cap], .slice ab N capb, .bool true, .bool false, .bool false, .int .i64 s, .bool true, .bool false, .bool false, .bool false, .int .i64 (t : Int), .bool true, .bool false, .bool false, .bool false, .agg #[.slice a N cap], .int .i64 (N : Int), .bool false, .agg #[.slice a N cap], .int .i64 (N : Int), .int .i64 (t : Int), .func (.func 89) #[] #[.pointer (some ⟨w5.heap.size, 0, none⟩), .pointer (some ⟨w5.heap.size + 1, 0, none⟩)], .slice (some ⟨bx, offx, none⟩) N capx, .slice none 0 0, .bool true, .bool true, undef, undef, undef, undef, undef, .bool true, undef, undef, undef, undef, undef, undef, undef, undef, undef, undef, undef, undef, undef, undef, undef, undef, undef, undef, undef, undef, undef, undef], defers := [] }) (B1 := (W.alloc (.cells #[.bool nb] 4)).drew) ?h ?k
      case h =>
        refine region_round (by kernel_rfl) (by kernel_rfl) no_cut ?_
        change wpAny _ _ _ _ _ _ _ (World.drew _)
        refine wpAny_ready (rs := [0, 9]) (by kernel_rfl) (by simp) ?_
        refine AllReady.cons rfl (fun K hK => ?_) ?_
        · go_simp
          refine hK _ _ ?_
          clear hK K
          refine wpAny_take (i := 1) (v := ?_) rfl (by kernel_rfl) (by kernel_rfl) (by kernel_rfl) (fun _ _ _ h => h) (Or.inl ⟨by kernel_rfl, by intro w; go_simp; try with_reducible rfl⟩) ?_
          refine wpAny_take (i := 2) (v := ?_) rfl (by kernel_rfl) (by kernel_rfl) (by kernel_rfl) (fun _ _ _ h => h) (Or.inl ⟨by kernel_rfl, by intro w; go_simp; try with_reducible rfl⟩) ?_
          refine wpAny_take (i := 3) (v := undef) rfl (by kernel_rfl) (by kernel_rfl) (by kernel_rfl) (fun _ _ _ h => h) (Or.inr ⟨by kernel_rfl, rfl⟩) ?_
          refine wpAny_take (i := 4) (v := undef) rfl (by kernel_rfl) (by kernel_rfl) (by kernel_rfl) (fun _ _ _ h => h) (Or.inr ⟨by kernel_rfl, rfl⟩) ?_
          refine wpAny_take (i := 5) (v := undef) rfl (by kernel_rfl) (by kernel_rfl) (by kernel_rfl) (fun _ _ _ h => h) (Or.inr ⟨by kernel_rfl, rfl⟩) ?_
          refine wpAny_take (i := 6) (v := undef) rfl (by kernel_rfl) (by kernel_rfl) (by kernel_rfl) (fun _ _ _ h => h) (Or.inr ⟨by kernel_rfl, rfl⟩) ?_
          refine wpAny_take (i := 7) (v := undef) rfl (by kernel_rfl) (by kernel_rfl) (by kernel_rfl) (fun _ _ _ h => h) (Or.inr ⟨by kernel_rfl, rfl⟩) ?_
          refine wpAny_take (i := 8) (v := ?_) rfl (by kernel_rfl) (by kernel_rfl) (by kernel_rfl) (fun _ _ _ h => h) (Or.inl ⟨by kernel_rfl, by intro w; go_simp; try with_reducible rfl⟩) ?_
          refine wpAny_ready (rs := [9]) (by kernel_rfl) (by simp) ?_
          refine AllReady.cons rfl (fun K hK => ?_) ?_
          · go_simp
            refine hK _ _ ?_
            clear hK K
            refine wpAny_ready (rs := [10]) (by kernel_rfl) (by simp) ?_
            refine AllReady.cons rfl (fun K hK => ?_) ?_
            · go_simp
              refine hK _ _ ?_
              clear hK K
              refine wpAny_done (by kernel_rfl) ?_ _
              exact ⟨rfl, by rw [← hnbq.out]⟩
            exact AllReady.nil
          exact AllReady.nil
        refine AllReady.cons rfl (fun K hK => ?_) ?_
        · go_simp
          refine hK _ _ ?_
          clear hK K
          refine wpAny_ready (rs := [0]) (by kernel_rfl) (by simp) ?_
          refine AllReady.cons rfl (fun K hK => ?_) ?_
          · go_simp
            refine hK _ _ ?_
            clear hK K
            refine wpAny_take (i := 1) (v := ?_) rfl (by kernel_rfl) (by kernel_rfl) (by kernel_rfl) (fun _ _ _ h => h) (Or.inl ⟨by kernel_rfl, by intro w; go_simp; try with_reducible rfl⟩) ?_
            refine wpAny_take (i := 2) (v := ?_) rfl (by kernel_rfl) (by kernel_rfl) (by kernel_rfl) (fun _ _ _ h => h) (Or.inl ⟨by kernel_rfl, by intro w; go_simp; try with_reducible rfl⟩) ?_
            refine wpAny_take (i := 3) (v := undef) rfl (by kernel_rfl) (by kernel_rfl) (by kernel_rfl) (fun _ _ _ h => h) (Or.inr ⟨by kernel_rfl, rfl⟩) ?_
            refine wpAny_take (i := 4) (v := undef) rfl (by kernel_rfl) (by kernel_rfl) (by kernel_rfl) (fun _ _ _ h => h) (Or.inr ⟨by kernel_rfl, rfl⟩) ?_
            refine wpAny_take (i := 5) (v := undef) rfl (by kernel_rfl) (by kernel_rfl) (by kernel_rfl) (fun _ _ _ h => h) (Or.inr ⟨by kernel_rfl, rfl⟩) ?_
            refine wpAny_take (i := 6) (v := undef) rfl (by kernel_rfl) (by kernel_rfl) (by kernel_rfl) (fun _ _ _ h => h) (Or.inr ⟨by kernel_rfl, rfl⟩) ?_
            refine wpAny_take (i := 7) (v := undef) rfl (by kernel_rfl) (by kernel_rfl) (by kernel_rfl) (fun _ _ _ h => h) (Or.inr ⟨by kernel_rfl, rfl⟩) ?_
            refine wpAny_take (i := 8) (v := ?_) rfl (by kernel_rfl) (by kernel_rfl) (by kernel_rfl) (fun _ _ _ h => h) (Or.inl ⟨by kernel_rfl, by intro w; go_simp; try with_reducible rfl⟩) ?_
            refine wpAny_ready (rs := [10]) (by kernel_rfl) (by simp) ?_
            refine AllReady.cons rfl (fun K hK => ?_) ?_
            · go_simp
              refine hK _ _ ?_
              clear hK K
              refine wpAny_done (by kernel_rfl) ?_ _
              exact ⟨rfl, by rw [← hnbq.out]⟩
            exact AllReady.nil
          exact AllReady.nil
        exact AllReady.nil
      case k =>
        · skip
          change Code.wpIn _ _ _ _ _ _ _
          have HNB : Hid (nb = lessB none xs) := Lib.hid (hnbq.out.symm.trans rfl)
          clear hnbq
          have bNB : Boxed (W.alloc (.cells #[.bool nb] 4)).drew W.heap.size 4 (.bool nb) := Boxed.new W 4 (.bool nb)
          have hbd : Below W.heap.size W (W.alloc (.cells #[.bool nb] 4)).drew := ((Below.refl _ _).alloc (Nat.le_refl _) _).drew
          have zd : (W.alloc (.cells #[.bool nb] 4)).drew.heap.size = W.heap.size + 1 := by simp
          generalize (W.alloc (.cells #[.bool nb] 4)).drew = Wd at *
          have cXd := cell_below cX hbd
          have lXd : w1.heap.size < Wd.heap.size := World.block_lt_of_cell? _ _ cXd
          gi_wp2_with (first
            | (refine ⟨trivial, rfl, ?_⟩; gi_at_call 71; refine (CallsIn.inRound l (callsIn_wide.2 (sums_any _ _ _ _ _ _ _))).mono ?_; rintro e w7 ⟨rfl, rfl⟩))
          have bBk := Boxed.new Wd 71 (.slice a N cap)
          have bPw := Boxed.new (Wd.alloc (.cells #[.slice a N cap] 71)) 28 (.slice (some ⟨bx, offx, none⟩) N capx)
          obtain ⟨W7, hW7⟩ : ∃ W7, (Wd.alloc (.cells #[.slice a N cap] 71)).alloc (.cells #[.slice (some ⟨bx, offx, none⟩) N capx] 28) = W7 := ⟨_, rfl⟩
          have z7 : W7.heap.size = W.heap.size + 3 := by rw [← hW7]; simp; omega
          have hb7 : Below W.heap.size W W7 := by rw [← hW7]; exact (hbd.alloc hbd.size _).alloc (by simp; omega) _
          replace bNB := (bNB.alloc (.cells #[.slice a N cap] 71)).alloc (.cells #[.slice (some ⟨bx, offx, none⟩) N capx] 28)
          replace bBk := bBk.alloc (.cells #[.slice (some ⟨bx, offx, none⟩) N capx] 28)
          try simp only [World.size_alloc, zd] at bBk bPw ⊢
          rw [hW7] at bNB bBk bPw ⊢
          clear hW7
          have hl7 : W7.heap[l]? = some (.loop r) := (hb7.block l lL).trans hr
          refine wpIn_n (n := 4) ?_
          refine wpIn_rangeFunc_ownN (F := Fence.wide.inRound l) (n := 4) (l₀ := l) (r₀ := r) rfl hl7 (by omega) (gf := 86) (lb := #[.pointer (some ⟨W.heap.size + 1, 0, none⟩), .pointer (some ⟨W.heap.size + 1 + 1, 0, none⟩)]) rfl trivial (enters_of Try.func86 (by kernel_rfl) rfl)
            ((sums_stops HN.out HQ1.out HP1.out W W7 (W.heap.size + 1) (W.heap.size + 1 + 1) _ _ (HV.out.below (hb03.trans (hB.mono hb03.size))) HXR.out hb7 bBk.cell bPw.cell).inRound l) KpS_t (KpS_b (by omega) (by omega)) (Below.refl _ _) (fun _ => rfl)
            (fun (pre2 : List (Fin N)) W' => (Boxed W' W.heap.size 4 (.bool (nb && pre2.all fun x => decide (((hs m xs x.1 N - want.getD x.1 0).natAbs : Int) ≤ s))) ∧ Boxed W' (W.heap.size + 1 + 1) 28 (.slice (some ⟨bx, offx, none⟩) N capx)) ∧ Below W.heap.size W W')
            (fun _ _ _ => False)
            (OwnFrom.and (OwnFrom.and (Own.from (boxed_own _ _ _) _) (Own.from (boxed_own _ _ _) _)) (ownFrom_below (Nat.le_refl _) (by omega)))
            (fun _ _ _ _ _ hs _ _ => hs)
            ⟨⟨by simpa using bNB, bPw⟩, hb7⟩
            (fun x a' _ => a' = { tmps := #[.agg #[.slice a N cap], .slice ab N capb, .int .i64 s, .int .i64 (t : Int), .pointer (some ⟨w.heap.size, 0, none⟩), .pointer (some ⟨w.heap.size + 1, 0, none⟩), .pointer (some ⟨w.heap.size + 1 + 1, 0, none⟩), undef, .slice none 0 0, .int .i64 0, .pointer (some ⟨w1.heap.size, 0, none⟩), .int .i64 0, .pointer (some ⟨w3.heap.size, 0, none⟩), .slice (some ⟨bx, offx, none⟩) N capx, .pointer (some ⟨W.heap.size, 0, none⟩), .int .i64 (x.1 : Int), .int .i64 (hs m xs x.1 N), .tuple #[.agg #[.slice a N cap], .int .i64 0], .agg #[.slice a N cap], .tuple #[.agg #[.slice a N cap], .int .i64 0], .agg #[.slice a N cap], .int .i64 0, .bool false, .int .i64 0, .bool false, undef, .bool false, .agg #[.slice a N cap], .slice ab N capb, .bool true, .bool false, .bool false, .int .i64 s, .bool true, .bool false, .bool false, .bool false, .int .i64 (t : Int), .bool true, .bool false, .bool false, .bool false, .agg #[.slice a N cap], .int .i64 (N : Int), .bool false, .agg #[.slice a N cap], .int .i64 (N : Int), .int .i64 (t : Int), .func (.func 89) #[] #[.pointer (some ⟨w5.heap.size, 0, none⟩), .pointer (some ⟨w5.heap.size + 1, 0, none⟩)], .slice (some ⟨bx, offx, none⟩) N capx, .slice none 0 0, .bool true, .bool true, undef, undef, undef, undef, undef, .bool true, .agg #[.slice a N cap], .slice (some ⟨bx, offx, none⟩) N capx, .func (.func 86) #[] #[.pointer (some ⟨W.heap.size + 1, 0, none⟩), .pointer (some ⟨W.heap.size + 1 + 1, 0, none⟩)], .int .i64 (x.1 : Int), .int .i64 (hs m xs x.1 N), undef, undef, undef, undef, undef, undef, undef, undef, undef, undef, undef, undef, undef, undef, undef, undef, undef], defers := [] }) (fun _ _ => ownFrom_pure _ _) ?assign2 ?body2 ?done2 ?stop2
          case assign2 =>
            intro l2 pre2 x W2 K hi hK
            gi_wp2
            exact hK _ _ (KeepsFrom.refl _ _) ⟨Below.refl _ _, rfl⟩ hi rfl
          case body2 =>
            rintro l2 pre2 x a2 W2 hl2 ⟨r2, hr2⟩ ⟨⟨hnb, hbp⟩, hB2⟩ e hlt2
            subst e
            obtain ⟨i, hi⟩ := x
            dsimp only
            have HAL : Hid ((nb && (pre2 ++ [(⟨i, hi⟩ : Fin N)]).all fun x => decide (((hs m xs x.1 N - want.getD x.1 0).natAbs : Int) ≤ s)) = ((nb && pre2.all fun x => decide (((hs m xs x.1 N - want.getD x.1 0).natAbs : Int) ≤ s)) && decide (((hs m xs i N - want.getD i 0).natAbs : Int) ≤ s))) := Lib.hid (by rw [List.all_append, Bool.and_assoc]; simp)
            obtain ⟨y, hy, hgy, hy1, hy2⟩ := HGB.out i hi
            rw [hgy] at HAL
            have hhb := HHB.out xs HX2.out i
            obtain ⟨b2, off2, rfl, hcell⟩ := (hab.below ((hb03.trans (hB.mono hb03.size)).trans (hB2.mono (by omega))) (Nat.le_refl _)).cell (j := i) (by rw [ints_length, hbl.out]; exact hi)
            have c1 := hcell i _ (ints_get hy)
            have cB2 := cell_below cB hB2
            have cS2 := cell_below cS hB2
            have cN2 := hnb.cell
            have cF2 := hnb.frozen
            have hi' : (i : Int) < (N : Int) := by omega
            generalize hz : hs m xs i N = z at *
            have hw1 : IntKind.i64.wrap (z - y) = z - y := IntWalk.i64_in _ ⟨by omega, by omega⟩
            have HSZ := Lib.hid (fun W' => size_any (z - y) W' (by omega))
            clear hcell hy hz hgy hab
            refine wpIn_block ?_
            refine region_round (by kernel_rfl) (by kernel_rfl) (fun ⟨_, _, h⟩ => h) ?_
            change wpAny _ _ _ _ _ _ _ (World.drew _)
            cases hbb : (nb && pre2.all fun x => decide (((hs m xs x.1 N - want.getD x.1 0).natAbs : Int) ≤ s)) with
            | false =>
              rw [hbb] at cN2
              refine wpAny_ready (rs := [0]) (by kernel_rfl) (by simp) ?_
              refine AllReady.cons rfl (fun K hK => ?_) ?_
              · go_simp
                refine hK _ _ ?_
                clear hK K
                refine wpAny_take (i := 1) (v := ?_) rfl (by kernel_rfl) (by kernel_rfl) (by kernel_rfl) (fun _ _ _ h => h) (Or.inl ⟨by kernel_rfl, by intro w; go_simp; try with_reducible rfl⟩) ?_
                refine wpAny_take (i := 2) (v := undef) rfl (by kernel_rfl) (by kernel_rfl) (by kernel_rfl) (fun _ _ _ h => h) (Or.inr ⟨by kernel_rfl, rfl⟩) ?_
                refine wpAny_take (i := 3) (v := undef) rfl (by kernel_rfl) (by kernel_rfl) (by kernel_rfl) (fun _ _ _ h => h) (Or.inr ⟨by kernel_rfl, rfl⟩) ?_
                refine wpAny_take (i := 4) (v := undef) rfl (by kernel_rfl) (by kernel_rfl) (by kernel_rfl) (fun _ _ _ h => h) (Or.inr ⟨by kernel_rfl, rfl⟩) ?_
                refine wpAny_take (i := 5) (v := undef) rfl (by kernel_rfl) (by kernel_rfl) (by kernel_rfl) (fun _ _ _ h => h) (Or.inr ⟨by kernel_rfl, rfl⟩) ?_
                refine wpAny_take (i := 6) (v := undef) rfl (by kernel_rfl) (by kernel_rfl) (by kernel_rfl) (fun _ _ _ h => h) (Or.inr ⟨by kernel_rfl, rfl⟩) ?_
                refine wpAny_take (i := 7) (v := undef) rfl (by kernel_rfl) (by kernel_rfl) (by kernel_rfl) (fun _ _ _ h => h) (Or.inr ⟨by kernel_rfl, rfl⟩) ?_
                refine wpAny_take (i := 8) (v := undef) rfl (by kernel_rfl) (by kernel_rfl) (by kernel_rfl) (fun _ _ _ h => h) (Or.inr ⟨by kernel_rfl, rfl⟩) ?_
                refine wpAny_take (i := 9) (v := undef) rfl (by kernel_rfl) (by kernel_rfl) (by kernel_rfl) (fun _ _ _ h => h) (Or.inr ⟨by kernel_rfl, rfl⟩) ?_
                refine wpAny_take (i := 10) (v := undef) rfl (by kernel_rfl) (by kernel_rfl) (by kernel_rfl) (fun _ _ _ h => h) (Or.inr ⟨by kernel_rfl, rfl⟩) ?_
                refine wpAny_take (i := 11) (v := ?_) rfl (by kernel_rfl) (by kernel_rfl) (by kernel_rfl) (fun _ _ _ h => h) (Or.inl ⟨by kernel_rfl, by intro w; go_simp; try with_reducible rfl⟩) ?_
                refine wpAny_ready (rs := [12]) (by kernel_rfl) (by simp) ?_
                refine AllReady.cons rfl (fun K hK => ?_) ?_
                · go_simp
                  refine hK _ _ ?_
                  clear hK K
                  refine wpAny_done (by kernel_rfl) ?_ _
                  have hst := hnb.set (.bool (false))
                  have hbo := hbp.other (B' := W.heap.size) (by omega) (.bool (false))
                  have hbw : Below W.heap.size W2 (W2.setCell ⟨W.heap.size, 0, none⟩ (.bool (false))).drew := ((Below.refl W.heap.size W2).setCell (p := ⟨W.heap.size, 0, none⟩) (Nat.le_refl _) _).drew
                  have hko : KeepsOthers W2 (W2.setCell ⟨W.heap.size, 0, none⟩ (.bool (false))).drew := (KeepsOthers.setCell _ _ _).trans (KeepsOthers.drew _)
                  have hal := HAL.out
                  rw [hbb, Bool.false_and] at hal
                  refine ⟨hko.from _, ⟨hbw, hbo.cell.trans hbp.cell.symm⟩, ⟨⟨?_, hbo⟩, hB2.trans hbw⟩⟩
                  rw [hal]
                  exact hst
                exact AllReady.nil
              exact AllReady.nil
            | true =>
              rw [hbb] at cN2
              refine wpAny_ready (rs := [0]) (by kernel_rfl) (by simp) ?_
              refine AllReady.cons rfl (fun K hK => ?_) ?_
              · go_simp
                refine hK _ _ ?_
                clear hK K
                refine wpAny_take (i := 1) (v := ?_) rfl (by kernel_rfl) (by kernel_rfl) (by kernel_rfl) (fun _ _ _ h => h) (Or.inl ⟨by kernel_rfl, by intro w; go_simp; try with_reducible rfl⟩) ?_
                refine wpAny_take (i := 2) (v := ?_) rfl (by kernel_rfl) (by kernel_rfl) (by kernel_rfl) (fun _ _ _ h => h) (Or.inl ⟨by kernel_rfl, by intro w; go_simp; try with_reducible rfl⟩) ?_
                refine wpAny_take (i := 4) (v := ?_) rfl (by kernel_rfl) (by kernel_rfl) (by kernel_rfl) (fun _ _ _ h => h) (Or.inl ⟨by kernel_rfl, by intro w; go_simp; try with_reducible rfl⟩) ?_
                refine wpAny_ready (rs := [3, 9]) (by kernel_rfl) (by simp) ?_
                refine AllReady.cons rfl (fun K hK => ?_) ?_
                · go_simp
                  refine hK _ _ ?_
                  clear hK K
                  refine wpAny_take (i := 5) (v := ?_) rfl (by kernel_rfl) (by kernel_rfl) (by kernel_rfl) (fun _ _ _ h => h) (Or.inl ⟨by kernel_rfl, by intro w; go_simp; try with_reducible rfl⟩) ?_
                  refine wpAny_ready (rs := [6, 9]) (by kernel_rfl) (by simp) ?_
                  refine AllReady.cons rfl (fun K hK => ?_) ?_
                  · go_simp
                    refine hK _ _ ?_
                    clear hK K
                    refine wpAny_take (i := 7) (v := ?_) rfl (by kernel_rfl) (by kernel_rfl) (by kernel_rfl) (fun _ _ _ h => h) (Or.inl ⟨by kernel_rfl, by intro w; go_simp; try with_reducible rfl⟩) ?_
                    refine wpAny_ready (rs := [8, 9]) (by kernel_rfl) (by simp) ?_
                    refine AllReady.cons rfl (fun K hK => ?_) ?_
                    · (go_simp; go_at_call 60; refine (HSZ.out _).mono ?_; rintro e w' ⟨rfl, rfl⟩)
                      refine hK _ _ ?_
                      clear hK K
                      refine wpAny_ready (rs := [9]) (by kernel_rfl) (by simp) ?_
                      refine AllReady.cons rfl (fun K hK => ?_) ?_
                      · go_simp
                        refine hK _ _ ?_
                        clear hK K
                        refine wpAny_take (i := 10) (v := ?_) rfl (by kernel_rfl) (by kernel_rfl) (by kernel_rfl) (fun _ _ _ h => h) (Or.inl ⟨by kernel_rfl, by intro w; go_simp; try with_reducible rfl⟩) ?_
                        refine wpAny_take (i := 11) (v := ?_) rfl (by kernel_rfl) (by kernel_rfl) (by kernel_rfl) (fun _ _ _ h => h) (Or.inl ⟨by kernel_rfl, by intro w; go_simp; try with_reducible rfl⟩) ?_
                        refine wpAny_ready (rs := [12]) (by kernel_rfl) (by simp) ?_
                        refine AllReady.cons rfl (fun K hK => ?_) ?_
                        · go_simp
                          refine hK _ _ ?_
                          clear hK K
                          refine wpAny_done (by kernel_rfl) ?_ _
                          have hst := hnb.set (.bool (decide (((z - y).natAbs : Int) ≤ s)))
                          have hbo := hbp.other (B' := W.heap.size) (by omega) (.bool (decide (((z - y).natAbs : Int) ≤ s)))
                          have hbw : Below W.heap.size W2 (W2.setCell ⟨W.heap.size, 0, none⟩ (.bool (decide (((z - y).natAbs : Int) ≤ s)))).drew := ((Below.refl W.heap.size W2).setCell (p := ⟨W.heap.size, 0, none⟩) (Nat.le_refl _) _).drew
                          have hko : KeepsOthers W2 (W2.setCell ⟨W.heap.size, 0, none⟩ (.bool (decide (((z - y).natAbs : Int) ≤ s)))).drew := (KeepsOthers.setCell _ _ _).trans (KeepsOthers.drew _)
                          have hal := HAL.out
                          rw [hbb, Bool.true_and] at hal
                          refine ⟨hko.from _, ⟨hbw, hbo.cell.trans hbp.cell.symm⟩, ⟨⟨?_, hbo⟩, hB2.trans hbw⟩⟩
                          rw [hal]
                          exact hst
                        exact AllReady.nil
                      exact AllReady.nil
                    refine AllReady.cons rfl (fun K hK => ?_) ?_
                    · go_simp
                      refine hK _ _ ?_
                      clear hK K
                      refine wpAny_ready (rs := [8]) (by kernel_rfl) (by simp) ?_
                      refine AllReady.cons rfl (fun K hK => ?_) ?_
                      · (go_simp; go_at_call 60; refine (HSZ.out _).mono ?_; rintro e w' ⟨rfl, rfl⟩)
                        refine hK _ _ ?_
                        clear hK K
                        refine wpAny_take (i := 10) (v := ?_) rfl (by kernel_rfl) (by kernel_rfl) (by kernel_rfl) (fun _ _ _ h => h) (Or.inl ⟨by kernel_rfl, by intro w; go_simp; try with_reducible rfl⟩) ?_
                        refine wpAny_take (i := 11) (v := ?_) rfl (by kernel_rfl) (by kernel_rfl) (by kernel_rfl) (fun _ _ _ h => h) (Or.inl ⟨by kernel_rfl, by intro w; go_simp; try with_reducible rfl⟩) ?_
                        refine wpAny_ready (rs := [12]) (by kernel_rfl) (by simp) ?_
                        refine AllReady.cons rfl (fun K hK => ?_) ?_
                        · go_simp
                          refine hK _ _ ?_
                          clear hK K
                          refine wpAny_done (by kernel_rfl) ?_ _
                          have hst := hnb.set (.bool (decide (((z - y).natAbs : Int) ≤ s)))
                          have hbo := hbp.other (B' := W.heap.size) (by omega) (.bool (decide (((z - y).natAbs : Int) ≤ s)))
                          have hbw : Below W.heap.size W2 (W2.setCell ⟨W.heap.size, 0, none⟩ (.bool (decide (((z - y).natAbs : Int) ≤ s)))).drew := ((Below.refl W.heap.size W2).setCell (p := ⟨W.heap.size, 0, none⟩) (Nat.le_refl _) _).drew
                          have hko : KeepsOthers W2 (W2.setCell ⟨W.heap.size, 0, none⟩ (.bool (decide (((z - y).natAbs : Int) ≤ s)))).drew := (KeepsOthers.setCell _ _ _).trans (KeepsOthers.drew _)
                          have hal := HAL.out
                          rw [hbb, Bool.true_and] at hal
                          refine ⟨hko.from _, ⟨hbw, hbo.cell.trans hbp.cell.symm⟩, ⟨⟨?_, hbo⟩, hB2.trans hbw⟩⟩
                          rw [hal]
                          exact hst
                        exact AllReady.nil
                      exact AllReady.nil
                    exact AllReady.nil
                  refine AllReady.cons rfl (fun K hK => ?_) ?_
                  · go_simp
                    refine hK _ _ ?_
                    clear hK K
                    refine wpAny_ready (rs := [6]) (by kernel_rfl) (by simp) ?_
                    refine AllReady.cons rfl (fun K hK => ?_) ?_
                    · go_simp
                      refine hK _ _ ?_
                      clear hK K
                      refine wpAny_take (i := 7) (v := ?_) rfl (by kernel_rfl) (by kernel_rfl) (by kernel_rfl) (fun _ _ _ h => h) (Or.inl ⟨by kernel_rfl, by intro w; go_simp; try with_reducible rfl⟩) ?_
                      refine wpAny_ready (rs := [8]) (by kernel_rfl) (by simp) ?_
                      refine AllReady.cons rfl (fun K hK => ?_) ?_
                      · (go_simp; go_at_call 60; refine (HSZ.out _).mono ?_; rintro e w' ⟨rfl, rfl⟩)
                        refine hK _ _ ?_
                        clear hK K
                        refine wpAny_take (i := 10) (v := ?_) rfl (by kernel_rfl) (by kernel_rfl) (by kernel_rfl) (fun _ _ _ h => h) (Or.inl ⟨by kernel_rfl, by intro w; go_simp; try with_reducible rfl⟩) ?_
                        refine wpAny_take (i := 11) (v := ?_) rfl (by kernel_rfl) (by kernel_rfl) (by kernel_rfl) (fun _ _ _ h => h) (Or.inl ⟨by kernel_rfl, by intro w; go_simp; try with_reducible rfl⟩) ?_
                        refine wpAny_ready (rs := [12]) (by kernel_rfl) (by simp) ?_
                        refine AllReady.cons rfl (fun K hK => ?_) ?_
                        · go_simp
                          refine hK _ _ ?_
                          clear hK K
                          refine wpAny_done (by kernel_rfl) ?_ _
                          have hst := hnb.set (.bool (decide (((z - y).natAbs : Int) ≤ s)))
                          have hbo := hbp.other (B' := W.heap.size) (by omega) (.bool (decide (((z - y).natAbs : Int) ≤ s)))
                          have hbw : Below W.heap.size W2 (W2.setCell ⟨W.heap.size, 0, none⟩ (.bool (decide (((z - y).natAbs : Int) ≤ s)))).drew := ((Below.refl W.heap.size W2).setCell (p := ⟨W.heap.size, 0, none⟩) (Nat.le_refl _) _).drew
                          have hko : KeepsOthers W2 (W2.setCell ⟨W.heap.size, 0, none⟩ (.bool (decide (((z - y).natAbs : Int) ≤ s)))).drew := (KeepsOthers.setCell _ _ _).trans (KeepsOthers.drew _)
                          have hal := HAL.out
                          rw [hbb, Bool.true_and] at hal
                          refine ⟨hko.from _, ⟨hbw, hbo.cell.trans hbp.cell.symm⟩, ⟨⟨?_, hbo⟩, hB2.trans hbw⟩⟩
                          rw [hal]
                          exact hst
                        exact AllReady.nil
                      exact AllReady.nil
                    exact AllReady.nil
                  exact AllReady.nil
                refine AllReady.cons rfl (fun K hK => ?_) ?_
                · go_simp
                  refine hK _ _ ?_
                  clear hK K
                  refine wpAny_ready (rs := [3]) (by kernel_rfl) (by simp) ?_
                  refine AllReady.cons rfl (fun K hK => ?_) ?_
                  · go_simp
                    refine hK _ _ ?_
                    clear hK K
                    refine wpAny_take (i := 5) (v := ?_) rfl (by kernel_rfl) (by kernel_rfl) (by kernel_rfl) (fun _ _ _ h => h) (Or.inl ⟨by kernel_rfl, by intro w; go_simp; try with_reducible rfl⟩) ?_
                    refine wpAny_ready (rs := [6]) (by kernel_rfl) (by simp) ?_
                    refine AllReady.cons rfl (fun K hK => ?_) ?_
                    · go_simp
                      refine hK _ _ ?_
                      clear hK K
                      refine wpAny_take (i := 7) (v := ?_) rfl (by kernel_rfl) (by kernel_rfl) (by kernel_rfl) (fun _ _ _ h => h) (Or.inl ⟨by kernel_rfl, by intro w; go_simp; try with_reducible rfl⟩) ?_
                      refine wpAny_ready (rs := [8]) (by kernel_rfl) (by simp) ?_
                      refine AllReady.cons rfl (fun K hK => ?_) ?_
                      · (go_simp; go_at_call 60; refine (HSZ.out _).mono ?_; rintro e w' ⟨rfl, rfl⟩)
                        refine hK _ _ ?_
                        clear hK K
                        refine wpAny_take (i := 10) (v := ?_) rfl (by kernel_rfl) (by kernel_rfl) (by kernel_rfl) (fun _ _ _ h => h) (Or.inl ⟨by kernel_rfl, by intro w; go_simp; try with_reducible rfl⟩) ?_
                        refine wpAny_take (i := 11) (v := ?_) rfl (by kernel_rfl) (by kernel_rfl) (by kernel_rfl) (fun _ _ _ h => h) (Or.inl ⟨by kernel_rfl, by intro w; go_simp; try with_reducible rfl⟩) ?_
                        refine wpAny_ready (rs := [12]) (by kernel_rfl) (by simp) ?_
                        refine AllReady.cons rfl (fun K hK => ?_) ?_
                        · go_simp
                          refine hK _ _ ?_
                          clear hK K
                          refine wpAny_done (by kernel_rfl) ?_ _
                          have hst := hnb.set (.bool (decide (((z - y).natAbs : Int) ≤ s)))
                          have hbo := hbp.other (B' := W.heap.size) (by omega) (.bool (decide (((z - y).natAbs : Int) ≤ s)))
                          have hbw : Below W.heap.size W2 (W2.setCell ⟨W.heap.size, 0, none⟩ (.bool (decide (((z - y).natAbs : Int) ≤ s)))).drew := ((Below.refl W.heap.size W2).setCell (p := ⟨W.heap.size, 0, none⟩) (Nat.le_refl _) _).drew
                          have hko : KeepsOthers W2 (W2.setCell ⟨W.heap.size, 0, none⟩ (.bool (decide (((z - y).natAbs : Int) ≤ s)))).drew := (KeepsOthers.setCell _ _ _).trans (KeepsOthers.drew _)
                          have hal := HAL.out
                          rw [hbb, Bool.true_and] at hal
                          refine ⟨hko.from _, ⟨hbw, hbo.cell.trans hbp.cell.symm⟩, ⟨⟨?_, hbo⟩, hB2.trans hbw⟩⟩
                          rw [hal]
                          exact hst
                        exact AllReady.nil
                      exact AllReady.nil
                    exact AllReady.nil
                  exact AllReady.nil
                exact AllReady.nil
              exact AllReady.nil
          case done2 =>
            rintro xs2 W3 hS2 ⟨⟨hnb, hbp⟩, hB2⟩
            have HNE : Hid (nearB m want s xs N = xs2.all fun x : Fin N => decide (((hs m xs x.1 N - want.getD x.1 0).natAbs : Int) ≤ s)) := Lib.hid (by
              rw [hS2]
              unfold nearB
              rw [HN.out, ← all_fin])
            rw [← HNE.out, HNB.out] at hnb
            have hCH := HCS.out none xs
            have cN3 := hnb.cell
            have hv3 := hv.kept (below_grown hB2 none) (by simp)
            have cv3 := hv3.cell
            have fv3 := hv3.frozen
            have hgX := below_grown hB2 (some w3.heap.size)
            cases hbb : (lessB none xs && nearB m want s xs N) with
            | false =>
              rw [hbb] at cN3
              rw [hbb, if_neg (by simp)] at hCH
              gi_wp2
              simp only [postR]
              rw [HFO.out, hCH]
              exact ⟨hgX, ⟨⟨_, hv3, rfl⟩, hB.trans (hB2.mono (by omega))⟩, hmem⟩
            | true =>
              rw [hbb] at cN3
              rw [hbb, if_pos rfl] at hCH
              gi_wp2
              simp only [postR]
              rw [HFO.out, hCH]
              refine ⟨grown_trans hgX (grownBy_setCell' W3 _ _), ⟨⟨_, hv3.set _, ⟨⟨_, _, by rw [hl3]⟩, ?_⟩⟩, (hB.trans (hB2.mono (by omega))).setCell (p := ⟨w3.heap.size, 0, none⟩) (Nat.le_refl _) _⟩, fun q' e => by cases e; exact HX2.out⟩
              exact grown_rd (grownBy_setCell' W3 w3.heap.size _) (HXR.out.below hB2 (Nat.le_refl _)) (fun a' n' c' e => by cases e; simpa using hbne)
          case stop2 =>
            rintro c pre2 W3 _ h
            exact h.elim
    | some q =>
      obtain ⟨⟨av, cv, rfl⟩, hbr⟩ := hbest
      have heq : ∀ w0, (binOp .eql 28 (.slice (some av) q.length cv) (.slice none 0 0)).run Try.prog w0 = .ok (.bool false) w0 := fun w0 => Lib.run_eql_slice_nil (P := Try.prog) w0 28 3 (some av) q.length cv 0 0 Try.underlying28
      have HT2 := Lib.hid (fun W' (hb : Below W.heap.size W W') => total_any _ q W' (hbr.below hb (Nat.le_refl _)) (by have := (HLP.out q (hmem q rfl)).2.1; omega) (HLP.out q (hmem q rfl)).2.2)
      obtain ⟨nb, hnbq⟩ : ∃ nb : Bool, Hid ((decide (xs.sum < q.sum)) = nb) := ⟨_, Lib.hid rfl⟩
      refine cut_region (A1 := { tmps := #[.agg #[.slice a N cap], .slice ab N capb, .int .i64 s, .int .i64 (t : Int), .pointer (some ⟨w.heap.size, 0, none⟩), .pointer (some ⟨w.heap.size + 1, 0, none⟩), .pointer (some ⟨w.heap.size + 1 + 1, 0, none⟩), undef, .slice none 0 0, .int .i64 0, .pointer (some ⟨w1.heap.size, 0, none⟩), .int .i64 0, .pointer (some ⟨w3.heap.size, 0, none⟩), .slice (some ⟨bx, offx, none⟩) N capx, .pointer (some ⟨W.heap.size, 0, none⟩), undef, undef, .tuple #[.agg #[.slice a N cap], .int .i64 0], .agg #[.slice a N cap], .tuple #[.agg #[.slice a N cap], .int .i64 0], .agg #[.slice a N cap], .int .i64 0, .bool false, .int .i64 0, .bool false, undef, .bool false, .agg #[.slice a N cap], .slice ab N capb, .bool true, .bool false, .bool false, .int .i64 s, .bool true, .bool false, .bool false, .bool false, .int .i64 (t : Int), .bool true, .bool false, .bool false, .bool false, .agg #[.slice a N cap], .int .i64 (N : Int), .bool false, .agg #[.slice a N cap], .int .i64 (N : Int), .int .i64 (t : Int), .func (.func 89) #[] #[.pointer (some ⟨w5.heap.size, 0, none⟩), .pointer (some ⟨w5.heap.size + 1, 0, none⟩)], .slice (some ⟨bx, offx, none⟩) N capx, .slice (some av) q.length cv, .bool false, .bool false, .slice (some ⟨bx, offx, none⟩) N capx, .int .i64 xs.sum, .slice (some av) q.length cv, .int .i64 q.sum, .bool (decide (xs.sum < q.sum)), .bool (decide (xs.sum < q.sum)), undef, undef, undef, undef, undef, undef, undef, undef, undef, undef, undef, undef, undef, undef, undef, undef, undef, undef, undef, undef, undef, undef], defers := [] }) (B1 := (W.alloc (.cells #[.bool nb] 4)).drew) ?h ?k
      case h =>
        refine region_round (by kernel_rfl) (by kernel_rfl) no_cut ?_
        change wpAny _ _ _ _ _ _ _ (World.drew _)
        refine wpAny_ready (rs := [0, 9]) (by kernel_rfl) (by simp) ?_
        refine AllReady.cons rfl (fun K hK => ?_) ?_
        · go_simp
          refine hK _ _ ?_
          clear hK K
          refine wpAny_take (i := 1) (v := ?_) rfl (by kernel_rfl) (by kernel_rfl) (by kernel_rfl) (fun _ _ _ h => h) (Or.inl ⟨by kernel_rfl, by intro w; go_simp; try with_reducible rfl⟩) ?_
          refine wpAny_take (i := 2) (v := ?_) rfl (by kernel_rfl) (by kernel_rfl) (by kernel_rfl) (fun _ _ _ h => h) (Or.inl ⟨by kernel_rfl, by intro w; go_simp; try with_reducible rfl⟩) ?_
          refine wpAny_take (i := 3) (v := ?_) rfl (by kernel_rfl) (by kernel_rfl) (by kernel_rfl) (fun _ _ _ h => h) (Or.inl ⟨by kernel_rfl, by intro w; go_simp; try with_reducible rfl⟩) ?_
          refine wpAny_ready (rs := [4, 5, 9]) (by kernel_rfl) (by simp) ?_
          refine AllReady.cons rfl (fun K hK => ?_) ?_
          · (go_simp; go_at_call 55; refine (HT1.out _ (by first | exact (Below.refl _ _).drew | exact (Below.refl _ _).drew.alloc (Nat.le_refl _) _)).mono ?_; rintro e w' ⟨rfl, rfl⟩)
            refine hK _ _ ?_
            clear hK K
            refine wpAny_ready (rs := [5, 9]) (by kernel_rfl) (by simp) ?_
            refine AllReady.cons rfl (fun K hK => ?_) ?_
            · go_simp
              refine hK _ _ ?_
              clear hK K
              refine wpAny_ready (rs := [6, 9]) (by kernel_rfl) (by simp) ?_
              refine AllReady.cons rfl (fun K hK => ?_) ?_
              · (go_simp; go_at_call 55; refine (HT2.out _ (by first | exact (Below.refl _ _).drew | exact (Below.refl _ _).drew.alloc (Nat.le_refl _) _)).mono ?_; rintro e w' ⟨rfl, rfl⟩)
                refine hK _ _ ?_
                clear hK K
                refine wpAny_take (i := 7) (v := ?_) rfl (by kernel_rfl) (by kernel_rfl) (by kernel_rfl) (fun _ _ _ h => h) (Or.inl ⟨by kernel_rfl, by intro w; go_simp; try with_reducible rfl⟩) ?_
                refine wpAny_take (i := 8) (v := ?_) rfl (by kernel_rfl) (by kernel_rfl) (by kernel_rfl) (fun _ _ _ h => h) (Or.inl ⟨by kernel_rfl, by intro w; go_simp; try with_reducible rfl⟩) ?_
                refine wpAny_ready (rs := [9]) (by kernel_rfl) (by simp) ?_
                refine AllReady.cons rfl (fun K hK => ?_) ?_
                · go_simp
                  refine hK _ _ ?_
                  clear hK K
                  refine wpAny_ready (rs := [10]) (by kernel_rfl) (by simp) ?_
                  refine AllReady.cons rfl (fun K hK => ?_) ?_
                  · go_simp
                    refine hK _ _ ?_
                    clear hK K
                    refine wpAny_done (by kernel_rfl) ?_ _
                    exact ⟨rfl, by rw [← hnbq.out]⟩
                  exact AllReady.nil
                exact AllReady.nil
              refine AllReady.cons rfl (fun K hK => ?_) ?_
              · go_simp
                refine hK _ _ ?_
                clear hK K
                refine wpAny_ready (rs := [6]) (by kernel_rfl) (by simp) ?_
                refine AllReady.cons rfl (fun K hK => ?_) ?_
                · (go_simp; go_at_call 55; refine (HT2.out _ (by first | exact (Below.refl _ _).drew | exact (Below.refl _ _).drew.alloc (Nat.le_refl _) _)).mono ?_; rintro e w' ⟨rfl, rfl⟩)
                  refine hK _ _ ?_
                  clear hK K
                  refine wpAny_take (i := 7) (v := ?_) rfl (by kernel_rfl) (by kernel_rfl) (by kernel_rfl) (fun _ _ _ h => h) (Or.inl ⟨by kernel_rfl, by intro w; go_simp; try with_reducible rfl⟩) ?_
                  refine wpAny_take (i := 8) (v := ?_) rfl (by kernel_rfl) (by kernel_rfl) (by kernel_rfl) (fun _ _ _ h => h) (Or.inl ⟨by kernel_rfl, by intro w; go_simp; try with_reducible rfl⟩) ?_
                  refine wpAny_ready (rs := [10]) (by kernel_rfl) (by simp) ?_
                  refine AllReady.cons rfl (fun K hK => ?_) ?_
                  · go_simp
                    refine hK _ _ ?_
                    clear hK K
                    refine wpAny_done (by kernel_rfl) ?_ _
                    exact ⟨rfl, by rw [← hnbq.out]⟩
                  exact AllReady.nil
                exact AllReady.nil
              exact AllReady.nil
            refine AllReady.cons rfl (fun K hK => ?_) ?_
            · go_simp
              refine hK _ _ ?_
              clear hK K
              refine wpAny_ready (rs := [5]) (by kernel_rfl) (by simp) ?_
              refine AllReady.cons rfl (fun K hK => ?_) ?_
              · go_simp
                refine hK _ _ ?_
                clear hK K
                refine wpAny_ready (rs := [6]) (by kernel_rfl) (by simp) ?_
                refine AllReady.cons rfl (fun K hK => ?_) ?_
                · (go_simp; go_at_call 55; refine (HT2.out _ (by first | exact (Below.refl _ _).drew | exact (Below.refl _ _).drew.alloc (Nat.le_refl _) _)).mono ?_; rintro e w' ⟨rfl, rfl⟩)
                  refine hK _ _ ?_
                  clear hK K
                  refine wpAny_take (i := 7) (v := ?_) rfl (by kernel_rfl) (by kernel_rfl) (by kernel_rfl) (fun _ _ _ h => h) (Or.inl ⟨by kernel_rfl, by intro w; go_simp; try with_reducible rfl⟩) ?_
                  refine wpAny_take (i := 8) (v := ?_) rfl (by kernel_rfl) (by kernel_rfl) (by kernel_rfl) (fun _ _ _ h => h) (Or.inl ⟨by kernel_rfl, by intro w; go_simp; try with_reducible rfl⟩) ?_
                  refine wpAny_ready (rs := [10]) (by kernel_rfl) (by simp) ?_
                  refine AllReady.cons rfl (fun K hK => ?_) ?_
                  · go_simp
                    refine hK _ _ ?_
                    clear hK K
                    refine wpAny_done (by kernel_rfl) ?_ _
                    exact ⟨rfl, by rw [← hnbq.out]⟩
                  exact AllReady.nil
                exact AllReady.nil
              exact AllReady.nil
            exact AllReady.nil
          refine AllReady.cons rfl (fun K hK => ?_) ?_
          · go_simp
            refine hK _ _ ?_
            clear hK K
            refine wpAny_ready (rs := [4, 9]) (by kernel_rfl) (by simp) ?_
            refine AllReady.cons rfl (fun K hK => ?_) ?_
            · (go_simp; go_at_call 55; refine (HT1.out _ (by first | exact (Below.refl _ _).drew | exact (Below.refl _ _).drew.alloc (Nat.le_refl _) _)).mono ?_; rintro e w' ⟨rfl, rfl⟩)
              refine hK _ _ ?_
              clear hK K
              refine wpAny_ready (rs := [6, 9]) (by kernel_rfl) (by simp) ?_
              refine AllReady.cons rfl (fun K hK => ?_) ?_
              · (go_simp; go_at_call 55; refine (HT2.out _ (by first | exact (Below.refl _ _).drew | exact (Below.refl _ _).drew.alloc (Nat.le_refl _) _)).mono ?_; rintro e w' ⟨rfl, rfl⟩)
                refine hK _ _ ?_
                clear hK K
                refine wpAny_take (i := 7) (v := ?_) rfl (by kernel_rfl) (by kernel_rfl) (by kernel_rfl) (fun _ _ _ h => h) (Or.inl ⟨by kernel_rfl, by intro w; go_simp; try with_reducible rfl⟩) ?_
                refine wpAny_take (i := 8) (v := ?_) rfl (by kernel_rfl) (by kernel_rfl) (by kernel_rfl) (fun _ _ _ h => h) (Or.inl ⟨by kernel_rfl, by intro w; go_simp; try with_reducible rfl⟩) ?_
                refine wpAny_ready (rs := [9]) (by kernel_rfl) (by simp) ?_
                refine AllReady.cons rfl (fun K hK => ?_) ?_
                · go_simp
                  refine hK _ _ ?_
                  clear hK K
                  refine wpAny_ready (rs := [10]) (by kernel_rfl) (by simp) ?_
                  refine AllReady.cons rfl (fun K hK => ?_) ?_
                  · go_simp
                    refine hK _ _ ?_
                    clear hK K
                    refine wpAny_done (by kernel_rfl) ?_ _
                    exact ⟨rfl, by rw [← hnbq.out]⟩
                  exact AllReady.nil
                exact AllReady.nil
              refine AllReady.cons rfl (fun K hK => ?_) ?_
              · go_simp
                refine hK _ _ ?_
                clear hK K
                refine wpAny_ready (rs := [6]) (by kernel_rfl) (by simp) ?_
                refine AllReady.cons rfl (fun K hK => ?_) ?_
                · (go_simp; go_at_call 55; refine (HT2.out _ (by first | exact (Below.refl _ _).drew | exact (Below.refl _ _).drew.alloc (Nat.le_refl _) _)).mono ?_; rintro e w' ⟨rfl, rfl⟩)
                  refine hK _ _ ?_
                  clear hK K
                  refine wpAny_take (i := 7) (v := ?_) rfl (by kernel_rfl) (by kernel_rfl) (by kernel_rfl) (fun _ _ _ h => h) (Or.inl ⟨by kernel_rfl, by intro w; go_simp; try with_reducible rfl⟩) ?_
                  refine wpAny_take (i := 8) (v := ?_) rfl (by kernel_rfl) (by kernel_rfl) (by kernel_rfl) (fun _ _ _ h => h) (Or.inl ⟨by kernel_rfl, by intro w; go_simp; try with_reducible rfl⟩) ?_
                  refine wpAny_ready (rs := [10]) (by kernel_rfl) (by simp) ?_
                  refine AllReady.cons rfl (fun K hK => ?_) ?_
                  · go_simp
                    refine hK _ _ ?_
                    clear hK K
                    refine wpAny_done (by kernel_rfl) ?_ _
                    exact ⟨rfl, by rw [← hnbq.out]⟩
                  exact AllReady.nil
                exact AllReady.nil
              exact AllReady.nil
            refine AllReady.cons rfl (fun K hK => ?_) ?_
            · go_simp
              refine hK _ _ ?_
              clear hK K
              refine wpAny_ready (rs := [4]) (by kernel_rfl) (by simp) ?_
              refine AllReady.cons rfl (fun K hK => ?_) ?_
              · (go_simp; go_at_call 55; refine (HT1.out _ (by first | exact (Below.refl _ _).drew | exact (Below.refl _ _).drew.alloc (Nat.le_refl _) _)).mono ?_; rintro e w' ⟨rfl, rfl⟩)
                refine hK _ _ ?_
                clear hK K
                refine wpAny_ready (rs := [6]) (by kernel_rfl) (by simp) ?_
                refine AllReady.cons rfl (fun K hK => ?_) ?_
                · (go_simp; go_at_call 55; refine (HT2.out _ (by first | exact (Below.refl _ _).drew | exact (Below.refl _ _).drew.alloc (Nat.le_refl _) _)).mono ?_; rintro e w' ⟨rfl, rfl⟩)
                  refine hK _ _ ?_
                  clear hK K
                  refine wpAny_take (i := 7) (v := ?_) rfl (by kernel_rfl) (by kernel_rfl) (by kernel_rfl) (fun _ _ _ h => h) (Or.inl ⟨by kernel_rfl, by intro w; go_simp; try with_reducible rfl⟩) ?_
                  refine wpAny_take (i := 8) (v := ?_) rfl (by kernel_rfl) (by kernel_rfl) (by kernel_rfl) (fun _ _ _ h => h) (Or.inl ⟨by kernel_rfl, by intro w; go_simp; try with_reducible rfl⟩) ?_
                  refine wpAny_ready (rs := [10]) (by kernel_rfl) (by simp) ?_
                  refine AllReady.cons rfl (fun K hK => ?_) ?_
                  · go_simp
                    refine hK _ _ ?_
                    clear hK K
                    refine wpAny_done (by kernel_rfl) ?_ _
                    exact ⟨rfl, by rw [← hnbq.out]⟩
                  exact AllReady.nil
                exact AllReady.nil
              exact AllReady.nil
            exact AllReady.nil
          refine AllReady.cons rfl (fun K hK => ?_) ?_
          · go_simp
            refine hK _ _ ?_
            clear hK K
            refine wpAny_ready (rs := [4, 5]) (by kernel_rfl) (by simp) ?_
            refine AllReady.cons rfl (fun K hK => ?_) ?_
            · (go_simp; go_at_call 55; refine (HT1.out _ (by first | exact (Below.refl _ _).drew | exact (Below.refl _ _).drew.alloc (Nat.le_refl _) _)).mono ?_; rintro e w' ⟨rfl, rfl⟩)
              refine hK _ _ ?_
              clear hK K
              refine wpAny_ready (rs := [5]) (by kernel_rfl) (by simp) ?_
              refine AllReady.cons rfl (fun K hK => ?_) ?_
              · go_simp
                refine hK _ _ ?_
                clear hK K
                refine wpAny_ready (rs := [6]) (by kernel_rfl) (by simp) ?_
                refine AllReady.cons rfl (fun K hK => ?_) ?_
                · (go_simp; go_at_call 55; refine (HT2.out _ (by first | exact (Below.refl _ _).drew | exact (Below.refl _ _).drew.alloc (Nat.le_refl _) _)).mono ?_; rintro e w' ⟨rfl, rfl⟩)
                  refine hK _ _ ?_
                  clear hK K
                  refine wpAny_take (i := 7) (v := ?_) rfl (by kernel_rfl) (by kernel_rfl) (by kernel_rfl) (fun _ _ _ h => h) (Or.inl ⟨by kernel_rfl, by intro w; go_simp; try with_reducible rfl⟩) ?_
                  refine wpAny_take (i := 8) (v := ?_) rfl (by kernel_rfl) (by kernel_rfl) (by kernel_rfl) (fun _ _ _ h => h) (Or.inl ⟨by kernel_rfl, by intro w; go_simp; try with_reducible rfl⟩) ?_
                  refine wpAny_ready (rs := [10]) (by kernel_rfl) (by simp) ?_
                  refine AllReady.cons rfl (fun K hK => ?_) ?_
                  · go_simp
                    refine hK _ _ ?_
                    clear hK K
                    refine wpAny_done (by kernel_rfl) ?_ _
                    exact ⟨rfl, by rw [← hnbq.out]⟩
                  exact AllReady.nil
                exact AllReady.nil
              exact AllReady.nil
            refine AllReady.cons rfl (fun K hK => ?_) ?_
            · go_simp
              refine hK _ _ ?_
              clear hK K
              refine wpAny_ready (rs := [4]) (by kernel_rfl) (by simp) ?_
              refine AllReady.cons rfl (fun K hK => ?_) ?_
              · (go_simp; go_at_call 55; refine (HT1.out _ (by first | exact (Below.refl _ _).drew | exact (Below.refl _ _).drew.alloc (Nat.le_refl _) _)).mono ?_; rintro e w' ⟨rfl, rfl⟩)
                refine hK _ _ ?_
                clear hK K
                refine wpAny_ready (rs := [6]) (by kernel_rfl) (by simp) ?_
                refine AllReady.cons rfl (fun K hK => ?_) ?_
                · (go_simp; go_at_call 55; refine (HT2.out _ (by first | exact (Below.refl _ _).drew | exact (Below.refl _ _).drew.alloc (Nat.le_refl _) _)).mono ?_; rintro e w' ⟨rfl, rfl⟩)
                  refine hK _ _ ?_
                  clear hK K
                  refine wpAny_take (i := 7) (v := ?_) rfl (by kernel_rfl) (by kernel_rfl) (by kernel_rfl) (fun _ _ _ h => h) (Or.inl ⟨by kernel_rfl, by intro w; go_simp; try with_reducible rfl⟩) ?_
                  refine wpAny_take (i := 8) (v := ?_) rfl (by kernel_rfl) (by kernel_rfl) (by kernel_rfl) (fun _ _ _ h => h) (Or.inl ⟨by kernel_rfl, by intro w; go_simp; try with_reducible rfl⟩) ?_
                  refine wpAny_ready (rs := [10]) (by kernel_rfl) (by simp) ?_
                  refine AllReady.cons rfl (fun K hK => ?_) ?_
                  · go_simp
                    refine hK _ _ ?_
                    clear hK K
                    refine wpAny_done (by kernel_rfl) ?_ _
                    exact ⟨rfl, by rw [← hnbq.out]⟩
                  exact AllReady.nil
                exact AllReady.nil
              exact AllReady.nil
            exact AllReady.nil
          exact AllReady.nil
        refine AllReady.cons rfl (fun K hK => ?_) ?_
        · go_simp
          refine hK _ _ ?_
          clear hK K
          refine wpAny_ready (rs := [0]) (by kernel_rfl) (by simp) ?_
          refine AllReady.cons rfl (fun K hK => ?_) ?_
          · go_simp
            refine hK _ _ ?_
            clear hK K
            refine wpAny_take (i := 1) (v := ?_) rfl (by kernel_rfl) (by kernel_rfl) (by kernel_rfl) (fun _ _ _ h => h) (Or.inl ⟨by kernel_rfl, by intro w; go_simp; try with_reducible rfl⟩) ?_
            refine wpAny_take (i := 2) (v := ?_) rfl (by kernel_rfl) (by kernel_rfl) (by kernel_rfl) (fun _ _ _ h => h) (Or.inl ⟨by kernel_rfl, by intro w; go_simp; try with_reducible rfl⟩) ?_
            refine wpAny_take (i := 3) (v := ?_) rfl (by kernel_rfl) (by kernel_rfl) (by kernel_rfl) (fun _ _ _ h => h) (Or.inl ⟨by kernel_rfl, by intro w; go_simp; try with_reducible rfl⟩) ?_
            refine wpAny_ready (rs := [4, 5]) (by kernel_rfl) (by simp) ?_
            refine AllReady.cons rfl (fun K hK => ?_) ?_
            · (go_simp; go_at_call 55; refine (HT1.out _ (by first | exact (Below.refl _ _).drew | exact (Below.refl _ _).drew.alloc (Nat.le_refl _) _)).mono ?_; rintro e w' ⟨rfl, rfl⟩)
              refine hK _ _ ?_
              clear hK K
              refine wpAny_ready (rs := [5]) (by kernel_rfl) (by simp) ?_
              refine AllReady.cons rfl (fun K hK => ?_) ?_
              · go_simp
                refine hK _ _ ?_
                clear hK K
                refine wpAny_ready (rs := [6]) (by kernel_rfl) (by simp) ?_
                refine AllReady.cons rfl (fun K hK => ?_) ?_
                · (go_simp; go_at_call 55; refine (HT2.out _ (by first | exact (Below.refl _ _).drew | exact (Below.refl _ _).drew.alloc (Nat.le_refl _) _)).mono ?_; rintro e w' ⟨rfl, rfl⟩)
                  refine hK _ _ ?_
                  clear hK K
                  refine wpAny_take (i := 7) (v := ?_) rfl (by kernel_rfl) (by kernel_rfl) (by kernel_rfl) (fun _ _ _ h => h) (Or.inl ⟨by kernel_rfl, by intro w; go_simp; try with_reducible rfl⟩) ?_
                  refine wpAny_take (i := 8) (v := ?_) rfl (by kernel_rfl) (by kernel_rfl) (by kernel_rfl) (fun _ _ _ h => h) (Or.inl ⟨by kernel_rfl, by intro w; go_simp; try with_reducible rfl⟩) ?_
                  refine wpAny_ready (rs := [10]) (by kernel_rfl) (by simp) ?_
                  refine AllReady.cons rfl (fun K hK => ?_) ?_
                  · go_simp
                    refine hK _ _ ?_
                    clear hK K
                    refine wpAny_done (by kernel_rfl) ?_ _
                    exact ⟨rfl, by rw [← hnbq.out]⟩
                  exact AllReady.nil
                exact AllReady.nil
              exact AllReady.nil
            refine AllReady.cons rfl (fun K hK => ?_) ?_
            · go_simp
              refine hK _ _ ?_
              clear hK K
              refine wpAny_ready (rs := [4]) (by kernel_rfl) (by simp) ?_
              refine AllReady.cons rfl (fun K hK => ?_) ?_
              · (go_simp; go_at_call 55; refine (HT1.out _ (by first | exact (Below.refl _ _).drew | exact (Below.refl _ _).drew.alloc (Nat.le_refl _) _)).mono ?_; rintro e w' ⟨rfl, rfl⟩)
                refine hK _ _ ?_
                clear hK K
                refine wpAny_ready (rs := [6]) (by kernel_rfl) (by simp) ?_
                refine AllReady.cons rfl (fun K hK => ?_) ?_
                · (go_simp; go_at_call 55; refine (HT2.out _ (by first | exact (Below.refl _ _).drew | exact (Below.refl _ _).drew.alloc (Nat.le_refl _) _)).mono ?_; rintro e w' ⟨rfl, rfl⟩)
                  refine hK _ _ ?_
                  clear hK K
                  refine wpAny_take (i := 7) (v := ?_) rfl (by kernel_rfl) (by kernel_rfl) (by kernel_rfl) (fun _ _ _ h => h) (Or.inl ⟨by kernel_rfl, by intro w; go_simp; try with_reducible rfl⟩) ?_
                  refine wpAny_take (i := 8) (v := ?_) rfl (by kernel_rfl) (by kernel_rfl) (by kernel_rfl) (fun _ _ _ h => h) (Or.inl ⟨by kernel_rfl, by intro w; go_simp; try with_reducible rfl⟩) ?_
                  refine wpAny_ready (rs := [10]) (by kernel_rfl) (by simp) ?_
                  refine AllReady.cons rfl (fun K hK => ?_) ?_
                  · go_simp
                    refine hK _ _ ?_
                    clear hK K
                    refine wpAny_done (by kernel_rfl) ?_ _
                    exact ⟨rfl, by rw [← hnbq.out]⟩
                  exact AllReady.nil
                exact AllReady.nil
              exact AllReady.nil
            exact AllReady.nil
          exact AllReady.nil
        exact AllReady.nil
      case k =>
        · skip
          change Code.wpIn _ _ _ _ _ _ _
          have HNB : Hid (nb = lessB (some q) xs) := Lib.hid (hnbq.out.symm.trans rfl)
          clear hnbq
          have bNB : Boxed (W.alloc (.cells #[.bool nb] 4)).drew W.heap.size 4 (.bool nb) := Boxed.new W 4 (.bool nb)
          have hbd : Below W.heap.size W (W.alloc (.cells #[.bool nb] 4)).drew := ((Below.refl _ _).alloc (Nat.le_refl _) _).drew
          have zd : (W.alloc (.cells #[.bool nb] 4)).drew.heap.size = W.heap.size + 1 := by simp
          generalize (W.alloc (.cells #[.bool nb] 4)).drew = Wd at *
          have cXd := cell_below cX hbd
          have lXd : w1.heap.size < Wd.heap.size := World.block_lt_of_cell? _ _ cXd
          gi_wp2_with (first
            | (refine ⟨trivial, rfl, ?_⟩; gi_at_call 71; refine (CallsIn.inRound l (callsIn_wide.2 (sums_any _ _ _ _ _ _ _))).mono ?_; rintro e w7 ⟨rfl, rfl⟩))
          have bBk := Boxed.new Wd 71 (.slice a N cap)
          have bPw := Boxed.new (Wd.alloc (.cells #[.slice a N cap] 71)) 28 (.slice (some ⟨bx, offx, none⟩) N capx)
          obtain ⟨W7, hW7⟩ : ∃ W7, (Wd.alloc (.cells #[.slice a N cap] 71)).alloc (.cells #[.slice (some ⟨bx, offx, none⟩) N capx] 28) = W7 := ⟨_, rfl⟩
          have z7 : W7.heap.size = W.heap.size + 3 := by rw [← hW7]; simp; omega
          have hb7 : Below W.heap.size W W7 := by rw [← hW7]; exact (hbd.alloc hbd.size _).alloc (by simp; omega) _
          replace bNB := (bNB.alloc (.cells #[.slice a N cap] 71)).alloc (.cells #[.slice (some ⟨bx, offx, none⟩) N capx] 28)
          replace bBk := bBk.alloc (.cells #[.slice (some ⟨bx, offx, none⟩) N capx] 28)
          try simp only [World.size_alloc, zd] at bBk bPw ⊢
          rw [hW7] at bNB bBk bPw ⊢
          clear hW7
          have hl7 : W7.heap[l]? = some (.loop r) := (hb7.block l lL).trans hr
          refine wpIn_n (n := 4) ?_
          refine wpIn_rangeFunc_ownN (F := Fence.wide.inRound l) (n := 4) (l₀ := l) (r₀ := r) rfl hl7 (by omega) (gf := 86) (lb := #[.pointer (some ⟨W.heap.size + 1, 0, none⟩), .pointer (some ⟨W.heap.size + 1 + 1, 0, none⟩)]) rfl trivial (enters_of Try.func86 (by kernel_rfl) rfl)
            ((sums_stops HN.out HQ1.out HP1.out W W7 (W.heap.size + 1) (W.heap.size + 1 + 1) _ _ (HV.out.below (hb03.trans (hB.mono hb03.size))) HXR.out hb7 bBk.cell bPw.cell).inRound l) KpS_t (KpS_b (by omega) (by omega)) (Below.refl _ _) (fun _ => rfl)
            (fun (pre2 : List (Fin N)) W' => (Boxed W' W.heap.size 4 (.bool (nb && pre2.all fun x => decide (((hs m xs x.1 N - want.getD x.1 0).natAbs : Int) ≤ s))) ∧ Boxed W' (W.heap.size + 1 + 1) 28 (.slice (some ⟨bx, offx, none⟩) N capx)) ∧ Below W.heap.size W W')
            (fun _ _ _ => False)
            (OwnFrom.and (OwnFrom.and (Own.from (boxed_own _ _ _) _) (Own.from (boxed_own _ _ _) _)) (ownFrom_below (Nat.le_refl _) (by omega)))
            (fun _ _ _ _ _ hs _ _ => hs)
            ⟨⟨by simpa using bNB, bPw⟩, hb7⟩
            (fun x a' _ => a' = { tmps := #[.agg #[.slice a N cap], .slice ab N capb, .int .i64 s, .int .i64 (t : Int), .pointer (some ⟨w.heap.size, 0, none⟩), .pointer (some ⟨w.heap.size + 1, 0, none⟩), .pointer (some ⟨w.heap.size + 1 + 1, 0, none⟩), undef, .slice none 0 0, .int .i64 0, .pointer (some ⟨w1.heap.size, 0, none⟩), .int .i64 0, .pointer (some ⟨w3.heap.size, 0, none⟩), .slice (some ⟨bx, offx, none⟩) N capx, .pointer (some ⟨W.heap.size, 0, none⟩), .int .i64 (x.1 : Int), .int .i64 (hs m xs x.1 N), .tuple #[.agg #[.slice a N cap], .int .i64 0], .agg #[.slice a N cap], .tuple #[.agg #[.slice a N cap], .int .i64 0], .agg #[.slice a N cap], .int .i64 0, .bool false, .int .i64 0, .bool false, undef, .bool false, .agg #[.slice a N cap], .slice ab N capb, .bool true, .bool false, .bool false, .int .i64 s, .bool true, .bool false, .bool false, .bool false, .int .i64 (t : Int), .bool true, .bool false, .bool false, .bool false, .agg #[.slice a N cap], .int .i64 (N : Int), .bool false, .agg #[.slice a N cap], .int .i64 (N : Int), .int .i64 (t : Int), .func (.func 89) #[] #[.pointer (some ⟨w5.heap.size, 0, none⟩), .pointer (some ⟨w5.heap.size + 1, 0, none⟩)], .slice (some ⟨bx, offx, none⟩) N capx, .slice (some av) q.length cv, .bool false, .bool false, .slice (some ⟨bx, offx, none⟩) N capx, .int .i64 xs.sum, .slice (some av) q.length cv, .int .i64 q.sum, .bool (decide (xs.sum < q.sum)), .bool (decide (xs.sum < q.sum)), .agg #[.slice a N cap], .slice (some ⟨bx, offx, none⟩) N capx, .func (.func 86) #[] #[.pointer (some ⟨W.heap.size + 1, 0, none⟩), .pointer (some ⟨W.heap.size + 1 + 1, 0, none⟩)], .int .i64 (x.1 : Int), .int .i64 (hs m xs x.1 N), undef, undef, undef, undef, undef, undef, undef, undef, undef, undef, undef, undef, undef, undef, undef, undef, undef], defers := [] }) (fun _ _ => ownFrom_pure _ _) ?assign2 ?body2 ?done2 ?stop2
          case assign2 =>
            intro l2 pre2 x W2 K hi hK
            gi_wp2
            exact hK _ _ (KeepsFrom.refl _ _) ⟨Below.refl _ _, rfl⟩ hi rfl
          case body2 =>
            rintro l2 pre2 x a2 W2 hl2 ⟨r2, hr2⟩ ⟨⟨hnb, hbp⟩, hB2⟩ e hlt2
            subst e
            obtain ⟨i, hi⟩ := x
            dsimp only
            have HAL : Hid ((nb && (pre2 ++ [(⟨i, hi⟩ : Fin N)]).all fun x => decide (((hs m xs x.1 N - want.getD x.1 0).natAbs : Int) ≤ s)) = ((nb && pre2.all fun x => decide (((hs m xs x.1 N - want.getD x.1 0).natAbs : Int) ≤ s)) && decide (((hs m xs i N - want.getD i 0).natAbs : Int) ≤ s))) := Lib.hid (by rw [List.all_append, Bool.and_assoc]; simp)
            obtain ⟨y, hy, hgy, hy1, hy2⟩ := HGB.out i hi
            rw [hgy] at HAL
            have hhb := HHB.out xs HX2.out i
            obtain ⟨b2, off2, rfl, hcell⟩ := (hab.below ((hb03.trans (hB.mono hb03.size)).trans (hB2.mono (by omega))) (Nat.le_refl _)).cell (j := i) (by rw [ints_length, hbl.out]; exact hi)
            have c1 := hcell i _ (ints_get hy)
            have cB2 := cell_below cB hB2
            have cS2 := cell_below cS hB2
            have cN2 := hnb.cell
            have cF2 := hnb.frozen
            have hi' : (i : Int) < (N : Int) := by omega
            generalize hz : hs m xs i N = z at *
            have hw1 : IntKind.i64.wrap (z - y) = z - y := IntWalk.i64_in _ ⟨by omega, by omega⟩
            have HSZ := Lib.hid (fun W' => size_any (z - y) W' (by omega))
            clear hcell hy hz hgy hab
            refine wpIn_block ?_
            refine region_round (by kernel_rfl) (by kernel_rfl) (fun ⟨_, _, h⟩ => h) ?_
            change wpAny _ _ _ _ _ _ _ (World.drew _)
            cases hbb : (nb && pre2.all fun x => decide (((hs m xs x.1 N - want.getD x.1 0).natAbs : Int) ≤ s)) with
            | false =>
              rw [hbb] at cN2
              refine wpAny_ready (rs := [0]) (by kernel_rfl) (by simp) ?_
              refine AllReady.cons rfl (fun K hK => ?_) ?_
              · go_simp
                refine hK _ _ ?_
                clear hK K
                refine wpAny_take (i := 1) (v := ?_) rfl (by kernel_rfl) (by kernel_rfl) (by kernel_rfl) (fun _ _ _ h => h) (Or.inl ⟨by kernel_rfl, by intro w; go_simp; try with_reducible rfl⟩) ?_
                refine wpAny_take (i := 2) (v := undef) rfl (by kernel_rfl) (by kernel_rfl) (by kernel_rfl) (fun _ _ _ h => h) (Or.inr ⟨by kernel_rfl, rfl⟩) ?_
                refine wpAny_take (i := 3) (v := undef) rfl (by kernel_rfl) (by kernel_rfl) (by kernel_rfl) (fun _ _ _ h => h) (Or.inr ⟨by kernel_rfl, rfl⟩) ?_
                refine wpAny_take (i := 4) (v := undef) rfl (by kernel_rfl) (by kernel_rfl) (by kernel_rfl) (fun _ _ _ h => h) (Or.inr ⟨by kernel_rfl, rfl⟩) ?_
                refine wpAny_take (i := 5) (v := undef) rfl (by kernel_rfl) (by kernel_rfl) (by kernel_rfl) (fun _ _ _ h => h) (Or.inr ⟨by kernel_rfl, rfl⟩) ?_
                refine wpAny_take (i := 6) (v := undef) rfl (by kernel_rfl) (by kernel_rfl) (by kernel_rfl) (fun _ _ _ h => h) (Or.inr ⟨by kernel_rfl, rfl⟩) ?_
                refine wpAny_take (i := 7) (v := undef) rfl (by kernel_rfl) (by kernel_rfl) (by kernel_rfl) (fun _ _ _ h => h) (Or.inr ⟨by kernel_rfl, rfl⟩) ?_
                refine wpAny_take (i := 8) (v := undef) rfl (by kernel_rfl) (by kernel_rfl) (by kernel_rfl) (fun _ _ _ h => h) (Or.inr ⟨by kernel_rfl, rfl⟩) ?_
                refine wpAny_take (i := 9) (v := undef) rfl (by kernel_rfl) (by kernel_rfl) (by kernel_rfl) (fun _ _ _ h => h) (Or.inr ⟨by kernel_rfl, rfl⟩) ?_
                refine wpAny_take (i := 10) (v := undef) rfl (by kernel_rfl) (by kernel_rfl) (by kernel_rfl) (fun _ _ _ h => h) (Or.inr ⟨by kernel_rfl, rfl⟩) ?_
                refine wpAny_take (i := 11) (v := ?_) rfl (by kernel_rfl) (by kernel_rfl) (by kernel_rfl) (fun _ _ _ h => h) (Or.inl ⟨by kernel_rfl, by intro w; go_simp; try with_reducible rfl⟩) ?_
                refine wpAny_ready (rs := [12]) (by kernel_rfl) (by simp) ?_
                refine AllReady.cons rfl (fun K hK => ?_) ?_
                · go_simp
                  refine hK _ _ ?_
                  clear hK K
                  refine wpAny_done (by kernel_rfl) ?_ _
                  have hst := hnb.set (.bool (false))
                  have hbo := hbp.other (B' := W.heap.size) (by omega) (.bool (false))
                  have hbw : Below W.heap.size W2 (W2.setCell ⟨W.heap.size, 0, none⟩ (.bool (false))).drew := ((Below.refl W.heap.size W2).setCell (p := ⟨W.heap.size, 0, none⟩) (Nat.le_refl _) _).drew
                  have hko : KeepsOthers W2 (W2.setCell ⟨W.heap.size, 0, none⟩ (.bool (false))).drew := (KeepsOthers.setCell _ _ _).trans (KeepsOthers.drew _)
                  have hal := HAL.out
                  rw [hbb, Bool.false_and] at hal
                  refine ⟨hko.from _, ⟨hbw, hbo.cell.trans hbp.cell.symm⟩, ⟨⟨?_, hbo⟩, hB2.trans hbw⟩⟩
                  rw [hal]
                  exact hst
                exact AllReady.nil
              exact AllReady.nil
            | true =>
              rw [hbb] at cN2
              refine wpAny_ready (rs := [0]) (by kernel_rfl) (by simp) ?_
              refine AllReady.cons rfl (fun K hK => ?_) ?_
              · go_simp
                refine hK _ _ ?_
                clear hK K
                refine wpAny_take (i := 1) (v := ?_) rfl (by kernel_rfl) (by kernel_rfl) (by kernel_rfl) (fun _ _ _ h => h) (Or.inl ⟨by kernel_rfl, by intro w; go_simp; try with_reducible rfl⟩) ?_
                refine wpAny_take (i := 2) (v := ?_) rfl (by kernel_rfl) (by kernel_rfl) (by kernel_rfl) (fun _ _ _ h => h) (Or.inl ⟨by kernel_rfl, by intro w; go_simp; try with_reducible rfl⟩) ?_
                refine wpAny_take (i := 4) (v := ?_) rfl (by kernel_rfl) (by kernel_rfl) (by kernel_rfl) (fun _ _ _ h => h) (Or.inl ⟨by kernel_rfl, by intro w; go_simp; try with_reducible rfl⟩) ?_
                refine wpAny_ready (rs := [3, 9]) (by kernel_rfl) (by simp) ?_
                refine AllReady.cons rfl (fun K hK => ?_) ?_
                · go_simp
                  refine hK _ _ ?_
                  clear hK K
                  refine wpAny_take (i := 5) (v := ?_) rfl (by kernel_rfl) (by kernel_rfl) (by kernel_rfl) (fun _ _ _ h => h) (Or.inl ⟨by kernel_rfl, by intro w; go_simp; try with_reducible rfl⟩) ?_
                  refine wpAny_ready (rs := [6, 9]) (by kernel_rfl) (by simp) ?_
                  refine AllReady.cons rfl (fun K hK => ?_) ?_
                  · go_simp
                    refine hK _ _ ?_
                    clear hK K
                    refine wpAny_take (i := 7) (v := ?_) rfl (by kernel_rfl) (by kernel_rfl) (by kernel_rfl) (fun _ _ _ h => h) (Or.inl ⟨by kernel_rfl, by intro w; go_simp; try with_reducible rfl⟩) ?_
                    refine wpAny_ready (rs := [8, 9]) (by kernel_rfl) (by simp) ?_
                    refine AllReady.cons rfl (fun K hK => ?_) ?_
                    · (go_simp; go_at_call 60; refine (HSZ.out _).mono ?_; rintro e w' ⟨rfl, rfl⟩)
                      refine hK _ _ ?_
                      clear hK K
                      refine wpAny_ready (rs := [9]) (by kernel_rfl) (by simp) ?_
                      refine AllReady.cons rfl (fun K hK => ?_) ?_
                      · go_simp
                        refine hK _ _ ?_
                        clear hK K
                        refine wpAny_take (i := 10) (v := ?_) rfl (by kernel_rfl) (by kernel_rfl) (by kernel_rfl) (fun _ _ _ h => h) (Or.inl ⟨by kernel_rfl, by intro w; go_simp; try with_reducible rfl⟩) ?_
                        refine wpAny_take (i := 11) (v := ?_) rfl (by kernel_rfl) (by kernel_rfl) (by kernel_rfl) (fun _ _ _ h => h) (Or.inl ⟨by kernel_rfl, by intro w; go_simp; try with_reducible rfl⟩) ?_
                        refine wpAny_ready (rs := [12]) (by kernel_rfl) (by simp) ?_
                        refine AllReady.cons rfl (fun K hK => ?_) ?_
                        · go_simp
                          refine hK _ _ ?_
                          clear hK K
                          refine wpAny_done (by kernel_rfl) ?_ _
                          have hst := hnb.set (.bool (decide (((z - y).natAbs : Int) ≤ s)))
                          have hbo := hbp.other (B' := W.heap.size) (by omega) (.bool (decide (((z - y).natAbs : Int) ≤ s)))
                          have hbw : Below W.heap.size W2 (W2.setCell ⟨W.heap.size, 0, none⟩ (.bool (decide (((z - y).natAbs : Int) ≤ s)))).drew := ((Below.refl W.heap.size W2).setCell (p := ⟨W.heap.size, 0, none⟩) (Nat.le_refl _) _).drew
                          have hko : KeepsOthers W2 (W2.setCell ⟨W.heap.size, 0, none⟩ (.bool (decide (((z - y).natAbs : Int) ≤ s)))).drew := (KeepsOthers.setCell _ _ _).trans (KeepsOthers.drew _)
                          have hal := HAL.out
                          rw [hbb, Bool.true_and] at hal
                          refine ⟨hko.from _, ⟨hbw, hbo.cell.trans hbp.cell.symm⟩, ⟨⟨?_, hbo⟩, hB2.trans hbw⟩⟩
                          rw [hal]
                          exact hst
                        exact AllReady.nil
                      exact AllReady.nil
                    refine AllReady.cons rfl (fun K hK => ?_) ?_
                    · go_simp
                      refine hK _ _ ?_
                      clear hK K
                      refine wpAny_ready (rs := [8]) (by kernel_rfl) (by simp) ?_
                      refine AllReady.cons rfl (fun K hK => ?_) ?_
                      · (go_simp; go_at_call 60; refine (HSZ.out _).mono ?_; rintro e w' ⟨rfl, rfl⟩)
                        refine hK _ _ ?_
                        clear hK K
                        refine wpAny_take (i := 10) (v := ?_) rfl (by kernel_rfl) (by kernel_rfl) (by kernel_rfl) (fun _ _ _ h => h) (Or.inl ⟨by kernel_rfl, by intro w; go_simp; try with_reducible rfl⟩) ?_
                        refine wpAny_take (i := 11) (v := ?_) rfl (by kernel_rfl) (by kernel_rfl) (by kernel_rfl) (fun _ _ _ h => h) (Or.inl ⟨by kernel_rfl, by intro w; go_simp; try with_reducible rfl⟩) ?_
                        refine wpAny_ready (rs := [12]) (by kernel_rfl) (by simp) ?_
                        refine AllReady.cons rfl (fun K hK => ?_) ?_
                        · go_simp
                          refine hK _ _ ?_
                          clear hK K
                          refine wpAny_done (by kernel_rfl) ?_ _
                          have hst := hnb.set (.bool (decide (((z - y).natAbs : Int) ≤ s)))
                          have hbo := hbp.other (B' := W.heap.size) (by omega) (.bool (decide (((z - y).natAbs : Int) ≤ s)))
                          have hbw : Below W.heap.size W2 (W2.setCell ⟨W.heap.size, 0, none⟩ (.bool (decide (((z - y).natAbs : Int) ≤ s)))).drew := ((Below.refl W.heap.size W2).setCell (p := ⟨W.heap.size, 0, none⟩) (Nat.le_refl _) _).drew
                          have hko : KeepsOthers W2 (W2.setCell ⟨W.heap.size, 0, none⟩ (.bool (decide (((z - y).natAbs : Int) ≤ s)))).drew := (KeepsOthers.setCell _ _ _).trans (KeepsOthers.drew _)
                          have hal := HAL.out
                          rw [hbb, Bool.true_and] at hal
                          refine ⟨hko.from _, ⟨hbw, hbo.cell.trans hbp.cell.symm⟩, ⟨⟨?_, hbo⟩, hB2.trans hbw⟩⟩
                          rw [hal]
                          exact hst
                        exact AllReady.nil
                      exact AllReady.nil
                    exact AllReady.nil
                  refine AllReady.cons rfl (fun K hK => ?_) ?_
                  · go_simp
                    refine hK _ _ ?_
                    clear hK K
                    refine wpAny_ready (rs := [6]) (by kernel_rfl) (by simp) ?_
                    refine AllReady.cons rfl (fun K hK => ?_) ?_
                    · go_simp
                      refine hK _ _ ?_
                      clear hK K
                      refine wpAny_take (i := 7) (v := ?_) rfl (by kernel_rfl) (by kernel_rfl) (by kernel_rfl) (fun _ _ _ h => h) (Or.inl ⟨by kernel_rfl, by intro w; go_simp; try with_reducible rfl⟩) ?_
                      refine wpAny_ready (rs := [8]) (by kernel_rfl) (by simp) ?_
                      refine AllReady.cons rfl (fun K hK => ?_) ?_
                      · (go_simp; go_at_call 60; refine (HSZ.out _).mono ?_; rintro e w' ⟨rfl, rfl⟩)
                        refine hK _ _ ?_
                        clear hK K
                        refine wpAny_take (i := 10) (v := ?_) rfl (by kernel_rfl) (by kernel_rfl) (by kernel_rfl) (fun _ _ _ h => h) (Or.inl ⟨by kernel_rfl, by intro w; go_simp; try with_reducible rfl⟩) ?_
                        refine wpAny_take (i := 11) (v := ?_) rfl (by kernel_rfl) (by kernel_rfl) (by kernel_rfl) (fun _ _ _ h => h) (Or.inl ⟨by kernel_rfl, by intro w; go_simp; try with_reducible rfl⟩) ?_
                        refine wpAny_ready (rs := [12]) (by kernel_rfl) (by simp) ?_
                        refine AllReady.cons rfl (fun K hK => ?_) ?_
                        · go_simp
                          refine hK _ _ ?_
                          clear hK K
                          refine wpAny_done (by kernel_rfl) ?_ _
                          have hst := hnb.set (.bool (decide (((z - y).natAbs : Int) ≤ s)))
                          have hbo := hbp.other (B' := W.heap.size) (by omega) (.bool (decide (((z - y).natAbs : Int) ≤ s)))
                          have hbw : Below W.heap.size W2 (W2.setCell ⟨W.heap.size, 0, none⟩ (.bool (decide (((z - y).natAbs : Int) ≤ s)))).drew := ((Below.refl W.heap.size W2).setCell (p := ⟨W.heap.size, 0, none⟩) (Nat.le_refl _) _).drew
                          have hko : KeepsOthers W2 (W2.setCell ⟨W.heap.size, 0, none⟩ (.bool (decide (((z - y).natAbs : Int) ≤ s)))).drew := (KeepsOthers.setCell _ _ _).trans (KeepsOthers.drew _)
                          have hal := HAL.out
                          rw [hbb, Bool.true_and] at hal
                          refine ⟨hko.from _, ⟨hbw, hbo.cell.trans hbp.cell.symm⟩, ⟨⟨?_, hbo⟩, hB2.trans hbw⟩⟩
                          rw [hal]
                          exact hst
                        exact AllReady.nil
                      exact AllReady.nil
                    exact AllReady.nil
                  exact AllReady.nil
                refine AllReady.cons rfl (fun K hK => ?_) ?_
                · go_simp
                  refine hK _ _ ?_
                  clear hK K
                  refine wpAny_ready (rs := [3]) (by kernel_rfl) (by simp) ?_
                  refine AllReady.cons rfl (fun K hK => ?_) ?_
                  · go_simp
                    refine hK _ _ ?_
                    clear hK K
                    refine wpAny_take (i := 5) (v := ?_) rfl (by kernel_rfl) (by kernel_rfl) (by kernel_rfl) (fun _ _ _ h => h) (Or.inl ⟨by kernel_rfl, by intro w; go_simp; try with_reducible rfl⟩) ?_
                    refine wpAny_ready (rs := [6]) (by kernel_rfl) (by simp) ?_
                    refine AllReady.cons rfl (fun K hK => ?_) ?_
                    · go_simp
                      refine hK _ _ ?_
                      clear hK K
                      refine wpAny_take (i := 7) (v := ?_) rfl (by kernel_rfl) (by kernel_rfl) (by kernel_rfl) (fun _ _ _ h => h) (Or.inl ⟨by kernel_rfl, by intro w; go_simp; try with_reducible rfl⟩) ?_
                      refine wpAny_ready (rs := [8]) (by kernel_rfl) (by simp) ?_
                      refine AllReady.cons rfl (fun K hK => ?_) ?_
                      · (go_simp; go_at_call 60; refine (HSZ.out _).mono ?_; rintro e w' ⟨rfl, rfl⟩)
                        refine hK _ _ ?_
                        clear hK K
                        refine wpAny_take (i := 10) (v := ?_) rfl (by kernel_rfl) (by kernel_rfl) (by kernel_rfl) (fun _ _ _ h => h) (Or.inl ⟨by kernel_rfl, by intro w; go_simp; try with_reducible rfl⟩) ?_
                        refine wpAny_take (i := 11) (v := ?_) rfl (by kernel_rfl) (by kernel_rfl) (by kernel_rfl) (fun _ _ _ h => h) (Or.inl ⟨by kernel_rfl, by intro w; go_simp; try with_reducible rfl⟩) ?_
                        refine wpAny_ready (rs := [12]) (by kernel_rfl) (by simp) ?_
                        refine AllReady.cons rfl (fun K hK => ?_) ?_
                        · go_simp
                          refine hK _ _ ?_
                          clear hK K
                          refine wpAny_done (by kernel_rfl) ?_ _
                          have hst := hnb.set (.bool (decide (((z - y).natAbs : Int) ≤ s)))
                          have hbo := hbp.other (B' := W.heap.size) (by omega) (.bool (decide (((z - y).natAbs : Int) ≤ s)))
                          have hbw : Below W.heap.size W2 (W2.setCell ⟨W.heap.size, 0, none⟩ (.bool (decide (((z - y).natAbs : Int) ≤ s)))).drew := ((Below.refl W.heap.size W2).setCell (p := ⟨W.heap.size, 0, none⟩) (Nat.le_refl _) _).drew
                          have hko : KeepsOthers W2 (W2.setCell ⟨W.heap.size, 0, none⟩ (.bool (decide (((z - y).natAbs : Int) ≤ s)))).drew := (KeepsOthers.setCell _ _ _).trans (KeepsOthers.drew _)
                          have hal := HAL.out
                          rw [hbb, Bool.true_and] at hal
                          refine ⟨hko.from _, ⟨hbw, hbo.cell.trans hbp.cell.symm⟩, ⟨⟨?_, hbo⟩, hB2.trans hbw⟩⟩
                          rw [hal]
                          exact hst
                        exact AllReady.nil
                      exact AllReady.nil
                    exact AllReady.nil
                  exact AllReady.nil
                exact AllReady.nil
              exact AllReady.nil
          case done2 =>
            rintro xs2 W3 hS2 ⟨⟨hnb, hbp⟩, hB2⟩
            have HNE : Hid (nearB m want s xs N = xs2.all fun x : Fin N => decide (((hs m xs x.1 N - want.getD x.1 0).natAbs : Int) ≤ s)) := Lib.hid (by
              rw [hS2]
              unfold nearB
              rw [HN.out, ← all_fin])
            rw [← HNE.out, HNB.out] at hnb
            have hCH := HCS.out (some q) xs
            have cN3 := hnb.cell
            have hv3 := hv.kept (below_grown hB2 none) (by simp)
            have cv3 := hv3.cell
            have fv3 := hv3.frozen
            have hgX := below_grown hB2 (some w3.heap.size)
            cases hbb : (lessB (some q) xs && nearB m want s xs N) with
            | false =>
              rw [hbb] at cN3
              rw [hbb, if_neg (by simp)] at hCH
              gi_wp2
              simp only [postR]
              rw [HFO.out, hCH]
              exact ⟨hgX, ⟨⟨_, hv3, ⟨⟨_, _, rfl⟩, hbr.below hB2 (Nat.le_refl _)⟩⟩, hB.trans (hB2.mono (by omega))⟩, hmem⟩
            | true =>
              rw [hbb] at cN3
              rw [hbb, if_pos rfl] at hCH
              gi_wp2
              simp only [postR]
              rw [HFO.out, hCH]
              refine ⟨grown_trans hgX (grownBy_setCell' W3 _ _), ⟨⟨_, hv3.set _, ⟨⟨_, _, by rw [hl3]⟩, ?_⟩⟩, (hB.trans (hB2.mono (by omega))).setCell (p := ⟨w3.heap.size, 0, none⟩) (Nat.le_refl _) _⟩, fun q' e => by cases e; exact HX2.out⟩
              exact grown_rd (grownBy_setCell' W3 w3.heap.size _) (HXR.out.below hB2 (Nat.le_refl _)) (fun a' n' c' e => by cases e; simpa using hbne)
          case stop2 =>
            rintro c pre2 W3 _ h
            exact h.elim
  case done =>
    rintro D ys W hD hS ⟨⟨⟨v, hv, hbest⟩, hB⟩, hmem⟩ hK
    rw [hS, ← HCO.out] at hbest hmem
    have hc := hv.cell
    have hbf := (hb03.trans (hB.mono hb03.size)).trans (belowK_b (w := w6) (by have := hb03.size; omega) W D _ (.deferred none) hD hK rfl rfl)
    cases CO with
    | none =>
      obtain rfl : v = .slice none 0 0 := hbest
      have heq : ∀ w0, (binOp .eql 28 (.slice none 0 0) (.slice none 0 0)).run Try.prog w0 = .ok (.bool true) w0 := fun w0 => Lib.run_eql_slice_nil (P := Try.prog) w0 28 3 none 0 0 0 0 Try.underlying28
      gi_wp2
      refine ⟨by simp, .inl ⟨_, _, rfl, run_takeDeferred hK, ?_⟩⟩
      exact ⟨.tuple #[.slice none 0 0, .int .i64 62], by simp [results, Try.results44, go_sem], _, rfl, Rd.nil _, hbf⟩
    | some q =>
      obtain ⟨⟨av, cv, rfl⟩, hbr⟩ := hbest
      have heq : ∀ w0, (binOp .eql 28 (.slice (some av) q.length cv) (.slice none 0 0)).run Try.prog w0 = .ok (.bool false) w0 := fun w0 => Lib.run_eql_slice_nil (P := Try.prog) w0 28 3 (some av) q.length cv 0 0 Try.underlying28
      gi_wp2
      refine ⟨by simp, .inl ⟨_, _, rfl, run_takeDeferred hK, ?_⟩⟩
      exact ⟨.tuple #[.slice (some av) q.length cv, .int .i64 0], by simp [results, Try.results44, go_sem], _, rfl, hbr.turned (grownBy_putObj' W D _) (fun r e => by cases e; exact ⟨_, hK, rfl⟩), hbf⟩

end Go.Proofs.Ytnaoanmkepcinaa

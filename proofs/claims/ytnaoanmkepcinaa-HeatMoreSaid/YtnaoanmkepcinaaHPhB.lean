/- Heat: Phases and Off, the program's: a loop over the sums of a bank. -/
import Derived.Test.YtnaoanmkepcinaaHPhA
import Derived.Test.YtnaoanmkepcinaaHInv
import Derived.RangeFuncBox
namespace Go.Proofs.Ytnaoanmkepcinaa
open Go.RowKit Go.Shelf
attribute [local go_sem] Oper.semAt_some

theorem el_int1' : ElemK Try.prog 28 3 (.int .i64 0) 1 8 :=
  ⟨by kernel_rfl, info_parts (by kernel_rfl), by rfl, by decide, by decide⟩

theorem KpS_t {n₀ Bp : Nat} {A B C : World} (h : KpS n₀ Bp A B) (k : KpS n₀ Bp B C) : KpS n₀ Bp A C := ⟨h.1.trans k.1, k.2.trans h.2⟩
theorem KpS_b {n₀ Bp : Nat} {w : World} (hn : n₀ ≤ w.heap.size) (hB : Bp < w.heap.size) (W : World) (l : Nat) (o o' : Obj) (hl : w.heap.size ≤ l) (h : W.heap[l]? = some o) (h1 : o.isCells = false) (h2 : o.isWalk = false) : KpS n₀ Bp W (W.putObj l o') :=
  ⟨belowK_b hn W l o o' hl h h1 h2, World.cell?_of_block (World.putObj_heap_other (by simp only []; omega))⟩

/-- a phase from 0 on below a turn -/
def ph (b n : Int) : Int := (b + n) % 1000000
theorem ph_eq (b n : Int) : (((b + n).tmod 1000000) + 1000000).tmod 1000000 = ph b n := by
  unfold ph
  generalize b + n = x
  rcases Int.le_total 0 x with h | h
  · rw [Int.tmod_eq_emod_of_nonneg h, Int.tmod_eq_emod_of_nonneg (by omega)]
    omega
  · have e : x.tmod 1000000 = -((-x) % 1000000) := by
      rw [← Int.tmod_eq_emod_of_nonneg (by omega), Int.neg_tmod, Int.neg_neg]
    rw [e, Int.tmod_eq_emod_of_nonneg (by omega)]
    omega
theorem tm_bd (x : Int) : -1000000 ≤ x.tmod 1000000 ∧ x.tmod 1000000 ≤ 1000000 := by
  have h1 : (x.tmod 1000000).natAbs < 1000000 := by rw [Int.natAbs_tmod]; exact Nat.mod_lt _ (by decide)
  omega
theorem ph_bd (b n : Int) : 0 ≤ ph b n ∧ ph b n < 1000000 := by unfold ph; omega
def phL (m : List (List Int)) (base pw : List Int) (k : Nat) : List Int := (List.range k).map fun i => ph (base.getD i 0) (hs m pw i m.length)
def ofL (m : List (List Int)) (base pw : List Int) (k : Nat) : List Int := (List.range k).map fun i => hs m pw i m.length - base.getD i 0

theorem fin_map (N : Nat) (f : Nat → Int) : (List.finRange N).map (fun x => f x.1) = (List.range N).map f := by
  apply List.ext_getElem
  · simp
  · intro i h1 h2
    simp

def psE (m : List (List Int)) (base pw : List Int) : Int := if vB m then (if lstB base m.length (-1000000) 1000000 && lstB pw m.length 0 1000 then 0 else 2) else 60


set_option maxRecDepth 100000 in
set_option maxHeartbeats 4000000 in
theorem Phases_ok (v bv pv : Value) (m : List (List Int)) (base pw : List Int) (w : World) (hv : RdM w v m) (hbv : Rd w bv (ints base)) (hpv : Rd w pv (ints pw))
    (hq1 : vB m = true) (hq2 : lstB base m.length (-1000000) 1000000 = true) (hq3 : lstB pw m.length 0 1000 = true) :
    Calls Try.prog 31 #[.agg #[v], bv, pv] w fun e w' => ∃ u, e = .returned (.tuple #[u, .int .i64 0]) ∧ w'.ownsRow w.heap.size 3 1 u m.length (ints (phL m base pw m.length)) ∧ Below w.heap.size w w' := by
  have HV := Lib.hid hv
  have HBV := Lib.hid hbv
  have HPV := Lib.hid hpv
  obtain ⟨h1, h2, h3⟩ := vB_bd hq1
  obtain ⟨g1, g2⟩ := lstB_bd hq2
  obtain ⟨p1, p2⟩ := lstB_bd hq3
  obtain ⟨vs, ⟨a, cap, rfl, hc, hcm, ha, _⟩, hr⟩ := hv
  obtain ⟨ab, capb, rfl, hcb, hcmb, hab, _⟩ := hbv
  obtain ⟨aw, capw, rfl, hcw, hcmw, haw, _⟩ := hpv
  rw [hr.1] at hc HV ⊢
  rw [ints_length, g1] at hcb HBV ⊢
  rw [ints_length, p1] at hcw HPV ⊢
  have hcall := Lib.hid (fun W hb => opened_any _ m W (HV.out.below (w' := W) hb) (by omega) (fun r hr => by rw [(h3 r hr).1]; omega))
  rw [hq1] at hcall
  simp only [if_true] at hcall
  have HPH := Lib.hid (fun W hb => phases_any a m.length cap _ base W (HBV.out.below (w' := W) (B := w.heap.size) hb (Nat.le_refl _)) (by omega))
  rw [hq2] at HPH
  have HPO := Lib.hid (fun W hb => powers_any a m.length cap _ pw W (HPV.out.below (w' := W) (B := w.heap.size) hb (Nat.le_refl _)) (by omega))
  rw [hq3] at HPO
  have HGB : Hid (∀ j, j < m.length → ∃ x, base[j]? = some x ∧ base.getD j 0 = x ∧ -1000000 ≤ x ∧ x ≤ 1000000) := Lib.hid fun j hj =>
    have hj2 : j < base.length := by omega
    ⟨_, List.getElem?_eq_getElem hj2, by rw [List.getD_eq_getElem?_getD, List.getElem?_eq_getElem hj2]; rfl, g2 _ (List.getElem_mem hj2)⟩
  have hbl := Lib.hid g1
  have HHB : Hid (∀ i, -1000000 ≤ hs m pw i m.length ∧ hs m pw i m.length ≤ 1000000) := Lib.hid fun i => hs_bd hq1 p2 i _ h2
  have HFM := Lib.hid (fin_map m.length fun i => ph (base.getD i 0) (hs m pw i m.length))
  have HLS : Hid (phL m base pw m.length = (List.range m.length).map fun i => ph (base.getD i 0) (hs m pw i m.length)) := Lib.hid rfl
  have HQ1 := Lib.hid hq1
  have HQ3 := Lib.hid hq3
  clear hq1 hq2 hq3 h3 g2 p2 hr g1 p1
  generalize hN : m.length = N at *
  have HN := Lib.hid hN
  clear hN
  have hb0 : Hid (Below w.heap.size w ((w.alloc (.cells #[.slice a N cap] 24)).alloc (.cells #[.slice ab N capb] 28))) := Lib.hid (((Below.refl _ _).alloc (Nat.le_refl _) _).alloc (by simp) _)
  have cb0 : Hid (((w.alloc (.cells #[.slice a N cap] 24)).alloc (.cells #[.slice ab N capb] 28)).cell? ⟨w.heap.size + 1, 0, none⟩ = some (.slice ab N capb)) := Lib.hid (World.cell?_alloc_at _ _ _ _ (by simp))
  refine (callsIn_wide (n := 4)).1 ?_
  refine callsIn_of_wp_marks Try.func31 rfl trivial ?_ rfl
  simp only [Try.ntmps31, List.size_toArray, List.length_cons, List.length_nil, Nat.reduceAdd, Nat.reduceSub, Array.replicate_succ, Array.replicate_zero, List.push_toArray, List.append_toArray, List.nil_append, List.cons_append]
  gi_wp2_with (first
    | (refine ⟨trivial, ?_⟩; gi_at_call 48; refine (callsIn_wide.2 (hcall.out _ hb0.out)).mono ?_; rintro e w1 ⟨rfl, hb1⟩; have hb01 := hb0.out.trans (hb1.mono hb0.out.size); have cb1 := cell_below cb0.out hb1; have lb1 : w.heap.size + 1 < w1.heap.size := World.block_lt_of_cell? _ _ cb1)
    | (refine ⟨trivial, ?_⟩; gi_at_call 62; refine (callsIn_wide.2 (HPH.out _ (hb01.alloc hb01.size _))).mono ?_; rintro e w2 ⟨rfl, hb2⟩; have hb02 := (hb01.alloc hb01.size _).trans (hb2.mono (by have := hb01.size; simp; omega)); have cx2 : w2.cell? ⟨w1.heap.size, 0, none⟩ = some (.slice a N cap) := cell_below (World.cell?_alloc_at _ _ _ _ rfl) hb2; have cb2 := cell_below (cell_alloc cb1 _) hb2)
    | (refine ⟨trivial, ?_⟩; gi_at_call 59; refine (callsIn_wide.2 (HPO.out _ hb02)).mono ?_; rintro e w3 ⟨rfl, hb3⟩; have hb03 := hb02.trans (hb3.mono hb02.size); have cx3 := cell_below cx2 hb3; have cb3 := cell_below cb2 hb3; have lx3 : w1.heap.size < w3.heap.size := World.block_lt_of_cell? _ _ cx3; have lb3 : w.heap.size + 1 < w3.heap.size := World.block_lt_of_cell? _ _ cb3)
    | (refine ⟨trivial, ?_⟩; gi_at_call 71; refine (callsIn_wide.2 (sums_any a aw N cap N capw _)).mono ?_; rintro e w5 ⟨rfl, rfl⟩))
  have bO := Boxed.new w3 28 (.slice none 0 0)
  have bB := Boxed.new (w3.alloc (.cells #[.slice none 0 0] 28)) 71 (.slice a N cap)
  have bP := Boxed.new ((w3.alloc (.cells #[.slice none 0 0] 28)).alloc (.cells #[.slice a N cap] 71)) 28 (.slice aw N capw)
  obtain ⟨w5, hw5⟩ : ∃ w5, ((w3.alloc (.cells #[.slice none 0 0] 28)).alloc (.cells #[.slice a N cap] 71)).alloc (.cells #[.slice aw N capw] 28) = w5 := ⟨_, rfl⟩
  have hz5 : w5.heap.size = w3.heap.size + 3 := by rw [← hw5]; simp
  have hb35 : Below w3.heap.size w3 w5 := by rw [← hw5]; exact (((Below.refl _ _).alloc (Nat.le_refl _) _).alloc (by simp) _).alloc (by simp; omega) _
  replace bO := (bO.alloc (.cells #[.slice a N cap] 71)).alloc (.cells #[.slice aw N capw] 28)
  replace bB := bB.alloc (.cells #[.slice aw N capw] 28)
  simp only [World.size_alloc] at bB bP ⊢
  rw [hw5] at bO bB bP ⊢
  have hR3 := HV.out.below hb03
  have hP3 := HPV.out.below hb03 (Nat.le_refl _)
  refine wpIn_rangeFunc_ownF (F := Fence.wide) (n := 4) rfl (by omega) (gf := 86) (lb := #[.pointer (some ⟨w3.heap.size + 1, 0, none⟩), .pointer (some ⟨w3.heap.size + 1 + 1, 0, none⟩)]) rfl trivial (enters_of Try.func86 (by kernel_rfl) rfl)
    (sums_stops HN.out HQ1.out HQ3.out w3 w5 (w3.heap.size + 1) (w3.heap.size + 1 + 1) _ _ hR3 hP3 hb35 bB.cell bP.cell) KpS_t (KpS_b (by omega) (by omega)) (Below.refl _ _) (fun _ => rfl)
    (fun (pre : List (Fin N)) W => ((∃ v, Boxed W w3.heap.size 28 v ∧ W.ownsRow w3.heap.size 3 1 v pre.length (ints (pre.map fun x => ph (base.getD x.1 0) (hs m pw x.1 N))) ∧ True) ∧ Boxed W (w3.heap.size + 1 + 1) 28 (.slice aw N capw)) ∧ Below w3.heap.size w3 W)
    (fun _ _ _ => False)
    (OwnFrom.and (OwnFrom.and (Own.from (holdsRow_own w3.heap.size w3.heap.size 28 3 1 (fun pre : List (Fin N) => pre.length) (fun pre : List (Fin N) => ints (pre.map fun x : Fin N => ph (base.getD x.1 0) (hs m pw x.1 N))) (fun _ _ => True)) _) (Own.from (boxed_own _ _ _) _)) (ownFrom_below (Nat.le_refl _) (by omega)))
    (fun _ _ _ _ _ hs _ _ => hs)
    ⟨⟨⟨_, bO, World.ownsRow_nil _ _ _ _, trivial⟩, bP⟩, hb35⟩
    ?a1 ?assign ?body ?done ?stop
  case assign =>
    intro l x W K hK
    gi_wp2
    exact hK
  case body =>
    rintro l pre x W ⟨⟨⟨v, hv, hrow, _⟩, hbp⟩, hB⟩ hlt
    obtain ⟨i, hi⟩ := x
    dsimp only
    obtain ⟨y, hy, hgy, hy1, hy2⟩ := HGB.out i hi
    obtain ⟨b, off, rfl, hcell⟩ := (hab.below (hb03.trans (hB.mono hb03.size)) (Nat.le_refl _)).cell (j := i) (by rw [ints_length, hbl.out]; exact hi)
    have c1 := hcell i _ (ints_get hy)
    have cb := cell_below cb3 hB
    have hc := hv.cell
    have hhb := HHB.out i
    have hBW : Below w3.heap.size w3 W.drew := hB.trans (Below.refl _ _).drew
    have HPL := Lib.hid hlt
    have lv : w3.heap.size < W.heap.size := hv.lt
    have hi' : (i : Int) < (N : Int) := by omega
    generalize hz : hs m pw i N = z at *
    have HZ := Lib.hid hz
    have hw1 : IntKind.i64.wrap (y + z) = y + z := IntWalk.i64_in _ ⟨by omega, by omega⟩
    have HPE := Lib.hid (ph_eq y z)
    have htm := tm_bd (y + z)
    have hw2 : IntKind.i64.wrap ((y + z).tmod 1000000 + 1000000) = (y + z).tmod 1000000 + 1000000 := IntWalk.i64_in _ ⟨by omega, by omega⟩
    clear hcell hy hz
    refine wpIn_block ?_
    refine region_round (by kernel_rfl) (by kernel_rfl) (fun ⟨_, _, h⟩ => h) ?_
    change wpAny _ _ _ _ _ _ _ (World.drew _)
    refine wpAny_take (i := 2) (v := ?_) rfl (by kernel_rfl) (by kernel_rfl) (by kernel_rfl) (fun _ _ _ h => h) (Or.inl ⟨by rfl, by intro w; go_simp; try with_reducible rfl⟩) ?_
    refine wpAny_take (i := 5) (v := ?_) rfl (by kernel_rfl) (by kernel_rfl) (by kernel_rfl) (fun _ _ _ h => h) (Or.inl ⟨by rfl, by intro w; go_simp; try with_reducible rfl⟩) ?_
    refine wpAny_ready (rs := [0, 1]) (by kernel_rfl) (by simp) ?_
    refine AllReady.cons rfl (fun K hK => ?_) ?_
    · go_simp
      refine hK _ _ ?_
      clear hK K
      refine wpAny_ready (rs := [1]) (by kernel_rfl) (by simp) ?_
      refine AllReady.cons rfl (fun K hK => ?_) ?_
      · go_simp
        refine hK _ _ ?_
        clear hK K
        refine wpAny_take (i := 3) (v := ?_) rfl (by kernel_rfl) (by kernel_rfl) (by kernel_rfl) (fun _ _ _ h => h) (Or.inl ⟨by rfl, by intro w; go_simp; try with_reducible rfl⟩) ?_
        refine wpAny_ready (rs := [4]) (by kernel_rfl) (by simp) ?_
        refine AllReady.cons rfl (fun K hK => ?_) ?_
        · go_simp
          refine hK _ _ ?_
          clear hK K
          refine wpAny_take (i := 6) (v := ?_) rfl (by kernel_rfl) (by kernel_rfl) (by kernel_rfl) (fun _ _ _ h => h) (Or.inl ⟨by rfl, by intro w; go_simp; try with_reducible rfl⟩) ?_
          refine wpAny_take (i := 7) (v := ?_) rfl (by kernel_rfl) (by kernel_rfl) (by kernel_rfl) (fun _ _ _ h => h) (Or.inl ⟨by rfl, by intro w; go_simp; try with_reducible rfl⟩) ?_
          refine wpAny_take (i := 8) (v := ?_) rfl (by kernel_rfl) (by kernel_rfl) (by kernel_rfl) (fun _ _ _ h => h) (Or.inl ⟨by rfl, by intro w; go_simp; try with_reducible rfl⟩) ?_
          refine wpAny_take (i := 9) (v := ?_) rfl (by kernel_rfl) (by kernel_rfl) (by kernel_rfl) (fun _ _ _ h => h) (Or.inl ⟨by rfl, by intro w; go_simp; try with_reducible rfl⟩) ?_
          refine wpAny_ready (rs := [10]) (by kernel_rfl) (by simp) ?_
          refine AllReady.cons rfl (fun K hK => ?_) ?_
          · go_simp
            refine hK _ _ ?_
            clear hK K
            refine wpAny_ready (rs := [11]) (by kernel_rfl) (by simp) ?_
            refine AllReady.cons rfl (fun K hK => ?_) ?_
            · (refine stepK el_int1' rfl rfl (w0 := w3) rfl rfl (heap_alloc_new _ _) (by exact hBW.alloc hBW.size _) (by exact World.ownsRow.alloc (show W.drew.ownsRow _ _ _ _ _ _ from hrow) _) rfl (by simp [Value.oneCell']) (by omega) ?_; intro g' cap' w11 ho11 hg11 hat11 hlt11 hb11; obtain ⟨hv1, hv2, hr2, hk2, hb2⟩ := Boxed.appended (show Boxed W.drew w3.heap.size 28 _ from hv) (by decide) (show W.drew.ownsRow _ _ _ _ _ _ from hrow) hBW.size (Nat.le_refl _) ho11 hg11; have hc1 := hv1.cell; have hf1 := hv1.frozen; have hbq := ((show Boxed W.drew _ 28 _ from hbp).alloc (.cells #[_] 3)).kept hg11 (Boxed.not_row (show Boxed W.drew _ 28 _ from hbp) (by decide) (show W.drew.ownsRow _ _ _ _ _ _ from hrow)))
              refine hK _ _ ?_
              clear hK K
              refine wpAny_ready (rs := [12]) (by kernel_rfl) (by simp) ?_
              refine AllReady.cons rfl (fun K hK => ?_) ?_
              · go_simp
                refine hK _ _ ?_
                clear hK K
                refine wpAny_done (by kernel_rfl) ?_ _
                have hbr := hbq.other (B' := w3.heap.size) (by omega) (.slice (some ⟨g', 0, none⟩) (pre.length + 1) cap')
                have hbw2 := (Below.refl w3.heap.size W).drew.trans hb2
                refine ⟨(KeepsOthers.drew W).trans hk2, ⟨hbw2, hbr.cell.trans hbp.cell.symm⟩, ⟨⟨_, hv2, ?_, trivial⟩, hbr⟩, hB.trans hbw2⟩
                have hfin : (pre ++ [(⟨i, hi⟩ : Fin N)]).map (fun x => ph (base.getD x.1 0) (hs m pw x.1 N)) = pre.map (fun x => ph (base.getD x.1 0) (hs m pw x.1 N)) ++ [ph y z] := by rw [List.map_append, List.map_singleton, hgy, HZ.out]
                rw [hfin, ints_append, List.length_append]
                first | exact hr2 | (rw [HPE.out] at hr2; exact hr2)
              exact AllReady.nil
            exact AllReady.nil
          exact AllReady.nil
        exact AllReady.nil
      exact AllReady.nil
    refine AllReady.cons rfl (fun K hK => ?_) ?_
    · go_simp
      refine hK _ _ ?_
      clear hK K
      refine wpAny_take (i := 3) (v := ?_) rfl (by kernel_rfl) (by kernel_rfl) (by kernel_rfl) (fun _ _ _ h => h) (Or.inl ⟨by rfl, by intro w; go_simp; try with_reducible rfl⟩) ?_
      refine wpAny_ready (rs := [0, 4]) (by kernel_rfl) (by simp) ?_
      refine AllReady.cons rfl (fun K hK => ?_) ?_
      · go_simp
        refine hK _ _ ?_
        clear hK K
        refine wpAny_ready (rs := [4]) (by kernel_rfl) (by simp) ?_
        refine AllReady.cons rfl (fun K hK => ?_) ?_
        · go_simp
          refine hK _ _ ?_
          clear hK K
          refine wpAny_take (i := 6) (v := ?_) rfl (by kernel_rfl) (by kernel_rfl) (by kernel_rfl) (fun _ _ _ h => h) (Or.inl ⟨by rfl, by intro w; go_simp; try with_reducible rfl⟩) ?_
          refine wpAny_take (i := 7) (v := ?_) rfl (by kernel_rfl) (by kernel_rfl) (by kernel_rfl) (fun _ _ _ h => h) (Or.inl ⟨by rfl, by intro w; go_simp; try with_reducible rfl⟩) ?_
          refine wpAny_take (i := 8) (v := ?_) rfl (by kernel_rfl) (by kernel_rfl) (by kernel_rfl) (fun _ _ _ h => h) (Or.inl ⟨by rfl, by intro w; go_simp; try with_reducible rfl⟩) ?_
          refine wpAny_take (i := 9) (v := ?_) rfl (by kernel_rfl) (by kernel_rfl) (by kernel_rfl) (fun _ _ _ h => h) (Or.inl ⟨by rfl, by intro w; go_simp; try with_reducible rfl⟩) ?_
          refine wpAny_ready (rs := [10]) (by kernel_rfl) (by simp) ?_
          refine AllReady.cons rfl (fun K hK => ?_) ?_
          · go_simp
            refine hK _ _ ?_
            clear hK K
            refine wpAny_ready (rs := [11]) (by kernel_rfl) (by simp) ?_
            refine AllReady.cons rfl (fun K hK => ?_) ?_
            · (refine stepK el_int1' rfl rfl (w0 := w3) rfl rfl (heap_alloc_new _ _) (by exact hBW.alloc hBW.size _) (by exact World.ownsRow.alloc (show W.drew.ownsRow _ _ _ _ _ _ from hrow) _) rfl (by simp [Value.oneCell']) (by omega) ?_; intro g' cap' w11 ho11 hg11 hat11 hlt11 hb11; obtain ⟨hv1, hv2, hr2, hk2, hb2⟩ := Boxed.appended (show Boxed W.drew w3.heap.size 28 _ from hv) (by decide) (show W.drew.ownsRow _ _ _ _ _ _ from hrow) hBW.size (Nat.le_refl _) ho11 hg11; have hc1 := hv1.cell; have hf1 := hv1.frozen; have hbq := ((show Boxed W.drew _ 28 _ from hbp).alloc (.cells #[_] 3)).kept hg11 (Boxed.not_row (show Boxed W.drew _ 28 _ from hbp) (by decide) (show W.drew.ownsRow _ _ _ _ _ _ from hrow)))
              refine hK _ _ ?_
              clear hK K
              refine wpAny_ready (rs := [12]) (by kernel_rfl) (by simp) ?_
              refine AllReady.cons rfl (fun K hK => ?_) ?_
              · go_simp
                refine hK _ _ ?_
                clear hK K
                refine wpAny_done (by kernel_rfl) ?_ _
                have hbr := hbq.other (B' := w3.heap.size) (by omega) (.slice (some ⟨g', 0, none⟩) (pre.length + 1) cap')
                have hbw2 := (Below.refl w3.heap.size W).drew.trans hb2
                refine ⟨(KeepsOthers.drew W).trans hk2, ⟨hbw2, hbr.cell.trans hbp.cell.symm⟩, ⟨⟨_, hv2, ?_, trivial⟩, hbr⟩, hB.trans hbw2⟩
                have hfin : (pre ++ [(⟨i, hi⟩ : Fin N)]).map (fun x => ph (base.getD x.1 0) (hs m pw x.1 N)) = pre.map (fun x => ph (base.getD x.1 0) (hs m pw x.1 N)) ++ [ph y z] := by rw [List.map_append, List.map_singleton, hgy, HZ.out]
                rw [hfin, ints_append, List.length_append]
                first | exact hr2 | (rw [HPE.out] at hr2; exact hr2)
              exact AllReady.nil
            exact AllReady.nil
          exact AllReady.nil
        exact AllReady.nil
      refine AllReady.cons rfl (fun K hK => ?_) ?_
      · go_simp
        refine hK _ _ ?_
        clear hK K
        refine wpAny_take (i := 6) (v := ?_) rfl (by kernel_rfl) (by kernel_rfl) (by kernel_rfl) (fun _ _ _ h => h) (Or.inl ⟨by rfl, by intro w; go_simp; try with_reducible rfl⟩) ?_
        refine wpAny_take (i := 7) (v := ?_) rfl (by kernel_rfl) (by kernel_rfl) (by kernel_rfl) (fun _ _ _ h => h) (Or.inl ⟨by rfl, by intro w; go_simp; try with_reducible rfl⟩) ?_
        refine wpAny_take (i := 8) (v := ?_) rfl (by kernel_rfl) (by kernel_rfl) (by kernel_rfl) (fun _ _ _ h => h) (Or.inl ⟨by rfl, by intro w; go_simp; try with_reducible rfl⟩) ?_
        refine wpAny_take (i := 9) (v := ?_) rfl (by kernel_rfl) (by kernel_rfl) (by kernel_rfl) (fun _ _ _ h => h) (Or.inl ⟨by rfl, by intro w; go_simp; try with_reducible rfl⟩) ?_
        refine wpAny_ready (rs := [0, 10]) (by kernel_rfl) (by simp) ?_
        refine AllReady.cons rfl (fun K hK => ?_) ?_
        · go_simp
          refine hK _ _ ?_
          clear hK K
          refine wpAny_ready (rs := [10]) (by kernel_rfl) (by simp) ?_
          refine AllReady.cons rfl (fun K hK => ?_) ?_
          · go_simp
            refine hK _ _ ?_
            clear hK K
            refine wpAny_ready (rs := [11]) (by kernel_rfl) (by simp) ?_
            refine AllReady.cons rfl (fun K hK => ?_) ?_
            · (refine stepK el_int1' rfl rfl (w0 := w3) rfl rfl (heap_alloc_new _ _) (by exact hBW.alloc hBW.size _) (by exact World.ownsRow.alloc (show W.drew.ownsRow _ _ _ _ _ _ from hrow) _) rfl (by simp [Value.oneCell']) (by omega) ?_; intro g' cap' w11 ho11 hg11 hat11 hlt11 hb11; obtain ⟨hv1, hv2, hr2, hk2, hb2⟩ := Boxed.appended (show Boxed W.drew w3.heap.size 28 _ from hv) (by decide) (show W.drew.ownsRow _ _ _ _ _ _ from hrow) hBW.size (Nat.le_refl _) ho11 hg11; have hc1 := hv1.cell; have hf1 := hv1.frozen; have hbq := ((show Boxed W.drew _ 28 _ from hbp).alloc (.cells #[_] 3)).kept hg11 (Boxed.not_row (show Boxed W.drew _ 28 _ from hbp) (by decide) (show W.drew.ownsRow _ _ _ _ _ _ from hrow)))
              refine hK _ _ ?_
              clear hK K
              refine wpAny_ready (rs := [12]) (by kernel_rfl) (by simp) ?_
              refine AllReady.cons rfl (fun K hK => ?_) ?_
              · go_simp
                refine hK _ _ ?_
                clear hK K
                refine wpAny_done (by kernel_rfl) ?_ _
                have hbr := hbq.other (B' := w3.heap.size) (by omega) (.slice (some ⟨g', 0, none⟩) (pre.length + 1) cap')
                have hbw2 := (Below.refl w3.heap.size W).drew.trans hb2
                refine ⟨(KeepsOthers.drew W).trans hk2, ⟨hbw2, hbr.cell.trans hbp.cell.symm⟩, ⟨⟨_, hv2, ?_, trivial⟩, hbr⟩, hB.trans hbw2⟩
                have hfin : (pre ++ [(⟨i, hi⟩ : Fin N)]).map (fun x => ph (base.getD x.1 0) (hs m pw x.1 N)) = pre.map (fun x => ph (base.getD x.1 0) (hs m pw x.1 N)) ++ [ph y z] := by rw [List.map_append, List.map_singleton, hgy, HZ.out]
                rw [hfin, ints_append, List.length_append]
                first | exact hr2 | (rw [HPE.out] at hr2; exact hr2)
              exact AllReady.nil
            exact AllReady.nil
          exact AllReady.nil
        refine AllReady.cons rfl (fun K hK => ?_) ?_
        · go_simp
          refine hK _ _ ?_
          clear hK K
          refine wpAny_ready (rs := [0]) (by kernel_rfl) (by simp) ?_
          refine AllReady.cons rfl (fun K hK => ?_) ?_
          · go_simp
            refine hK _ _ ?_
            clear hK K
            refine wpAny_ready (rs := [11]) (by kernel_rfl) (by simp) ?_
            refine AllReady.cons rfl (fun K hK => ?_) ?_
            · (refine stepK el_int1' rfl rfl (w0 := w3) rfl rfl (heap_alloc_new _ _) (by exact hBW.alloc hBW.size _) (by exact World.ownsRow.alloc (show W.drew.ownsRow _ _ _ _ _ _ from hrow) _) rfl (by simp [Value.oneCell']) (by omega) ?_; intro g' cap' w11 ho11 hg11 hat11 hlt11 hb11; obtain ⟨hv1, hv2, hr2, hk2, hb2⟩ := Boxed.appended (show Boxed W.drew w3.heap.size 28 _ from hv) (by decide) (show W.drew.ownsRow _ _ _ _ _ _ from hrow) hBW.size (Nat.le_refl _) ho11 hg11; have hc1 := hv1.cell; have hf1 := hv1.frozen; have hbq := ((show Boxed W.drew _ 28 _ from hbp).alloc (.cells #[_] 3)).kept hg11 (Boxed.not_row (show Boxed W.drew _ 28 _ from hbp) (by decide) (show W.drew.ownsRow _ _ _ _ _ _ from hrow)))
              refine hK _ _ ?_
              clear hK K
              refine wpAny_ready (rs := [12]) (by kernel_rfl) (by simp) ?_
              refine AllReady.cons rfl (fun K hK => ?_) ?_
              · go_simp
                refine hK _ _ ?_
                clear hK K
                refine wpAny_done (by kernel_rfl) ?_ _
                have hbr := hbq.other (B' := w3.heap.size) (by omega) (.slice (some ⟨g', 0, none⟩) (pre.length + 1) cap')
                have hbw2 := (Below.refl w3.heap.size W).drew.trans hb2
                refine ⟨(KeepsOthers.drew W).trans hk2, ⟨hbw2, hbr.cell.trans hbp.cell.symm⟩, ⟨⟨_, hv2, ?_, trivial⟩, hbr⟩, hB.trans hbw2⟩
                have hfin : (pre ++ [(⟨i, hi⟩ : Fin N)]).map (fun x => ph (base.getD x.1 0) (hs m pw x.1 N)) = pre.map (fun x => ph (base.getD x.1 0) (hs m pw x.1 N)) ++ [ph y z] := by rw [List.map_append, List.map_singleton, hgy, HZ.out]
                rw [hfin, ints_append, List.length_append]
                first | exact hr2 | (rw [HPE.out] at hr2; exact hr2)
              exact AllReady.nil
            exact AllReady.nil
          exact AllReady.nil
        exact AllReady.nil
      exact AllReady.nil
    exact AllReady.nil
  case done =>
    rintro D ys W hD rfl ⟨⟨⟨v, hv, hrow, _⟩, hbp⟩, hB⟩ hK
    have hc := hv.cell
    gi_wp2
    refine ⟨by simp, .inl ⟨_, _, rfl, run_takeDeferred hK, ?_⟩⟩
    refine ⟨.tuple #[v, .int .i64 0], by simp [results, Try.results31, go_sem], v, rfl, ?_, ?_⟩
    · have := ownsRow_putObj hrow (.deferred none) hK rfl
      rw [HFM.out, List.length_finRange] at this
      rw [HLS.out]
      exact own_le this hb03.size
    · exact (hb03.trans (hB.mono hb03.size)).trans (belowK_b (w := w5) (by have := hb03.size; omega) W D _ _ hD hK rfl rfl)
  case stop =>
    rintro D c pre W _ _ h _
    exact h.elim

set_option maxRecDepth 100000 in
set_option maxHeartbeats 4000000 in
theorem Off_ok (v bv pv : Value) (m : List (List Int)) (base pw : List Int) (w : World) (hv : RdM w v m) (hbv : Rd w bv (ints base)) (hpv : Rd w pv (ints pw))
    (hq1 : vB m = true) (hq2 : lstB base m.length (-1000000) 1000000 = true) (hq3 : lstB pw m.length 0 1000 = true) :
    Calls Try.prog 33 #[.agg #[v], bv, pv] w fun e w' => ∃ u, e = .returned (.tuple #[u, .int .i64 0]) ∧ w'.ownsRow w.heap.size 3 1 u m.length (ints (ofL m base pw m.length)) ∧ Below w.heap.size w w' := by
  have HV := Lib.hid hv
  have HBV := Lib.hid hbv
  have HPV := Lib.hid hpv
  obtain ⟨h1, h2, h3⟩ := vB_bd hq1
  obtain ⟨g1, g2⟩ := lstB_bd hq2
  obtain ⟨p1, p2⟩ := lstB_bd hq3
  obtain ⟨vs, ⟨a, cap, rfl, hc, hcm, ha, _⟩, hr⟩ := hv
  obtain ⟨ab, capb, rfl, hcb, hcmb, hab, _⟩ := hbv
  obtain ⟨aw, capw, rfl, hcw, hcmw, haw, _⟩ := hpv
  rw [hr.1] at hc HV ⊢
  rw [ints_length, g1] at hcb HBV ⊢
  rw [ints_length, p1] at hcw HPV ⊢
  have hcall := Lib.hid (fun W hb => opened_any _ m W (HV.out.below (w' := W) hb) (by omega) (fun r hr => by rw [(h3 r hr).1]; omega))
  rw [hq1] at hcall
  simp only [if_true] at hcall
  have HPH := Lib.hid (fun W hb => phases_any a m.length cap _ base W (HBV.out.below (w' := W) (B := w.heap.size) hb (Nat.le_refl _)) (by omega))
  rw [hq2] at HPH
  have HPO := Lib.hid (fun W hb => powers_any a m.length cap _ pw W (HPV.out.below (w' := W) (B := w.heap.size) hb (Nat.le_refl _)) (by omega))
  rw [hq3] at HPO
  have HGB : Hid (∀ j, j < m.length → ∃ x, base[j]? = some x ∧ base.getD j 0 = x ∧ -1000000 ≤ x ∧ x ≤ 1000000) := Lib.hid fun j hj =>
    have hj2 : j < base.length := by omega
    ⟨_, List.getElem?_eq_getElem hj2, by rw [List.getD_eq_getElem?_getD, List.getElem?_eq_getElem hj2]; rfl, g2 _ (List.getElem_mem hj2)⟩
  have hbl := Lib.hid g1
  have HHB : Hid (∀ i, -1000000 ≤ hs m pw i m.length ∧ hs m pw i m.length ≤ 1000000) := Lib.hid fun i => hs_bd hq1 p2 i _ h2
  have HFM := Lib.hid (fin_map m.length fun i => (fun b n => n - b) (base.getD i 0) (hs m pw i m.length))
  have HLS : Hid (ofL m base pw m.length = (List.range m.length).map fun i => (fun b n => n - b) (base.getD i 0) (hs m pw i m.length)) := Lib.hid rfl
  have HQ1 := Lib.hid hq1
  have HQ3 := Lib.hid hq3
  clear hq1 hq2 hq3 h3 g2 p2 hr g1 p1
  generalize hN : m.length = N at *
  have HN := Lib.hid hN
  clear hN
  have hb0 : Hid (Below w.heap.size w ((w.alloc (.cells #[.slice a N cap] 24)).alloc (.cells #[.slice ab N capb] 28))) := Lib.hid (((Below.refl _ _).alloc (Nat.le_refl _) _).alloc (by simp) _)
  have cb0 : Hid (((w.alloc (.cells #[.slice a N cap] 24)).alloc (.cells #[.slice ab N capb] 28)).cell? ⟨w.heap.size + 1, 0, none⟩ = some (.slice ab N capb)) := Lib.hid (World.cell?_alloc_at _ _ _ _ (by simp))
  refine (callsIn_wide (n := 4)).1 ?_
  refine callsIn_of_wp_marks Try.func33 rfl trivial ?_ rfl
  simp only [Try.ntmps33, List.size_toArray, List.length_cons, List.length_nil, Nat.reduceAdd, Nat.reduceSub, Array.replicate_succ, Array.replicate_zero, List.push_toArray, List.append_toArray, List.nil_append, List.cons_append]
  gi_wp2_with (first
    | (refine ⟨trivial, ?_⟩; gi_at_call 48; refine (callsIn_wide.2 (hcall.out _ hb0.out)).mono ?_; rintro e w1 ⟨rfl, hb1⟩; have hb01 := hb0.out.trans (hb1.mono hb0.out.size); have cb1 := cell_below cb0.out hb1; have lb1 : w.heap.size + 1 < w1.heap.size := World.block_lt_of_cell? _ _ cb1)
    | (refine ⟨trivial, ?_⟩; gi_at_call 62; refine (callsIn_wide.2 (HPH.out _ (hb01.alloc hb01.size _))).mono ?_; rintro e w2 ⟨rfl, hb2⟩; have hb02 := (hb01.alloc hb01.size _).trans (hb2.mono (by have := hb01.size; simp; omega)); have cx2 : w2.cell? ⟨w1.heap.size, 0, none⟩ = some (.slice a N cap) := cell_below (World.cell?_alloc_at _ _ _ _ rfl) hb2; have cb2 := cell_below (cell_alloc cb1 _) hb2)
    | (refine ⟨trivial, ?_⟩; gi_at_call 59; refine (callsIn_wide.2 (HPO.out _ hb02)).mono ?_; rintro e w3 ⟨rfl, hb3⟩; have hb03 := hb02.trans (hb3.mono hb02.size); have cx3 := cell_below cx2 hb3; have cb3 := cell_below cb2 hb3; have lx3 : w1.heap.size < w3.heap.size := World.block_lt_of_cell? _ _ cx3; have lb3 : w.heap.size + 1 < w3.heap.size := World.block_lt_of_cell? _ _ cb3)
    | (refine ⟨trivial, ?_⟩; gi_at_call 71; refine (callsIn_wide.2 (sums_any a aw N cap N capw _)).mono ?_; rintro e w5 ⟨rfl, rfl⟩))
  have bO := Boxed.new w3 28 (.slice none 0 0)
  have bB := Boxed.new (w3.alloc (.cells #[.slice none 0 0] 28)) 71 (.slice a N cap)
  have bP := Boxed.new ((w3.alloc (.cells #[.slice none 0 0] 28)).alloc (.cells #[.slice a N cap] 71)) 28 (.slice aw N capw)
  obtain ⟨w5, hw5⟩ : ∃ w5, ((w3.alloc (.cells #[.slice none 0 0] 28)).alloc (.cells #[.slice a N cap] 71)).alloc (.cells #[.slice aw N capw] 28) = w5 := ⟨_, rfl⟩
  have hz5 : w5.heap.size = w3.heap.size + 3 := by rw [← hw5]; simp
  have hb35 : Below w3.heap.size w3 w5 := by rw [← hw5]; exact (((Below.refl _ _).alloc (Nat.le_refl _) _).alloc (by simp) _).alloc (by simp; omega) _
  replace bO := (bO.alloc (.cells #[.slice a N cap] 71)).alloc (.cells #[.slice aw N capw] 28)
  replace bB := bB.alloc (.cells #[.slice aw N capw] 28)
  simp only [World.size_alloc] at bB bP ⊢
  rw [hw5] at bO bB bP ⊢
  have hR3 := HV.out.below hb03
  have hP3 := HPV.out.below hb03 (Nat.le_refl _)
  refine wpIn_rangeFunc_ownF (F := Fence.wide) (n := 4) rfl (by omega) (gf := 86) (lb := #[.pointer (some ⟨w3.heap.size + 1, 0, none⟩), .pointer (some ⟨w3.heap.size + 1 + 1, 0, none⟩)]) rfl trivial (enters_of Try.func86 (by kernel_rfl) rfl)
    (sums_stops HN.out HQ1.out HQ3.out w3 w5 (w3.heap.size + 1) (w3.heap.size + 1 + 1) _ _ hR3 hP3 hb35 bB.cell bP.cell) KpS_t (KpS_b (by omega) (by omega)) (Below.refl _ _) (fun _ => rfl)
    (fun (pre : List (Fin N)) W => ((∃ v, Boxed W w3.heap.size 28 v ∧ W.ownsRow w3.heap.size 3 1 v pre.length (ints (pre.map fun x => (fun b n => n - b) (base.getD x.1 0) (hs m pw x.1 N))) ∧ True) ∧ Boxed W (w3.heap.size + 1 + 1) 28 (.slice aw N capw)) ∧ Below w3.heap.size w3 W)
    (fun _ _ _ => False)
    (OwnFrom.and (OwnFrom.and (Own.from (holdsRow_own w3.heap.size w3.heap.size 28 3 1 (fun pre : List (Fin N) => pre.length) (fun pre : List (Fin N) => ints (pre.map fun x : Fin N => (fun b n => n - b) (base.getD x.1 0) (hs m pw x.1 N))) (fun _ _ => True)) _) (Own.from (boxed_own _ _ _) _)) (ownFrom_below (Nat.le_refl _) (by omega)))
    (fun _ _ _ _ _ hs _ _ => hs)
    ⟨⟨⟨_, bO, World.ownsRow_nil _ _ _ _, trivial⟩, bP⟩, hb35⟩
    ?a1 ?assign ?body ?done ?stop
  case assign =>
    intro l x W K hK
    gi_wp2
    exact hK
  case body =>
    rintro l pre x W ⟨⟨⟨v, hv, hrow, _⟩, hbp⟩, hB⟩ hlt
    obtain ⟨i, hi⟩ := x
    dsimp only
    obtain ⟨y, hy, hgy, hy1, hy2⟩ := HGB.out i hi
    obtain ⟨b, off, rfl, hcell⟩ := (hab.below (hb03.trans (hB.mono hb03.size)) (Nat.le_refl _)).cell (j := i) (by rw [ints_length, hbl.out]; exact hi)
    have c1 := hcell i _ (ints_get hy)
    have cb := cell_below cb3 hB
    have hc := hv.cell
    have hhb := HHB.out i
    have hBW : Below w3.heap.size w3 W.drew := hB.trans (Below.refl _ _).drew
    have HPL := Lib.hid hlt
    have lv : w3.heap.size < W.heap.size := hv.lt
    have hi' : (i : Int) < (N : Int) := by omega
    generalize hz : hs m pw i N = z at *
    have HZ := Lib.hid hz
    have hw1 : IntKind.i64.wrap (z - y) = z - y := IntWalk.i64_in _ ⟨by omega, by omega⟩
    clear hcell hy hz
    refine wpIn_block ?_
    refine region_round (by kernel_rfl) (by kernel_rfl) (fun ⟨_, _, h⟩ => h) ?_
    change wpAny _ _ _ _ _ _ _ (World.drew _)
    refine wpAny_take (i := 1) (v := ?_) rfl (by kernel_rfl) (by kernel_rfl) (by kernel_rfl) (fun _ _ _ h => h) (Or.inl ⟨by rfl, by intro w; go_simp; try with_reducible rfl⟩) ?_
    refine wpAny_take (i := 3) (v := ?_) rfl (by kernel_rfl) (by kernel_rfl) (by kernel_rfl) (fun _ _ _ h => h) (Or.inl ⟨by rfl, by intro w; go_simp; try with_reducible rfl⟩) ?_
    refine wpAny_ready (rs := [0, 2]) (by kernel_rfl) (by simp) ?_
    refine AllReady.cons rfl (fun K hK => ?_) ?_
    · go_simp
      refine hK _ _ ?_
      clear hK K
      refine wpAny_ready (rs := [2]) (by kernel_rfl) (by simp) ?_
      refine AllReady.cons rfl (fun K hK => ?_) ?_
      · go_simp
        refine hK _ _ ?_
        clear hK K
        refine wpAny_take (i := 4) (v := ?_) rfl (by kernel_rfl) (by kernel_rfl) (by kernel_rfl) (fun _ _ _ h => h) (Or.inl ⟨by rfl, by intro w; go_simp; try with_reducible rfl⟩) ?_
        refine wpAny_ready (rs := [5]) (by kernel_rfl) (by simp) ?_
        refine AllReady.cons rfl (fun K hK => ?_) ?_
        · go_simp
          refine hK _ _ ?_
          clear hK K
          refine wpAny_take (i := 6) (v := ?_) rfl (by kernel_rfl) (by kernel_rfl) (by kernel_rfl) (fun _ _ _ h => h) (Or.inl ⟨by rfl, by intro w; go_simp; try with_reducible rfl⟩) ?_
          refine wpAny_ready (rs := [7]) (by kernel_rfl) (by simp) ?_
          refine AllReady.cons rfl (fun K hK => ?_) ?_
          · go_simp
            refine hK _ _ ?_
            clear hK K
            refine wpAny_ready (rs := [8]) (by kernel_rfl) (by simp) ?_
            refine AllReady.cons rfl (fun K hK => ?_) ?_
            · (refine stepK el_int1' rfl rfl (w0 := w3) rfl rfl (heap_alloc_new _ _) (by exact hBW.alloc hBW.size _) (by exact World.ownsRow.alloc (show W.drew.ownsRow _ _ _ _ _ _ from hrow) _) rfl (by simp [Value.oneCell']) (by omega) ?_; intro g' cap' w11 ho11 hg11 hat11 hlt11 hb11; obtain ⟨hv1, hv2, hr2, hk2, hb2⟩ := Boxed.appended (show Boxed W.drew w3.heap.size 28 _ from hv) (by decide) (show W.drew.ownsRow _ _ _ _ _ _ from hrow) hBW.size (Nat.le_refl _) ho11 hg11; have hc1 := hv1.cell; have hf1 := hv1.frozen; have hbq := ((show Boxed W.drew _ 28 _ from hbp).alloc (.cells #[_] 3)).kept hg11 (Boxed.not_row (show Boxed W.drew _ 28 _ from hbp) (by decide) (show W.drew.ownsRow _ _ _ _ _ _ from hrow)))
              refine hK _ _ ?_
              clear hK K
              refine wpAny_ready (rs := [9]) (by kernel_rfl) (by simp) ?_
              refine AllReady.cons rfl (fun K hK => ?_) ?_
              · go_simp
                refine hK _ _ ?_
                clear hK K
                refine wpAny_done (by kernel_rfl) ?_ _
                have hbr := hbq.other (B' := w3.heap.size) (by omega) (.slice (some ⟨g', 0, none⟩) (pre.length + 1) cap')
                have hbw2 := (Below.refl w3.heap.size W).drew.trans hb2
                refine ⟨(KeepsOthers.drew W).trans hk2, ⟨hbw2, hbr.cell.trans hbp.cell.symm⟩, ⟨⟨_, hv2, ?_, trivial⟩, hbr⟩, hB.trans hbw2⟩
                have hfin : (pre ++ [(⟨i, hi⟩ : Fin N)]).map (fun x => (fun b n => n - b) (base.getD x.1 0) (hs m pw x.1 N)) = pre.map (fun x => (fun b n => n - b) (base.getD x.1 0) (hs m pw x.1 N)) ++ [z - y] := by rw [List.map_append, List.map_singleton, hgy, HZ.out]
                rw [hfin, ints_append, List.length_append]
                first | exact hr2 | (rw [HPE.out] at hr2; exact hr2)
              exact AllReady.nil
            exact AllReady.nil
          exact AllReady.nil
        exact AllReady.nil
      exact AllReady.nil
    refine AllReady.cons rfl (fun K hK => ?_) ?_
    · go_simp
      refine hK _ _ ?_
      clear hK K
      refine wpAny_take (i := 4) (v := ?_) rfl (by kernel_rfl) (by kernel_rfl) (by kernel_rfl) (fun _ _ _ h => h) (Or.inl ⟨by rfl, by intro w; go_simp; try with_reducible rfl⟩) ?_
      refine wpAny_ready (rs := [0, 5]) (by kernel_rfl) (by simp) ?_
      refine AllReady.cons rfl (fun K hK => ?_) ?_
      · go_simp
        refine hK _ _ ?_
        clear hK K
        refine wpAny_ready (rs := [5]) (by kernel_rfl) (by simp) ?_
        refine AllReady.cons rfl (fun K hK => ?_) ?_
        · go_simp
          refine hK _ _ ?_
          clear hK K
          refine wpAny_take (i := 6) (v := ?_) rfl (by kernel_rfl) (by kernel_rfl) (by kernel_rfl) (fun _ _ _ h => h) (Or.inl ⟨by rfl, by intro w; go_simp; try with_reducible rfl⟩) ?_
          refine wpAny_ready (rs := [7]) (by kernel_rfl) (by simp) ?_
          refine AllReady.cons rfl (fun K hK => ?_) ?_
          · go_simp
            refine hK _ _ ?_
            clear hK K
            refine wpAny_ready (rs := [8]) (by kernel_rfl) (by simp) ?_
            refine AllReady.cons rfl (fun K hK => ?_) ?_
            · (refine stepK el_int1' rfl rfl (w0 := w3) rfl rfl (heap_alloc_new _ _) (by exact hBW.alloc hBW.size _) (by exact World.ownsRow.alloc (show W.drew.ownsRow _ _ _ _ _ _ from hrow) _) rfl (by simp [Value.oneCell']) (by omega) ?_; intro g' cap' w11 ho11 hg11 hat11 hlt11 hb11; obtain ⟨hv1, hv2, hr2, hk2, hb2⟩ := Boxed.appended (show Boxed W.drew w3.heap.size 28 _ from hv) (by decide) (show W.drew.ownsRow _ _ _ _ _ _ from hrow) hBW.size (Nat.le_refl _) ho11 hg11; have hc1 := hv1.cell; have hf1 := hv1.frozen; have hbq := ((show Boxed W.drew _ 28 _ from hbp).alloc (.cells #[_] 3)).kept hg11 (Boxed.not_row (show Boxed W.drew _ 28 _ from hbp) (by decide) (show W.drew.ownsRow _ _ _ _ _ _ from hrow)))
              refine hK _ _ ?_
              clear hK K
              refine wpAny_ready (rs := [9]) (by kernel_rfl) (by simp) ?_
              refine AllReady.cons rfl (fun K hK => ?_) ?_
              · go_simp
                refine hK _ _ ?_
                clear hK K
                refine wpAny_done (by kernel_rfl) ?_ _
                have hbr := hbq.other (B' := w3.heap.size) (by omega) (.slice (some ⟨g', 0, none⟩) (pre.length + 1) cap')
                have hbw2 := (Below.refl w3.heap.size W).drew.trans hb2
                refine ⟨(KeepsOthers.drew W).trans hk2, ⟨hbw2, hbr.cell.trans hbp.cell.symm⟩, ⟨⟨_, hv2, ?_, trivial⟩, hbr⟩, hB.trans hbw2⟩
                have hfin : (pre ++ [(⟨i, hi⟩ : Fin N)]).map (fun x => (fun b n => n - b) (base.getD x.1 0) (hs m pw x.1 N)) = pre.map (fun x => (fun b n => n - b) (base.getD x.1 0) (hs m pw x.1 N)) ++ [z - y] := by rw [List.map_append, List.map_singleton, hgy, HZ.out]
                rw [hfin, ints_append, List.length_append]
                first | exact hr2 | (rw [HPE.out] at hr2; exact hr2)
              exact AllReady.nil
            exact AllReady.nil
          exact AllReady.nil
        exact AllReady.nil
      refine AllReady.cons rfl (fun K hK => ?_) ?_
      · go_simp
        refine hK _ _ ?_
        clear hK K
        refine wpAny_take (i := 6) (v := ?_) rfl (by kernel_rfl) (by kernel_rfl) (by kernel_rfl) (fun _ _ _ h => h) (Or.inl ⟨by rfl, by intro w; go_simp; try with_reducible rfl⟩) ?_
        refine wpAny_ready (rs := [0, 7]) (by kernel_rfl) (by simp) ?_
        refine AllReady.cons rfl (fun K hK => ?_) ?_
        · go_simp
          refine hK _ _ ?_
          clear hK K
          refine wpAny_ready (rs := [7]) (by kernel_rfl) (by simp) ?_
          refine AllReady.cons rfl (fun K hK => ?_) ?_
          · go_simp
            refine hK _ _ ?_
            clear hK K
            refine wpAny_ready (rs := [8]) (by kernel_rfl) (by simp) ?_
            refine AllReady.cons rfl (fun K hK => ?_) ?_
            · (refine stepK el_int1' rfl rfl (w0 := w3) rfl rfl (heap_alloc_new _ _) (by exact hBW.alloc hBW.size _) (by exact World.ownsRow.alloc (show W.drew.ownsRow _ _ _ _ _ _ from hrow) _) rfl (by simp [Value.oneCell']) (by omega) ?_; intro g' cap' w11 ho11 hg11 hat11 hlt11 hb11; obtain ⟨hv1, hv2, hr2, hk2, hb2⟩ := Boxed.appended (show Boxed W.drew w3.heap.size 28 _ from hv) (by decide) (show W.drew.ownsRow _ _ _ _ _ _ from hrow) hBW.size (Nat.le_refl _) ho11 hg11; have hc1 := hv1.cell; have hf1 := hv1.frozen; have hbq := ((show Boxed W.drew _ 28 _ from hbp).alloc (.cells #[_] 3)).kept hg11 (Boxed.not_row (show Boxed W.drew _ 28 _ from hbp) (by decide) (show W.drew.ownsRow _ _ _ _ _ _ from hrow)))
              refine hK _ _ ?_
              clear hK K
              refine wpAny_ready (rs := [9]) (by kernel_rfl) (by simp) ?_
              refine AllReady.cons rfl (fun K hK => ?_) ?_
              · go_simp
                refine hK _ _ ?_
                clear hK K
                refine wpAny_done (by kernel_rfl) ?_ _
                have hbr := hbq.other (B' := w3.heap.size) (by omega) (.slice (some ⟨g', 0, none⟩) (pre.length + 1) cap')
                have hbw2 := (Below.refl w3.heap.size W).drew.trans hb2
                refine ⟨(KeepsOthers.drew W).trans hk2, ⟨hbw2, hbr.cell.trans hbp.cell.symm⟩, ⟨⟨_, hv2, ?_, trivial⟩, hbr⟩, hB.trans hbw2⟩
                have hfin : (pre ++ [(⟨i, hi⟩ : Fin N)]).map (fun x => (fun b n => n - b) (base.getD x.1 0) (hs m pw x.1 N)) = pre.map (fun x => (fun b n => n - b) (base.getD x.1 0) (hs m pw x.1 N)) ++ [z - y] := by rw [List.map_append, List.map_singleton, hgy, HZ.out]
                rw [hfin, ints_append, List.length_append]
                first | exact hr2 | (rw [HPE.out] at hr2; exact hr2)
              exact AllReady.nil
            exact AllReady.nil
          exact AllReady.nil
        refine AllReady.cons rfl (fun K hK => ?_) ?_
        · go_simp
          refine hK _ _ ?_
          clear hK K
          refine wpAny_ready (rs := [0]) (by kernel_rfl) (by simp) ?_
          refine AllReady.cons rfl (fun K hK => ?_) ?_
          · go_simp
            refine hK _ _ ?_
            clear hK K
            refine wpAny_ready (rs := [8]) (by kernel_rfl) (by simp) ?_
            refine AllReady.cons rfl (fun K hK => ?_) ?_
            · (refine stepK el_int1' rfl rfl (w0 := w3) rfl rfl (heap_alloc_new _ _) (by exact hBW.alloc hBW.size _) (by exact World.ownsRow.alloc (show W.drew.ownsRow _ _ _ _ _ _ from hrow) _) rfl (by simp [Value.oneCell']) (by omega) ?_; intro g' cap' w11 ho11 hg11 hat11 hlt11 hb11; obtain ⟨hv1, hv2, hr2, hk2, hb2⟩ := Boxed.appended (show Boxed W.drew w3.heap.size 28 _ from hv) (by decide) (show W.drew.ownsRow _ _ _ _ _ _ from hrow) hBW.size (Nat.le_refl _) ho11 hg11; have hc1 := hv1.cell; have hf1 := hv1.frozen; have hbq := ((show Boxed W.drew _ 28 _ from hbp).alloc (.cells #[_] 3)).kept hg11 (Boxed.not_row (show Boxed W.drew _ 28 _ from hbp) (by decide) (show W.drew.ownsRow _ _ _ _ _ _ from hrow)))
              refine hK _ _ ?_
              clear hK K
              refine wpAny_ready (rs := [9]) (by kernel_rfl) (by simp) ?_
              refine AllReady.cons rfl (fun K hK => ?_) ?_
              · go_simp
                refine hK _ _ ?_
                clear hK K
                refine wpAny_done (by kernel_rfl) ?_ _
                have hbr := hbq.other (B' := w3.heap.size) (by omega) (.slice (some ⟨g', 0, none⟩) (pre.length + 1) cap')
                have hbw2 := (Below.refl w3.heap.size W).drew.trans hb2
                refine ⟨(KeepsOthers.drew W).trans hk2, ⟨hbw2, hbr.cell.trans hbp.cell.symm⟩, ⟨⟨_, hv2, ?_, trivial⟩, hbr⟩, hB.trans hbw2⟩
                have hfin : (pre ++ [(⟨i, hi⟩ : Fin N)]).map (fun x => (fun b n => n - b) (base.getD x.1 0) (hs m pw x.1 N)) = pre.map (fun x => (fun b n => n - b) (base.getD x.1 0) (hs m pw x.1 N)) ++ [z - y] := by rw [List.map_append, List.map_singleton, hgy, HZ.out]
                rw [hfin, ints_append, List.length_append]
                first | exact hr2 | (rw [HPE.out] at hr2; exact hr2)
              exact AllReady.nil
            exact AllReady.nil
          exact AllReady.nil
        exact AllReady.nil
      exact AllReady.nil
    exact AllReady.nil
  case done =>
    rintro D ys W hD rfl ⟨⟨⟨v, hv, hrow, _⟩, hbp⟩, hB⟩ hK
    have hc := hv.cell
    gi_wp2
    refine ⟨by simp, .inl ⟨_, _, rfl, run_takeDeferred hK, ?_⟩⟩
    refine ⟨.tuple #[v, .int .i64 0], by simp [results, Try.results33, go_sem], v, rfl, ?_, ?_⟩
    · have := ownsRow_putObj hrow (.deferred none) hK rfl
      rw [HFM.out, List.length_finRange] at this
      rw [HLS.out]
      exact own_le this hb03.size
    · exact (hb03.trans (hB.mono hb03.size)).trans (belowK_b (w := w5) (by have := hb03.size; omega) W D _ _ hD hK rfl rfl)
  case stop =>
    rintro D c pre W _ _ h _
    exact h.elim

end Go.Proofs.Ytnaoanmkepcinaa

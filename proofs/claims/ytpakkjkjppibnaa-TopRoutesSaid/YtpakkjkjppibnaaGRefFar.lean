/- Layout: lists of cells compared, and Far, as the document computes it. -/
import Derived.Test.YtpakkjkjppibnaaGTab
namespace Go.Proofs.Ytpakkjkjppibnaa
open Go.RowKit

set_option maxRecDepth 100000 in
set_option maxHeartbeats 1000000 in
theorem same_any (l m : List (Int × Int)) (v u : Value) (W : World) (hv : RdP W v l) (hu : RdP W u m) (hl : l.length ≤ 4000000) :
    Calls Try.prog 19 #[v, u] W fun e w' => e = .returned (.bool (decide (l = m))) ∧ Below W.heap.size W w' := by
  have hEQ := fun a b c d W => eqXY a b c d W
  obtain ⟨a, cap, rfl, hc, hcm, ha, _⟩ := hv
  obtain ⟨b, cap2, rfl, hc2, hcm2, hb, _⟩ := hu
  by_cases hne : l.length = m.length
  · have HL := Lib.hid hne
    have HEQ : Hid ((∀ k, k < l.length → l[k]? = m[k]?) → decide (l = m) = true) := Lib.hid (fun hh => decide_eq_true (List.ext_getElem hne fun k h1 h2 => by
      have := hh k h1
      rw [List.getElem?_eq_getElem h1, List.getElem?_eq_getElem h2] at this
      exact Option.some.inj this))
    have HNE : Hid (∀ k : Nat, l[k]? ≠ m[k]? → decide (l = m) = false) := Lib.hid (fun k hk => decide_eq_false (fun e => hk (by rw [e])))
    generalize decide (l = m) = res at *
    rw [← hne]
    obtain ⟨N, hN⟩ : ∃ N, l.length = N := ⟨_, rfl⟩
    rw [hN] at HL HEQ hl ⊢
    have HN := Lib.hid hN
    clear hne hN
    go_enter Try.func19, Try.ntmps19
    go_wp2_with fail
    go_loopw [13] (fun i wr => ∃ k : Nat, k ≤ N ∧ i = .int .i64 k ∧ Hid (Below W.heap.size W wr) ∧ Hid (∀ j, j < k → l[j]? = m[j]?)) (fun i _ => N - (intOf i).toNat)
    case atStart => exact ⟨0, Nat.zero_le _, rfl, Lib.hid (Below.refl _ _), Lib.hid fun j h => absurd h (Nat.not_lt_zero _)⟩
    case round =>
      obtain ⟨k, hk, rfl, HR, HA⟩ := hrel
      by_cases hkN : k < N
      · have hkN' : (k : Int) < (N : Int) := by omega
        obtain ⟨⟨p, q⟩, hz⟩ : ∃ z, l[k]? = some z := ⟨_, List.getElem?_eq_getElem (by rw [HN.out]; exact hkN)⟩
        obtain ⟨⟨x, y⟩, hz2⟩ : ∃ z, m[k]? = some z := ⟨_, List.getElem?_eq_getElem (by rw [← HL.out]; exact hkN)⟩
        obtain ⟨cb, co, rfl, f0, f1⟩ := RdP.cell (ha.below HR.out (Nat.le_refl _)) hz
        obtain ⟨db, dd, rfl, f2, f3⟩ := RdP.cell (hb.below HR.out (Nat.le_refl _)) hz2
        dsimp only at f0 f1 f2 f3
        have HNK := Lib.hid (HNE.out k)
        have HAK : Hid (l[k]? = m[k]? → ∀ j, j < k + 1 → l[j]? = m[j]?) := Lib.hid (fun h j hj => by
          rcases (by omega : j < k ∨ j = k) with h1 | rfl
          · exact HA.out j h1
          · exact h)
        rw [hz, hz2] at HNK HAK
        have e0 := fun x : Grow wr => grow_cell f0 x
        have e1 := fun x : Grow wr => grow_cell f1 x
        have e2 := fun x : Grow wr => grow_cell f2 x
        have e3 := fun x : Grow wr => grow_cell f3 x
        clear f0 f1 f2 f3 hz hz2
        by_cases hab : p = x ∧ q = y
        · obtain ⟨rfl, rfl⟩ := hab
          have HA2 := Lib.hid (HAK.out rfl)
          go_wp2_with fail
          refine wp_region_grow (by kernel_rfl) (by kernel_rfl) ?_
          repeat (go_big_quiet_step (fail))
          refine wpQuiet_nil ?_
          intro _ hw'
          obtain ⟨xq, hw''⟩ := hw'
          subst hw''
          have HBq := Lib.hid (HR.out.trans ((grow_below xq).mono HR.out.size))
          clear e0 e1 e2 e3
          generalize grow xq = w8 at *
          go_wp2_with fail
          go_roundw
          case rel => exact ⟨k + 1, by omega, by go_num, HBq, HA2⟩
          case measure => simp [intOf]; omega
        · have HF := Lib.hid (HNK.out (fun e => hab (by injection e with e; injection e with e1 e2; exact ⟨e1, e2⟩)))
          have hab' : (p == x && q == y) = false := by
            rw [Bool.eq_false_iff]; intro hh; simp at hh; exact hab hh
          go_wp2_with fail
          refine wp_region_grow (by kernel_rfl) (by kernel_rfl) ?_
          repeat (go_big_quiet_step (fail))
          refine wpQuiet_nil ?_
          intro _ hw'
          obtain ⟨xq, hw''⟩ := hw'
          subst hw''
          have HBq := Lib.hid (HR.out.trans ((grow_below xq).mono HR.out.size))
          clear e0 e1 e2 e3
          generalize grow xq = w8 at *
          go_wp2_with fail
          go_ret
          exact ⟨by rw [HF.out]; rfl, HBq.out⟩
      · obtain rfl : k = N := by omega
        have HT := Lib.hid (HEQ.out HA.out)
        go_wp2_with fail
        go_ret
        exact ⟨by rw [HT.out]; rfl, HR.out⟩
  · have HF : Hid (decide (l = m) = false) := Lib.hid (decide_eq_false fun e => hne (by rw [e]))
    have hne' : ((l.length : Int) != (m.length : Int)) = true := by simp; omega
    generalize decide (l = m) = res at *
    clear hne
    go_enter Try.func19, Try.ntmps19
    go_wp2_with fail
    go_ret
    exact ⟨by rw [HF.out]; rfl, Below.refl _ _⟩

/-- the document's Far, for the first k cells -/
def refFarL (T : List (List Int)) (k : Nat) : List Int := (List.range k).map fun i => if big ≤ min4 T i then -1 else min4 T i
theorem refFarL_succ (T : List (List Int)) (k : Nat) : refFarL T (k + 1) = refFarL T k ++ [if big ≤ min4 T k then -1 else min4 T k] := by
  unfold refFarL; rw [List.range_succ, List.map_append]; rfl
theorem refFarL_eq {g : Gr} (hg : GrOk g) {to : Int × Int} (ht : openP g to = true) {T : List (List Int)} (h : TabS g to T) (hc : Closed g T) : refFarL T (g.w * g.h) = farP g to := by
  unfold refFarL farP farL
  apply List.map_congr_left
  intro i hi
  exact (far_tab hg ht h hc (List.mem_range.1 hi)).symm

set_option maxRecDepth 100000 in
theorem refFar_bad (w h mv bd : Int) (bv : Value) (bl : List (Int × Int)) (to : Int × Int) (W : World) (hv : RdP W bv bl) (hb : validP w h mv bd bl = false) :
    Calls Try.prog 15 #[.agg #[.int .i64 w, .int .i64 h, .int .i64 mv, .int .i64 bd, bv], .agg #[.int .i64 to.1, .int .i64 to.2]] W fun e w' => e = .returned (.tuple #[.slice none 0 0, .int .i64 70]) ∧ Below W.heap.size W w' := by
  have hbW := Lib.hid (((Below.refl W.heap.size W).alloc (Nat.le_refl _) (.cells #[.int .i64 w, .int .i64 h, .int .i64 mv, .int .i64 bd, bv] 24)).alloc (by simp) (.cells #[.int .i64 to.1, .int .i64 to.2] 26))
  have HVA := Lib.hid (fun V (hV : Below W.heap.size W V) => refValid_any w h mv bd bv bl V (hv.below hV))
  rw [hb] at HVA
  obtain ⟨a, cap, rfl, hc, hcm, _, _⟩ := hv
  obtain ⟨t1, t2⟩ := to
  clear hb
  dsimp only at *
  go_enter Try.func15, Try.ntmps15
  go_wp2_with (go_at_call 22; (with_reducible refine (HVA.out _ hbW.out).mono ?_); rintro e w1 ⟨rfl, hb1⟩)
  go_ret2
  exact ⟨rfl, hbW.out.trans (hb1.mono (by simp; omega))⟩
set_option maxRecDepth 100000 in
theorem refFar_block (w h : Nat) (mv bd : Int) (bv : Value) (bl : List (Int × Int)) (to : Int × Int) (W : World) (hv : RdP W bv bl) (hb : validP w h mv bd bl = true) (ho : refOpenP w h bl to = false) :
    Calls Try.prog 15 #[.agg #[.int .i64 w, .int .i64 h, .int .i64 mv, .int .i64 bd, bv], .agg #[.int .i64 to.1, .int .i64 to.2]] W fun e w' => e = .returned (.tuple #[.slice none 0 0, .int .i64 72]) ∧ Below W.heap.size W w' := by
  have hbW := Lib.hid (((Below.refl W.heap.size W).alloc (Nat.le_refl _) (.cells #[.int .i64 w, .int .i64 h, .int .i64 mv, .int .i64 bd, bv] 24)).alloc (by simp) (.cells #[.int .i64 to.1, .int .i64 to.2] 26))
  have HBX := Lib.hid (BxAt.new W (.cells #[.int .i64 w, .int .i64 h, .int .i64 mv, .int .i64 bd, bv] 24) to.1 to.2 26)
  have HGX := Lib.hid (GBx.new W w h mv bd bv 24 (.cells #[.int .i64 to.1, .int .i64 to.2] 26))
  have HVA := Lib.hid (fun V (hV : Below W.heap.size W V) => refValid_any w h mv bd bv bl V (hv.below hV))
  rw [hb] at HVA
  have h4m : bl.length ≤ 4000000 := by have := ((validP_iff _ _ _ _ _).1 hb).1; omega
  have HOA := Lib.hid (fun V (hV : Below W.heap.size W V) => refOpen_any w h mv bd bv bl to V (hv.below hV) h4m)
  rw [ho] at HOA
  obtain ⟨a, cap, rfl, hc, hcm, _, _⟩ := hv
  obtain ⟨t1, t2⟩ := to
  clear hb ho h4m
  dsimp only at *
  go_enter Try.func15, Try.ntmps15
  go_wp2_with (first
    | (go_at_call 22; (with_reducible refine (HVA.out _ hbW.out).mono ?_); rintro e w1 ⟨rfl, hb1⟩; have HG1 := Lib.hid (HGX.out.below hb1); have HB1 := Lib.hid (hbW.out.trans (hb1.mono (by simp; omega))); have HX1 := Lib.hid (HBX.out.below hb1); obtain ⟨c0, c1, c2, c3, c4⟩ := HG1.out; obtain ⟨c5, c6⟩ := HX1.out; clear hb1)
    | (go_at_call 43; (with_reducible refine (HOA.out _ HB1.out).mono ?_); rintro e w2 ⟨rfl, hb2⟩))
  go_ret2
  exact ⟨rfl, HB1.out.trans (hb2.mono HB1.out.size)⟩

set_option maxRecDepth 100000 in
set_option maxHeartbeats 1000000 in
theorem refFar_ok (w h : Nat) (mv bd : Int) (bv : Value) (bl : List (Int × Int)) (to : Int × Int) (W : World) (hv : RdP W bv bl) (hb : validP w h mv bd bl = true) (ho : refOpenP w h bl to = true) :
    Calls Try.prog 15 #[.agg #[.int .i64 w, .int .i64 h, .int .i64 mv, .int .i64 bd, bv], .agg #[.int .i64 to.1, .int .i64 to.2]] W fun e w' => (∃ v, e = .returned (.tuple #[v, .int .i64 0]) ∧ w'.ownsRow W.heap.size 3 1 v (w * h) (ints (farP (grK w h mv bd bl bl.length) to))) ∧ Below W.heap.size W w' := by
  have hbW := Lib.hid (((Below.refl W.heap.size W).alloc (Nat.le_refl _) (.cells #[.int .i64 w, .int .i64 h, .int .i64 mv, .int .i64 bd, bv] 24)).alloc (by simp) (.cells #[.int .i64 to.1, .int .i64 to.2] 26))
  have HBX := Lib.hid (BxAt.new W (.cells #[.int .i64 w, .int .i64 h, .int .i64 mv, .int .i64 bd, bv] 24) to.1 to.2 26)
  have HGX := Lib.hid (GBx.new W w h mv bd bv 24 (.cells #[.int .i64 to.1, .int .i64 to.2] 26))
  have HVA := Lib.hid (fun V (hV : Below W.heap.size W V) => refValid_any w h mv bd bv bl V (hv.below hV))
  rw [hb] at HVA
  have h4m : bl.length ≤ 4000000 := by have := ((validP_iff _ _ _ _ _).1 hb).1; omega
  have HOA := Lib.hid (fun V (hV : Below W.heap.size W V) => refOpen_any w h mv bd bv bl to V (hv.below hV) h4m)
  rw [ho] at HOA
  have HTA := Lib.hid (fun V (hV : Below W.heap.size W V) => table_any w h mv bd bv bl to V (hv.below hV) hb ho)
  have HLA := Lib.hid (fun tb T V x y i hT hi hN hix hx hy => least_any w h mv bd bv tb (w * h) (w * h) T x y i V hT hi hN hix hx hy)
  have hok := grK_ok hb bl.length
  have HOK := Lib.hid hok
  have HTO := Lib.hid ((open_eq hb to).trans ho)
  obtain ⟨g, hgd⟩ : ∃ g, grK w h mv bd bl bl.length = g := ⟨_, rfl⟩
  have HGW : Hid (g.w = w ∧ g.h = h) := Lib.hid (by rw [← hgd]; exact ⟨rfl, rfl⟩)
  rw [hgd] at HOK HTO HTA ⊢
  obtain ⟨a, cap, rfl, hc, hcm, _, _⟩ := hv
  obtain ⟨t1, t2⟩ := to
  obtain ⟨N, hN⟩ : ∃ N, w * h = N := ⟨_, rfl⟩
  have HN := Lib.hid hN
  have hcells : 1 ≤ w * h ∧ w * h ≤ 900 := hok.cells
  rw [hN] at hcells HTA HLA ⊢
  have hw1 : 1 ≤ w := by have := HOK.out.w1; rw [HGW.out.1] at this; exact this
  clear hb ho hgd hok hN h4m
  dsimp only at *
  go_enter Try.func15, Try.ntmps15
  go_wp2_with (first
    | (go_at_call 22; (with_reducible refine (HVA.out _ hbW.out).mono ?_); rintro e w1 ⟨rfl, hb1⟩; have HG1 := Lib.hid (HGX.out.below hb1); have HB1 := Lib.hid (hbW.out.trans (hb1.mono (by simp; omega))); have HX1 := Lib.hid (HBX.out.below hb1); obtain ⟨c0, c1, c2, c3, c4⟩ := HG1.out; obtain ⟨c5, c6⟩ := HX1.out; clear hb1)
    | (go_at_call 43; (with_reducible refine (HOA.out _ HB1.out).mono ?_); rintro e w2 ⟨rfl, hb2⟩; have HG2 := Lib.hid (HG1.out.below hb2); have HB2 := Lib.hid (HB1.out.trans (hb2.mono HB1.out.size)); have HX2 := Lib.hid (HX1.out.below hb2); clear c0 c1 c2 c3 c4 c5 c6 hb2; obtain ⟨c0, c1, c2, c3, c4⟩ := HG2.out; obtain ⟨c5, c6⟩ := HX2.out)
    | (go_at_call 44; (with_reducible refine (HTA.out _ HB2.out).mono ?_); rintro e w3 ⟨⟨tb, T, rfl, hF3, hT3, hC3⟩, hb3⟩; have HF3 := Lib.hid hF3; have HT3 := Lib.hid hT3; have HC3 := Lib.hid hC3; have HG3 := Lib.hid (HG2.out.below hb3); have HB3 := Lib.hid (HB2.out.trans (hb3.mono HB2.out.size)); clear c0 c1 c2 c3 c4 c5 c6 hb3 hF3 hT3 hC3))
  go_loopw [7, 22] (fun o p wr => ∃ k : Nat, k ≤ N ∧ p = .int .i64 k ∧ Hid (wr.ownsRow w3.heap.size 3 1 o k (ints (refFarL T k))) ∧ Hid (Below w3.heap.size w3 wr)) (fun _ p _ => N - (intOf p).toNat)
  case atStart => exact ⟨0, Nat.zero_le _, rfl, Lib.hid (World.ownsRow_nil _ _ _ _), Lib.hid (Below.refl _ _)⟩
  case round =>
    obtain ⟨k, hk, rfl, HO, HR⟩ := hrel
    by_cases hkN : k < N
    · have hkN' : (k : Int) < (N : Int) := by omega
      obtain ⟨u0, u1, u2, u3, u4⟩ := HG3.out.below HR.out
      have e0 := fun x : Grow wr => grow_cell u0 x
      have e1 := fun x : Grow wr => grow_cell u1 x
      have e2 := fun x : Grow wr => grow_cell u2 x
      have e3 := fun x : Grow wr => grow_cell u3 x
      have e4 := fun x : Grow wr => grow_cell u4 x
      have hnear := cellP_near HOK.out (i := k) (by rw [HGW.out.1, HGW.out.2, HN.out]; exact hkN)
      have hix := index_cell HOK.out k
      obtain ⟨⟨c1, c2⟩, hc12⟩ : ∃ c, cellP g k = c := ⟨_, rfl⟩
      rw [hc12] at hnear hix
      unfold indexP at hix
      rw [HGW.out.1] at hix
      have hcc : ((k % w : Nat) : Int) = c1 ∧ ((k / w : Nat) : Int) = c2 := by
        have : cellP g k = (((k % g.w : Nat) : Int), ((k / g.w : Nat) : Int)) := rfl
        rw [HGW.out.1, hc12] at this
        injection this with h1 h2
        exact ⟨h1.symm, h2.symm⟩
      have hr : ((k : Int)).tmod (w : Int) = c1 := (Int.ofNat_tmod _ _).symm.trans hcc.1
      have hq : ((k : Int)).tdiv (w : Int) = c2 := (Int.ofNat_tdiv _ _).symm.trans hcc.2
      dsimp only at hnear hix
      have hwq : IntKind.i64.wrap c2 = c2 := IntWalk.i64_in _ (by clear hr hq hix; omega)
      have hn0 : ¬ ((w : Int) = 0) := by omega
      have hnz : ¬ (w = 0) := by omega
      have HLV := Lib.hid (fun x : Grow wr => HLA.out tb T (grow x) c1 c2 k (HF3.out.below (HR.out.trans ((grow_below x).mono HR.out.size))) hkN hcells.2 hix (by omega) (by omega))
      have HSU := Lib.hid (refFarL_succ T k)
      generalize min4 T k = m4 at *
      clear u0 u1 u2 u3 u4 hc12 hcc hnear hix
      go_wp2_with fail
      refine wp_region_grow (by kernel_rfl) (by kernel_rfl) ?_
      repeat (go_big_quiet_step (first | (go_at_call 45; (with_reducible refine grow_of (HLV.out _)))))
      refine wpQuiet_nil ?_
      intro _ hw'
      obtain ⟨xq, hw''⟩ := hw'
      subst hw''
      have HBq := Lib.hid (grow_below xq)
      clear e0 e1 e2 e3 e4 hr hq hwq hn0 hnz HLV
      generalize grow xq = w8 at *
      have HBt := Lib.hid (HR.out.trans (HBq.out.mono HR.out.size))
      have HOt := Lib.hid (own_below HO.out HBq.out)
      by_cases hge : 1099511627776 ≤ m4
      · rw [if_pos (show big ≤ m4 from hge)] at HSU
        go_wp2_with (at_builtin; refine app1 el_num rfl rfl (w0 := w3) rfl (by rfl) (by exact HBt.out) (by exact HOt.out) rfl (by omega) ?_; intro v9 w9 ho9 hb9 hg9)
        go_roundw
        case rel => exact ⟨k + 1, by omega, by go_num, Lib.hid (by rw [HSU.out, ints_append]; exact ho9), Lib.hid hb9⟩
        case measure => simp [intOf]; omega
      · rw [if_neg (show ¬ big ≤ m4 from hge)] at HSU
        go_wp2_with (at_builtin; refine app1 el_num rfl rfl (w0 := w3) rfl (by rfl) (by exact HBt.out) (by exact HOt.out) rfl (by omega) ?_; intro v9 w9 ho9 hb9 hg9)
        go_roundw
        case rel => exact ⟨k + 1, by omega, by go_num, Lib.hid (by rw [HSU.out, ints_append]; exact ho9), Lib.hid hb9⟩
        case measure => simp [intOf]; omega
    · obtain rfl : k = N := by omega
      have HEQ : Hid (refFarL T k = farP g (t1, t2)) := Lib.hid (by rw [← HN.out, ← HGW.out.1, ← HGW.out.2]; exact refFarL_eq HOK.out HTO.out HT3.out HC3.out)
      go_wp2_with fail
      go_ret2
      exact ⟨⟨_, rfl, by rw [← HEQ.out]; exact own_le HO.out HB3.out.size⟩, HB3.out.trans (HR.out.mono HB3.out.size)⟩

theorem refFar_any (w h mv bd : Int) (bv : Value) (bl : List (Int × Int)) (to : Int × Int) (W : World) (hv : RdP W bv bl) :
    Calls Try.prog 15 #[.agg #[.int .i64 w, .int .i64 h, .int .i64 mv, .int .i64 bd, bv], .agg #[.int .i64 to.1, .int .i64 to.2]] W fun e w' => (∃ v, e = .returned (.tuple #[v, .int .i64 (farF w h mv bd bl to).2]) ∧ w'.ownsRow W.heap.size 3 1 v (farF w h mv bd bl to).1.length (ints (farF w h mv bd bl to).1)) ∧ Below W.heap.size W w' := by
  cases hb : validP w h mv bd bl with
  | false =>
    have e : farF w h mv bd bl to = ([], 70) := by unfold farF; rw [hb]; rfl
    rw [e]
    exact (refFar_bad w h mv bd bv bl to W hv hb).mono fun e w' hh => ⟨⟨_, hh.1, World.ownsRow_nil _ _ _ _⟩, hh.2⟩
  | true =>
    obtain ⟨n, m, rfl, rfl⟩ := valid_nat hb
    cases ho : refOpenP n m bl to with
    | false =>
      have e : farF n m mv bd bl to = ([], 72) := by unfold farF; rw [hb, ho]; rfl
      rw [e]
      exact (refFar_block n m mv bd bv bl to W hv hb ho).mono fun e w' hh => ⟨⟨_, hh.1, World.ownsRow_nil _ _ _ _⟩, hh.2⟩
    | true =>
      have e : farF n m mv bd bl to = (farP (grK n m mv bd bl bl.length) to, 0) := by unfold farF; rw [hb, ho]; rfl
      rw [e]
      have hl : (farP (grK n m mv bd bl bl.length) to).length = n * m := farL_len _ _ _ _
      refine (refFar_ok n m mv bd bv bl to W hv hb ho).mono fun e w' hh => ⟨?_, hh.2⟩
      obtain ⟨v, h1, h2⟩ := hh.1
      refine ⟨v, h1, ?_⟩
      rw [hl]; exact h2
end Go.Proofs.Ytpakkjkjppibnaa

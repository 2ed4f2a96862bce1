/- Heat: Cheapest in the reference: all powers in their order. -/
import Derived.Test.YtnaoanmkepcinaaHLo
import Derived.Test.YtnaoanmkepcinaaHCh
import Derived.Test.YtnaoanmkepcinaaHPhC
import Derived.Deep.CutRange
namespace Go.Proofs.Ytnaoanmkepcinaa
open Go.RowKit

def BestO (w : World) (B g : Nat) (v : Value) (b : Option (List Int)) : Prop :=
  match b with | none => v = .slice none 0 0 | some q => ∃ g2 c2, v = .slice (some ⟨g2, 0, none⟩) q.length c2 ∧ w.ownsRow B 3 1 v q.length (ints q) ∧ g2 ≠ g
theorem BestO.below {A C : World} {B g : Nat} {v : Value} {b : Option (List Int)} (h : BestO A B g v b) (hb : Below A.heap.size A C) : BestO C B g v b := by
  cases b with
  | none => exact h
  | some q => obtain ⟨g2, c2, h1, h2, h3⟩ := h; exact ⟨g2, c2, h1, own_below h2 hb, h3⟩
theorem BestO.store {A C : World} {B g : Nat} {v : Value} {b : Option (List Int)} (h : BestO A B g v b) (hg : A.grownBy C (some g)) : BestO C B g v b := by
  cases b with
  | none => exact h
  | some q => obtain ⟨g2, c2, rfl, h2, h3⟩ := h; exact ⟨g2, c2, rfl, h2.kept hg (.inr (by simpa [Value.ownBlock] using h3)), h3⟩

def curOf (g N : Nat) (W : World) : List Nat := (List.range N).map fun j => (intOf ((W.cell? ⟨g, j, none⟩).getD undef)).toNat
theorem curOf_eq {W : World} {B g N c : Nat} {cur : List Nat} (h : W.ownsRow B 3 1 (.slice (some ⟨g, 0, none⟩) N c) N (ints (nl cur))) (hl : cur.length = N) : curOf g N W = cur := by
  apply List.ext_getElem
  · simp [curOf, hl]
  · intro i h1 h2
    have hi : i < N := by omega
    simp only [curOf, List.getElem_map, List.getElem_range]
    rw [h.cellAt i (by omega)]
    simp [ints, nl, h2, intOf]

theorem odo {t N : Nat} {cur : List Nat} {i x : Nat} (hl : cur.length = N) (hi : i < N) (hd : ∀ y ∈ cur.drop (i + 1), y = t) (hx : cur[i]? = some x) (hlt : x < t) :
    oNext t cur = some ((cur.take (i + 1) ++ List.replicate (N - (i + 1)) 0).set i (x + 1)) := by
  have hil : i < cur.length := by omega
  have e1 : cur = cur.take i ++ x :: List.replicate (N - (i + 1)) t := by
    have hdr : cur.drop (i + 1) = List.replicate (N - (i + 1)) t := List.eq_replicate_iff.2 ⟨by rw [List.length_drop]; omega, hd⟩
    rw [← hdr]
    have hxe : cur[i] = x := by rw [List.getElem?_eq_getElem hil] at hx; exact Option.some.inj hx
    rw [← hxe, List.getElem_cons_drop hil]
    exact (List.take_append_drop i cur).symm
  have e2 : (cur.take (i + 1) ++ List.replicate (N - (i + 1)) 0).set i (x + 1) = cur.take i ++ (x + 1) :: List.replicate (N - (i + 1)) 0 := by
    have ht : cur.take (i + 1) = cur.take i ++ [x] := by rw [List.take_add_one, hx]; rfl
    rw [ht, List.append_assoc, List.set_append_right _ _ (by rw [List.length_take]; omega), show i - (cur.take i).length = 0 by rw [List.length_take]; omega]
    rfl
  rw [e2]
  conv => lhs; rw [e1]
  exact oNext_at t x hlt _ _
theorem odo_last {t N : Nat} {cur : List Nat} (hl : cur.length = N) (hd : ∀ y ∈ cur.drop 0, y = t) : oNext t cur = none := by
  have : cur = List.replicate N t := List.eq_replicate_iff.2 ⟨hl, by simpa using hd⟩
  rw [this]; exact oNext_last t N
theorem nl_set (l : List Nat) (i x : Nat) : (ints (nl l)).set i (.int .i64 (x : Nat)) = ints (nl (l.set i x)) := by simp [ints, nl]
theorem take_zero {N i t : Nat} {cur : List Nat} (hl : cur.length = N) (hi : i < N) (hx : cur[i]? = some t) : (cur.take (i + 1) ++ List.replicate (N - (i + 1)) 0).set i 0 = cur.take i ++ List.replicate (N - i) 0 := by
  have ht : cur.take (i + 1) = cur.take i ++ [t] := by rw [List.take_add_one, hx]; rfl
  rw [ht, List.append_assoc, List.set_append_right _ _ (by rw [List.length_take]; omega), show i - (cur.take i).length = 0 by rw [List.length_take]; omega, show N - i = (N - (i + 1)) + 1 by omega]
  rfl
theorem abs_b (n : Int) (w : World) (hn : -9223372036854775807 ≤ n ∧ n ≤ 9223372036854775807) : Calls Try.prog 74 #[.int .i64 n] w fun e w' => e = .returned (.int .i64 (n.natAbs : Nat)) ∧ Below w.heap.size w w' :=
  (abs_any n w hn).mono fun e w' ⟨h1, h2⟩ => ⟨h1, by subst h2; exact Below.refl _ _⟩

set_option maxRecDepth 100000 in
set_option maxHeartbeats 8000000 in
theorem refCheapest_main (v wv : Value) (m : List (List Int)) (want : List Int) (s : Int) (t : Nat) (w : World) (hv : RdM w v m) (hwv : Rd w wv (ints want))
    (hq1 : vB m = true) (hq2 : lstB want m.length (-1000000) 1000000 = true) (hs1 : 0 ≤ s) (hs2 : s ≤ 1000000) (ht : t ≤ 20) (hN3 : m.length ≤ 3) :
    Calls Try.prog 45 #[.agg #[v], wv, .int .i64 s, .int .i64 t] w fun e w' => ∃ u, e = .returned (.tuple #[u, .int .i64 (if (chO m want s t).isNone then 62 else 0)]) ∧ Rd w' u (ints ((chO m want s t).getD [])) ∧ Below w.heap.size w w' := by
  have HV := Lib.hid hv
  have HWV := Lib.hid hwv
  obtain ⟨h1, h2, h3⟩ := vB_bd hq1
  obtain ⟨g1, g2⟩ := lstB_bd hq2
  have hcall := Lib.hid (fun W hb => refValid_any _ m W (HV.out.below (w' := W) hb) (fun r hr => by rw [(h3 r hr).1]; omega))
  rw [hq1] at hcall
  obtain ⟨vs, ⟨a, cap, rfl, hc, hcm, ha, _⟩, hr⟩ := hv
  obtain ⟨ab, capb, rfl, hcb, hcmb, hab, _⟩ := hwv
  rw [hr.1] at hc HV hcall ⊢
  rw [ints_length, g1] at hcb HWV ⊢
  have HPH := Lib.hid (fun W hb => isPhases_any m.length _ want W (HWV.out.below (w' := W) (B := w.heap.size) hb (Nat.le_refl _)) (by omega))
  rw [hq2] at HPH
  have HB1 := Lib.hid (fun W => within_any 0 s 1000000 W)
  rw [(inB_iff 0 s 1000000).2 ⟨hs1, hs2⟩] at HB1
  have HB2 := Lib.hid (fun W => within_any 0 t 20 W)
  rw [(inB_iff 0 (t : Int) 20).2 ⟨by omega, by omega⟩] at HB2
  have HGB : Hid (∀ j, j < m.length → ∃ x, want[j]? = some x ∧ want.getD j 0 = x ∧ -1000000 ≤ x ∧ x ≤ 1000000) := Lib.hid fun j hj =>
    have hj2 : j < want.length := by omega
    ⟨_, List.getElem?_eq_getElem hj2, by rw [List.getD_eq_getElem?_getD, List.getElem?_eq_getElem hj2]; rfl, g2 _ (List.getElem_mem hj2)⟩
  have hbl := Lib.hid g1
  have HLB : Hid (∀ cur : List Nat, cur.length = m.length → (∀ x ∈ cur, x ≤ t) → lstB (nl cur) m.length 0 1000 = true ∧ (∀ x ∈ nl cur, -1000000 ≤ x ∧ x ≤ 1000000) ∧ (∀ i, -1000000 ≤ hs m (nl cur) i m.length ∧ hs m (nl cur) i m.length ≤ 1000000)) := Lib.hid fun cur hl hb => by
    have hx : ∀ x ∈ nl cur, 0 ≤ x ∧ x ≤ 20 := fun x hx => by
      obtain ⟨y, hy, rfl⟩ := List.mem_map.1 hx
      have := hb y hy
      omega
    refine ⟨?_, fun x h => by have := hx x h; omega, fun i => hs_bd hq1 (fun x h => by have := hx x h; omega) i _ h2⟩
    unfold lstB allB
    rw [Bool.and_eq_true, decide_eq_true_eq, List.all_eq_true]
    exact ⟨by rw [nl_length, hl], fun x h => (inB_iff _ _ _).2 (by have := hx x h; omega)⟩
  have HHT : Hid (∀ cur : List Nat, cur.length = m.length → (∀ x ∈ cur, x ≤ t) → ∀ i W c, i < m.length → Below w.heap.size w W → Rd W c (ints (nl cur)) → Calls Try.prog 72 #[.agg #[.slice a m.length cap], .int .i64 i, c] W fun e w' => e = .returned (.int .i64 (hs m (nl cur) i m.length)) ∧ Below W.heap.size W w') := Lib.hid fun cur hl hbd i W c hi hb hc =>
    heated_any rfl hq1 (HLB.out cur hl hbd).1 _ _ i hi W (HV.out.below hb) hc
  have HCO : Hid (chO m want s t = (List.replicate m.length 0 :: after t (List.replicate m.length 0)).foldl (fun b l => chStep m want s b (nl l)) none) := Lib.hid (listsN_fold _ _ _ _)
  have HNS : Hid (∀ p k, nearB m want s p (k + 1) = (nearB m want s p k && decide (((hs m p k m.length - want.getD k 0).natAbs : Int) ≤ s))) := Lib.hid fun p k => by unfold nearB; rw [List.range_succ, List.all_append]; simp
  have HN0 : Hid (∀ p, nearB m want s p 0 = true) := Lib.hid fun p => rfl
  have HCS : Hid (∀ b p, chStep m want s b p = if lessB b p && nearB m want s p m.length then some p else b) := Lib.hid fun b p => rfl
  generalize hCO : chO m want s t = CO at *
  clear hq1 hq2 h3 g2 hr g1 hCO ha
  generalize hN : m.length = N at *
  have HN := Lib.hid hN
  clear hN
  have hb0 : Hid (Below w.heap.size w (w.alloc (.cells #[.slice a N cap] 24))) := Lib.hid ((Below.refl _ _).alloc (Nat.le_refl _) _)
  have hcB : Hid ((w.alloc (.cells #[.slice a N cap] 24)).cell? ⟨w.heap.size, 0, none⟩ = some (.slice a N cap)) := Lib.hid (World.cell?_alloc_at _ _ _ _ rfl)
  have hNn : (N : Int) ≤ 3 := by omega
  go_enter Try.func45, Try.ntmps45
  go_wp2_with (first
    | (go_at_call 15; refine (hcall.out _ hb0.out).mono ?_; rintro e w1 ⟨rfl, hb1⟩; have hb01 := hb0.out.trans (hb1.mono hb0.out.size); have c1 := cell_below hcB.out hb1)
    | (go_at_call 65; refine (HPH.out _ hb01).mono ?_; rintro e w' ⟨rfl, rfl⟩)
    | (go_at_call 56; (with_reducible refine (HB1.out _).mono ?_); rintro e w' ⟨rfl, rfl⟩)
    | (go_at_call 56; (with_reducible refine (HB2.out _).mono ?_); rintro e w' ⟨rfl, rfl⟩)
    | (at_make; refine mkS el_int rfl rfl rfl rfl rfl (by omega) ?_; intro w2 ho2 hb2))
  have hz1 := hb01.size
  have e0 : List.replicate N (Value.int .i64 0) = ints (nl (List.replicate N 0)) := by simp [ints, nl]
  rw [e0] at ho2
  have c2 := cell_below c1 hb2
  have hg2 : w1.heap.size < w2.heap.size := (ho2.lt _ rfl).2
  go_loopw [11] (fun bv wr => ∃ (cur : List Nat) (b : Option (List Int)), cur.length = N ∧ (∀ x ∈ cur, x ≤ t) ∧ Hid (wr.ownsRow w1.heap.size 3 1 (.slice (some ⟨w1.heap.size, 0, none⟩) N N) N (ints (nl cur))) ∧ Hid (BestO wr w1.heap.size w1.heap.size bv b) ∧ Hid (∀ q, b = some q → q.length ≤ 3 ∧ ∀ x ∈ q, -1000000 ≤ x ∧ x ≤ 1000000) ∧ Hid ((cur :: after t cur).foldl (fun b l => chStep m want s b (nl l)) b = CO) ∧ Below w1.heap.size w1 wr) (fun _ wr => leftN t (curOf w1.heap.size N wr))
  case atStart => exact ⟨List.replicate N 0, none, by simp, fun x hx => by have := List.eq_of_mem_replicate hx; omega, Lib.hid ho2, Lib.hid rfl, Lib.hid (fun q e => by cases e), Lib.hid HCO.out.symm, hb2⟩
  case round =>
    obtain ⟨cur, b, hcl, hct, HP, HB, HQB, HF, hb1r⟩ := hrel
    have hbel := hb01.trans (hb1r.mono hz1)
    obtain ⟨wo, hwo⟩ : ∃ wo, wo = wr := ⟨_, rfl⟩
    subst hwo
    obtain ⟨q1, q2, q3⟩ := HLB.out cur hcl hct
    have HQ2 := Lib.hid q2
    have HQ3 := Lib.hid q3
    have hgo : w1.heap.size < wo.heap.size := (HP.out.lt _ rfl).2
    clear q1 q2 q3
    go_wp2_with fail
    go_loopw [13, 14] (fun gd i wr => ∃ k : Nat, k ≤ N ∧ i = .int .i64 k ∧ gd = .bool (nearB m want s (nl cur) k) ∧ Below wo.heap.size wo wr) (fun _ i _ => N - (intOf i).toNat)
    case atStart => exact ⟨0, Nat.zero_le _, rfl, by rw [HN0.out], Below.refl _ _⟩
    case round =>
      obtain ⟨k, hk, rfl, rfl, hbr⟩ := hrel
      by_cases hlt : k < N
      · have HK := Lib.hid (HNS.out (nl cur) k)
        have hkN : (k : Int) < (N : Int) := by omega
        cases hnb : nearB m want s (nl cur) k with
        | false =>
          rw [hnb, Bool.false_and] at HK
          clear hnb
          go_wp2_with fail
          go_quiet (fail)
          go_wp2_with fail
          go_roundw
          case rel => exact ⟨k + 1, by omega, by go_num, by rw [HK.out], bel_drewN hbr _⟩
          case measure => simp [intOf]; omega
        | true =>
          rw [hnb, Bool.true_and] at HK
          clear hnb
          obtain ⟨y, hy, hgy, hy1, hy2⟩ := HGB.out k hlt
          rw [hgy] at HK
          have hbw := hbel.trans (hbr.mono hbel.size)
          obtain ⟨bb, off, rfl, hcell⟩ := (hab.below hbw (Nat.le_refl _)).cell (j := k) (by rw [ints_length, hbl.out]; exact hlt)
          have c6 := hcell k _ (ints_get hy)
          have cB := cell_below c1 (hb1r.trans (hbr.mono hb1r.size))
          have HT := Lib.hid (fun W (hb : Hid (Below wr.heap.size wr W)) => HHT.out cur hcl hct k W (.slice (some ⟨w1.heap.size, 0, none⟩) N N) hlt (hbw.trans (hb.out.mono hbw.size)) (Rd.own (own_below (own_below HP.out hbr) hb.out)))
          have hhb := HQ3.out k
          generalize hz : hs m (nl cur) k N = z at *
          have hw1 : IntKind.i64.wrap (z - y) = z - y := IntWalk.i64_in _ ⟨by omega, by omega⟩
          have HAB := Lib.hid (fun W => abs_b (z - y) W (by omega))
          have HBR := Lib.hid hbr
          have HC1 := Lib.hid cB
          have HC2 := Lib.hid c6
          clear hcell hy hz hgy hbr hbw hb1r hbel
          go_wp2_with fail
          go_region_held3 (fun w' => w'.cell? ⟨w.heap.size, 0, none⟩ = some (.slice a N cap) ∧ w'.cell? ⟨bb, off + k, none⟩ = some (.int .i64 y) ∧ Hid (Below wr.heap.size wr w'))
            (first | exact keepS2 hbk (by assumption) | exact ⟨HC1.out, HC2.out, Lib.hid (Below.refl _ _).drew⟩)
            (first
              | (go_at_call 72; refine (HT.out _ (And.right (And.right (by assumption)))).mono ?_; rintro e wk ⟨rfl, hbk⟩)
              | (go_at_call 74; refine (HAB.out _).mono ?_; rintro e wk ⟨rfl, hbk⟩))
          have hS : wk.cell? ⟨w.heap.size, 0, none⟩ = some (.slice a N cap) ∧ wk.cell? ⟨bb, off + k, none⟩ = some (.int .i64 y) ∧ Hid (Below wr.heap.size wr wk) := by assumption
          have HB2 := Lib.hid (HBR.out.trans (hS.2.2.out.mono HBR.out.size))
          clear hS
          go_wp2_with fail
          go_roundw
          case rel => exact ⟨k + 1, by omega, by go_num, by rw [HK.out], HB2.out⟩
          case measure => simp [intOf]; omega
      · obtain rfl : k = N := by omega
        have hP2 := own_below HP.out hbr
        have HP2 := Lib.hid hP2
        have HB2 := Lib.hid (HB.out.below hbr)
        have HBE := Lib.hid (hb1r.trans (hbr.mono hb1r.size))
        have hgr : w1.heap.size < wr.heap.size := Nat.lt_of_lt_of_le hgo hbr.size
        have HR2 := Lib.hid (Rd.own hP2)
        have HS1 := Lib.hid (refSum_any _ (nl cur) wr (Rd.own hP2) (by rw [nl_length, hcl]; omega) HQ2.out)
        have HCK := Lib.hid (HCS.out b (nl cur))
        have hln : (nl cur).length = k := by rw [nl_length, hcl]
        obtain ⟨b', hb'⟩ : ∃ b', chStep m want s b (nl cur) = b' := ⟨_, rfl⟩
        rw [hb'] at HCK
        have HBQ := Lib.hid hb'
        clear hP2 hbr hb1r hbel hb'
        generalize hnbq : nearB m want s (nl cur) k = nb at *
        clear hnbq
        go_upto_region 15 with fail
        obtain ⟨wo2, hwo2⟩ : ∃ wo2, wo2 = wr := ⟨_, rfl⟩
        subst hwo2
        have HAPP : Hid (∀ (v2 : Value) (w4 : World), w4.ownsRow wo2.heap.size 3 1 v2 (0 + (ints (nl cur)).length) ([] ++ ints (nl cur)) → Below wo2.heap.size wo2 w4 → BestO w4 w1.heap.size w1.heap.size v2 (some (nl cur))) := Lib.hid fun v2 w4 ho4 hb4 => by
          rw [Nat.zero_add, ints_length, List.nil_append] at ho4
          obtain ⟨g2, c2, rfl, hg2, _⟩ := own_some ho4 (by omega)
          exact ⟨g2, c2, rfl, own_le ho4 (Nat.le_of_lt hgr), by omega⟩
        go_cut [71] from 60 to 71 (fun cv wx => cv = .bool (lessB b (nl cur) && nb) ∧ wx = wo2)
        case first =>
          cases nb with
          | false =>
            go_wp2_with fail
            go_meet
            exact ⟨by rw [Bool.and_false], rfl⟩
          | true =>
            cases b with
            | none =>
              have hbv := HB2.out
              simp only [BestO] at hbv
              subst hbv
              have heq : ∀ w0, (binOp .eql 28 (.slice none 0 0) (.slice none 0 0)).run Try.prog w0 = .ok (.bool true) w0 := fun w0 => Lib.run_eql_slice_nil (P := Try.prog) w0 28 3 none 0 0 0 0 Try.underlying28
              go_wp2_with fail
              go_meet
              exact ⟨rfl, rfl⟩
            | some q =>
              obtain ⟨g2, c2, hbv, hq1, hq2⟩ := HB2.out
              subst hbv
              have heq : ∀ w0, (binOp .eql 28 (.slice (some ⟨g2, 0, none⟩) q.length c2) (.slice none 0 0)).run Try.prog w0 = .ok (.bool false) w0 := fun w0 => Lib.run_eql_slice_nil (P := Try.prog) w0 28 3 (some ⟨g2, 0, none⟩) q.length c2 0 0 Try.underlying28
              have HS2 := Lib.hid (refSum_any _ q wo2 (Rd.own hq1) (by have := (HQB.out q rfl).1; omega) (HQB.out q rfl).2)
              clear hq1
              go_wp2_with (first
                | (go_at_call 58; (with_reducible refine HS1.out.mono ?_); rintro e w' ⟨rfl, rfl⟩)
                | (go_at_call 58; (with_reducible refine HS2.out.mono ?_); rintro e w' ⟨rfl, rfl⟩))
              go_meet
              exact ⟨by rw [Bool.and_true]; rfl, rfl⟩
        case rest =>
        obtain ⟨hcv, hwc⟩ := hcut
        subst hwc
        generalize hcd : (lessB b (nl cur) && nb) = cd at *
        clear hcd
        subst hcv
        go_upto_if 71 with fail
        go_cut [11] from 72 to 74 (fun bx wx => Hid (wx.ownsRow w1.heap.size 3 1 (.slice (some ⟨w1.heap.size, 0, none⟩) k k) k (ints (nl cur))) ∧ Hid (BestO wx w1.heap.size w1.heap.size bx b') ∧ Below wc.heap.size wc wx)
        case first =>
          cases cd with
          | false =>
            rw [if_neg (by simp)] at HCK
            go_wp2_with fail
            go_meet
            exact ⟨HP2, by rw [HCK.out]; exact HB2, Below.refl _ _⟩
          | true =>
            rw [if_pos rfl] at HCK
            go_wp2_with (first
              | (at_builtin; refine appS el_int rfl rfl (w0 := wc) rfl rfl (by exact (Below.refl _ _).alloc (Nat.le_refl _) _) (by exact own_lit wc wc.heap.size _ _ 0 (Nat.le_refl _) rfl (by decide)) (by exact HR2.out.below ((Below.refl _ _).alloc (Nat.le_refl _) _) (Nat.le_refl _)) (by exact ints_cell _) (by rw [ints_length]; omega) ?_; intro v2 w4 ho4 hb4 hg4))
            go_meet
            exact ⟨Lib.hid (own_below HP2.out hb4), Lib.hid (by rw [HCK.out]; exact HAPP.out _ _ ho4 hb4), hb4⟩
        case rest =>
        obtain ⟨HPX, HBX, hbx⟩ := hcut
        have hb1x := HBE.out.trans (hbx.mono HBE.out.size)
        have hwk : IntKind.i64.wrap ((k : Int) - 1) = (k : Int) - 1 := IntWalk.i64_in _ ⟨by omega, by omega⟩
        have hFN : Hid (match oNext t cur with | none => b' = CO | some l' => (l' :: after t l').foldl (fun b l => chStep m want s b (nl l)) b' = CO) := Lib.hid (by
          have h1 := HF.out
          rw [fold_next] at h1
          cases hq : oNext t cur with
          | none => rw [hq] at h1; simp only at h1 ⊢; rw [← HBQ.out]; exact h1
          | some l' => rw [hq] at h1; simp only at h1 ⊢; rw [← HBQ.out]; exact h1)
        have HQN : Hid (∀ q, b' = some q → q.length ≤ 3 ∧ ∀ x ∈ q, -1000000 ≤ x ∧ x ≤ 1000000) := Lib.hid (fun q e => by
          have h1 := HBQ.out
          rw [HCS.out] at h1
          split at h1
          · rw [← h1] at e; cases e; exact ⟨by omega, HQ2.out⟩
          · rw [← h1] at e; exact HQB.out q e)
        have HPC := Lib.hid (curOf_eq HP.out hcl)
        go_wp2_with fail
        go_loopw [15] (fun kv wr3 => ∃ i : Nat, i ≤ k ∧ kv = .int .i64 ((i : Int) - 1) ∧ Hid (∀ y ∈ cur.drop i, y = t) ∧ Hid (wr3.ownsRow w1.heap.size 3 1 (.slice (some ⟨w1.heap.size, 0, none⟩) k k) k (ints (nl (cur.take i ++ List.replicate (k - i) 0)))) ∧ Hid (BestO wr3 w1.heap.size w1.heap.size u11 b') ∧ Below w1.heap.size w1 wr3) (fun kv _ => (intOf kv + 1).toNat)
        case atStart => exact ⟨k, Nat.le_refl _, rfl, Lib.hid (by rw [List.drop_of_length_le (by omega)]; simp), Lib.hid (by rw [List.take_of_length_le (by omega), Nat.sub_self, List.replicate_zero, List.append_nil]; exact HPX.out), HBX, hb1x⟩
        case round =>
          obtain ⟨i, hi, rfl, HD, HP3, HB3, hb13⟩ := hrel
          rcases Nat.eq_zero_or_pos i with rfl | hip
          · have hON := odo_last hcl HD.out
            have hfn := hFN.out
            rw [hON] at hfn
            simp only at hfn
            subst hfn
            have hbe := HB3.out
            have hbf := hb01.trans (hb13.mono hz1)
            rw [show (((0 : Nat) : Int) - 1) = -1 by omega]
            cases b' with
            | none =>
              simp only [BestO] at hbe
              subst hbe
              have heq : ∀ w0, (binOp .eql 28 (.slice none 0 0) (.slice none 0 0)).run Try.prog w0 = .ok (.bool true) w0 := fun w0 => Lib.run_eql_slice_nil (P := Try.prog) w0 28 3 none 0 0 0 0 Try.underlying28
              go_wp2_with fail
              go_ret2
              exact ⟨_, rfl, Rd.nil _, hbf⟩
            | some q =>
              obtain ⟨g2, c2, hbv, hq1, hq2⟩ := hbe
              subst hbv
              have heq : ∀ w0, (binOp .eql 28 (.slice (some ⟨g2, 0, none⟩) q.length c2) (.slice none 0 0)).run Try.prog w0 = .ok (.bool false) w0 := fun w0 => Lib.run_eql_slice_nil (P := Try.prog) w0 28 3 (some ⟨g2, 0, none⟩) q.length c2 0 0 Try.underlying28
              go_wp2_with fail
              go_ret2
              exact ⟨_, rfl, Rd.own hq1, hbf⟩
          · obtain ⟨j, rfl⟩ : ∃ j, i = j + 1 := ⟨i - 1, by omega⟩
            rw [show ((((j + 1 : Nat) : Int)) - 1) = (j : Int) by omega]
            obtain ⟨x, hx⟩ : ∃ x, cur[j]? = some x := ⟨_, List.getElem?_eq_getElem (by omega)⟩
            have hxt : x ≤ t := hct x (List.mem_of_getElem? hx)
            have hjk : (j : Int) < (k : Int) := by omega
            have hj0 : (0 : Int) ≤ (j : Int) := by omega
            have hpx : (nl (cur.take (j + 1) ++ List.replicate (k - (j + 1)) 0))[j]? = some (x : Int) := by
              unfold nl
              rw [List.getElem?_map, List.getElem?_append_left (by rw [List.length_take]; omega), List.getElem?_take]
              simp [hx]
            have c3 : wr.cell? ⟨w1.heap.size, j, none⟩ = some (.int .i64 (x : Nat)) := by rw [HP3.out.cellAt j (by omega)]; exact ints_get hpx
            have c3f : wr.frozen? ⟨w1.heap.size, j, none⟩ = false := HP3.out.frozenAt j
            have hwj : IntKind.i64.wrap ((j : Int) - 1) = (j : Int) - 1 := IntWalk.i64_in _ ⟨by omega, by omega⟩
            have hwx : IntKind.i64.wrap ((x : Int) + 1) = (x : Int) + 1 := IntWalk.i64_in _ ⟨by omega, by omega⟩
            by_cases hxe : x = t
            · have hxb : ((x : Int) == (t : Int)) = true := by simp [hxe]
              have HST := Lib.hid (HP3.out.stored j (.int .i64 (0 : Nat)))
              rw [nl_set, take_zero hcl (by omega) (by rw [hx, hxe])] at HST
              have HDD : Hid (∀ y ∈ cur.drop j, y = t) := Lib.hid (fun y hy => by
                rw [← List.getElem_cons_drop (show j < cur.length by omega)] at hy
                rcases List.mem_cons.1 hy with rfl | hy
                · rw [List.getElem?_eq_getElem (show j < cur.length by omega)] at hx; rw [Option.some.inj hx]; exact hxe
                · exact HD.out y hy)
              clear hpx hx
              go_wp2_with fail
              go_roundw
              case rel => exact ⟨j, by omega, by go_num, HDD, Lib.hid HST.out.1, Lib.hid (HB3.out.store HST.out.2), hb13.setCell (p := ⟨w1.heap.size, j, none⟩) (Nat.le_refl _) _⟩
              case measure => simp [intOf]
            · have hxb : ((x : Int) == (t : Int)) = false := by simp; omega
              have hON := odo hcl (show j < k by omega) HD.out hx (by omega)
              have hfn := hFN.out
              rw [hON] at hfn
              simp only at hfn
              have HFN := Lib.hid hfn
              have HST := Lib.hid (HP3.out.stored j (.int .i64 ((x + 1 : Nat) : Int)))
              rw [nl_set] at HST
              have hxc : (((x + 1 : Nat)) : Int) = (x : Int) + 1 := by omega
              rw [hxc] at HST
              have HLN := Lib.hid (leftN_next hON)
              have HMB := Lib.hid (after_mem t cur hct _ hON)
              have HLC := Lib.hid (oNext_length t cur _ hON)
              generalize (cur.take (j + 1) ++ List.replicate (k - (j + 1)) 0).set j (x + 1) = cur2 at *
              have hcl2 : cur2.length = k := by rw [HLC.out, hcl]
              have HPC2 := Lib.hid (curOf_eq HST.out.1 hcl2)
              clear hpx hx hON hfn
              go_wp2_with fail
              go_roundw
              case rel => exact ⟨cur2, b', hcl2, HMB.out, Lib.hid HST.out.1, Lib.hid (HB3.out.store HST.out.2), HQN, HFN, hb13.setCell (p := ⟨w1.heap.size, j, none⟩) (Nat.le_refl _) _⟩
              case measure => rw [HPC.out, HPC2.out, HLN.out]; omega

end Go.Proofs.Ytnaoanmkepcinaa

/- Heat: Peak in both texts. -/
import Derived.Test.YtnaoanmkepcinaaHPeak
namespace Go.Proofs.Ytnaoanmkepcinaa
open Go.RowKit

set_option maxRecDepth 100000 in
theorem peakC (l : List (Int × Int)) (a : Option Addr) (n cap B : Nat) (w : World) (hn : 1 ≤ n ∧ n ≤ 1000) (h1 : w.cell? ⟨B, 0, none⟩ = some (.slice a n cap)) :
    PredP 52 #[.pointer (some ⟨B, 0, none⟩)] l (fun j => !okS n (l.getD j (0, 0))) w := fun W j x hx hb => by
  have g1 := cell_below h1 hb
  obtain rfl : l.getD j (0, 0) = x := by rw [List.getD_eq_getElem?_getD, hx]; rfl
  show Calls Try.prog 52 #[.agg #[.int .i64 (l.getD j (0, 0)).1, .int .i64 (l.getD j (0, 0)).2], .pointer (some ⟨B, 0, none⟩)] W fun e w' => e = .returned (.bool (!okS n (l.getD j (0, 0)))) ∧ Below W.heap.size W w'
  generalize l.getD j (0, 0) = y
  obtain ⟨s, d⟩ := y
  have HE : Hid ((!okS n (s, d)) = (!inB 0 s (n - 1) || !inB 0 d 1000)) := Lib.hid (by unfold okS; cases inB 0 s (n - 1) <;> rfl)
  show Calls Try.prog 52 #[.agg #[.int .i64 s, .int .i64 d], .pointer (some ⟨B, 0, none⟩)] W fun e w' => e = .returned (.bool (!okS n (s, d))) ∧ Below W.heap.size W w'
  have HB := Lib.hid (fun W' => between_any 0 s (n - 1) W')
  have HB2 := Lib.hid (fun W' => between_any 0 d 1000 W')
  generalize (!okS n (s, d)) = t at *
  have hlt : B < W.heap.size := World.block_lt_of_cell? _ _ g1
  clear hx hb h1
  cases h1 : inB 0 s (n - 1) with
  | false =>
    rw [h1] at HB HE
    go_enter Try.func52, Try.ntmps52
    go_wp2_with (first | (go_at_call 53; (with_reducible refine (HB.out _).mono ?_); rintro e w' ⟨rfl, rfl⟩))
    go_ret
    exact ⟨by rw [HE.out]; rfl, (Below.refl _ _).alloc (Nat.le_refl _) _⟩
  | true =>
    rw [h1] at HB HE
    go_enter Try.func52, Try.ntmps52
    go_wp2_with (first | (go_at_call 53; (with_reducible refine (HB.out _).mono ?_); rintro e w' ⟨rfl, rfl⟩) | (go_at_call 53; (with_reducible refine (HB2.out _).mono ?_); rintro e w' ⟨rfl, rfl⟩))
    go_ret
    exact ⟨by rw [HE.out]; rfl, (Below.refl _ _).alloc (Nat.le_refl _) _⟩
theorem any_not_okS (n : Nat) (l : List (Int × Int)) : (List.range l.length).any (fun j => !okS n (l.getD j (0, 0))) = !l.all (okS n) := by
  rw [Bool.eq_iff_iff]
  simp only [List.any_eq_true, List.mem_range, Bool.not_eq_true', List.all_eq_false]
  constructor
  · rintro ⟨j, hj, h⟩
    exact ⟨l.getD j (0, 0), by rw [List.getD_eq_getElem?_getD, List.getElem?_eq_getElem hj]; exact List.getElem_mem hj, by rw [h]; decide⟩
  · rintro ⟨x, hx, h⟩
    obtain ⟨j, hj, rfl⟩ := List.mem_iff_getElem.1 hx
    refine ⟨j, hj, ?_⟩
    rw [List.getD_eq_getElem?_getD, List.getElem?_eq_getElem hj]
    simpa using h

theorem ints_set (l : List Int) (i : Nat) (x : Int) : (ints l).set i (.int .i64 x) = ints (l.set i x) := by simp [ints]

set_option maxRecDepth 100000 in
set_option maxHeartbeats 2000000 in
theorem Peak_any (v sv : Value) (l : List Int) (st : List (Int × Int)) (w : World) (hv : Rd w v (ints l)) (hsv : RdP w sv st) (hn : l.length ≤ 1000) (hsn : st.length ≤ 1000) :
    Calls Try.prog 18 #[v, sv] w fun e w' => e = .returned (.tuple #[.int .i64 (pkV l st), .int .i64 (pkE l st)]) ∧ Below w.heap.size w w' := by
  have eg : ∀ args w, (callFunc 52 args).run Try.prog w = .ok (.enter 52 args) w := enters_of Try.func52 (by kernel_rfl) rfl
  have HV := Lib.hid hv
  have HSV := Lib.hid hsv
  have HE : Hid (pkE l st = if drv l && decide (st.length ≤ 100) && st.all (okS l.length) then 0 else 2) := Lib.hid rfl
  have HP : Hid (pkV l st = if pkE l st = 0 then pk l st st.length else 0) := Lib.hid rfl
  have HDR := Lib.hid (fun W hb => drivers_any v l W (HV.out.below (w' := W) (B := w.heap.size) hb (Nat.le_refl _)) (by omega))
  obtain ⟨a, cap, rfl, hc, hcm, ha, _⟩ := hv
  obtain ⟨a2, cap2, rfl, hc2, hcm2, ha2, _⟩ := hsv
  unfold maxLen at hcm2
  rw [ints_length] at *
  have hb0 : Hid (Below w.heap.size w (w.alloc (.cells #[.slice a l.length cap] 28))) := Lib.hid ((Below.refl _ _).alloc (Nat.le_refl _) _)
  have hcB : Hid ((w.alloc (.cells #[.slice a l.length cap] 28)).cell? ⟨w.heap.size, 0, none⟩ = some (.slice a l.length cap)) := Lib.hid (World.cell?_alloc_at _ _ _ _ rfl)
  generalize hE : pkE l st = E at *
  generalize hP : pkV l st = PV at *
  clear hE hP
  cases h1 : drv l with
  | false =>
    rw [h1] at HDR HE
    simp only [Bool.false_and, Bool.false_eq_true, if_false] at HE
    obtain rfl := HE.out
    rw [if_neg (by decide)] at HP
    obtain rfl := HP.out
    clear h1 ha ha2
    go_enter Try.func18, Try.ntmps18
    go_wp2_with (first | (go_at_call 50; refine (HDR.out _ hb0.out).mono ?_; rintro e w1 ⟨rfl, hb1⟩))
    go_ret2
    exact ⟨rfl, hb0.out.trans (hb1.mono hb0.out.size)⟩
  | true =>
    rw [h1] at HDR HE
    obtain ⟨d1, d2, d3⟩ := drv_bd h1
    by_cases h2 : st.length ≤ 100
    · rw [decide_eq_true h2] at HE
      simp only [Bool.true_and] at HE
      have HC := Lib.hid (fun W hb hcc => has_stp _ 52 _ eg st _ W (peakC st a l.length cap w.heap.size W (by omega) hcc) (HSV.out.below (w' := W) hb) (by omega) (!st.all (okS l.length)) (any_not_okS l.length st))
      cases h3 : st.all (okS l.length) with
      | false =>
        rw [h3] at HC HE
        simp only [Bool.false_eq_true, if_false] at HE
        obtain rfl := HE.out
        rw [if_neg (by decide)] at HP
        obtain rfl := HP.out
        clear h1 h3 ha ha2 d3
        go_enter Try.func18, Try.ntmps18
        go_wp2_with (first
          | (go_at_call 50; refine (HDR.out _ hb0.out).mono ?_; rintro e w1 ⟨rfl, hb1⟩; have hb01 := hb0.out.trans (hb1.mono hb0.out.size); have c1 := cell_below hcB.out hb1)
          | (go_at_call 51; refine (HC.out _ hb01 c1).mono ?_; rintro e w2 ⟨rfl, hb2⟩))
        go_ret2
        exact ⟨rfl, hb01.trans (hb2.mono hb01.size)⟩
      | true =>
        rw [h3] at HC HE
        simp only [if_true] at HE
        obtain rfl := HE.out
        rw [if_pos rfl] at HP
        obtain rfl := HP.out
        have h4 : ∀ s ∈ st, okS l.length s = true := List.all_eq_true.1 h3
        have HST := Lib.hid h4
        have HCL := Lib.hid (fun W hb => clone_any _ l W (HV.out.below (w' := W) (B := w.heap.size) hb (Nat.le_refl _)) (by omega) (by omega))
        have HNB := Lib.hid (fun k => nw_bd d3 h4 k)
        have HNL := Lib.hid (fun k => nw_len l st k)
        have HNS := Lib.hid (fun k x (h : st[k]? = some x) => nw_succ l st k x h)
        have HN0 : Hid (nw l st 0 = l) := Lib.hid rfl
        have HP0 : Hid (pk l st 0 = l.sum) := Lib.hid rfl
        have HPS : Hid (∀ k, pk l st (k + 1) = max (pk l st k) (nw l st (k + 1)).sum) := Lib.hid fun k => rfl
        have HLS := Lib.hid d3
        clear h1 h3 h4 d3 ha
        go_enter Try.func18, Try.ntmps18
        go_wp2_with (first
          | (go_at_call 50; refine (HDR.out _ hb0.out).mono ?_; rintro e w1 ⟨rfl, hb1⟩; have hb01 := hb0.out.trans (hb1.mono hb0.out.size); have c1 := cell_below hcB.out hb1)
          | (go_at_call 51; refine (HC.out _ hb01 c1).mono ?_; rintro e w2 ⟨rfl, hb2⟩; have hb02 := hb01.trans (hb2.mono hb01.size); have c2 := cell_below c1 hb2)
          | (go_at_call 54; refine (HCL.out _ hb02).mono ?_; rintro e w3 ⟨u3, rfl, hu3, hb3⟩; obtain ⟨g, c3, rfl, hg, _⟩ := own_some hu3 (by omega); have hb03 := hb02.trans (hb3.mono hb02.size))
          | (go_at_call 55; refine (total_any _ l _ (Rd.own hu3) (by omega) (fun x hx => by have := HLS.out x hx; omega)).mono ?_; rintro e w' ⟨rfl, rfl⟩))
        have hgB : w.heap.size ≤ g := Nat.le_trans hb02.size hg
        go_loopw [7, 29] (fun p i wr => ∃ k : Nat, k ≤ st.length ∧ i = .int .i64 k ∧ p = .int .i64 (pk l st k) ∧ Hid (wr.ownsRow w.heap.size 3 1 (.slice (some ⟨g, 0, none⟩) l.length c3) l.length (ints (nw l st k))) ∧ Below w.heap.size w wr) (fun _ i _ => st.length - (intOf i).toNat)
        case atStart => exact ⟨0, Nat.zero_le _, rfl, by rw [HP0.out], Lib.hid (own_le hu3 hb02.size), hb03⟩
        case round =>
          obtain ⟨k, hk, rfl, rfl, HO, hbel⟩ := hrel
          by_cases hlt : k < st.length
          · obtain ⟨x, hx⟩ : ∃ x, st[k]? = some x := ⟨_, List.getElem?_eq_getElem hlt⟩
            obtain ⟨b, off, rfl, e1, e2⟩ := RdP.cell (ha2.below hbel (Nat.le_refl _)) hx
            have HNS1 := Lib.hid (HNS.out k x hx)
            have HPS1 := Lib.hid (HPS.out k)
            obtain ⟨⟨s1, s2⟩, s3, s4⟩ := okS_bd (HST.out x (List.mem_of_getElem? hx))
            obtain ⟨s, y⟩ := x
            obtain ⟨i, rfl⟩ : ∃ i : Nat, s = i := ⟨s.toNat, by simp only at s1; omega⟩
            simp only [Int.toNat_natCast] at HNS1
            have hil : i < l.length := by simp only at s2; omega
            have HLN := HNL.out k
            obtain ⟨z, hz⟩ : ∃ z, (nw l st k)[i]? = some z := ⟨_, List.getElem?_eq_getElem (by omega)⟩
            have d1 : wr.cell? ⟨g, i, none⟩ = some (.int .i64 z) := by rw [HO.out.cellAt i (by omega)]; exact ints_get hz
            have d2 : wr.frozen? ⟨g, i, none⟩ = false := HO.out.frozenAt i
            have hgl : g < wr.heap.size := World.block_lt_of_cell? _ _ d1
            have HO2 := Lib.hid ((HO.out.stored i (.int .i64 y)).1.alloc (.cells #[.int .i64 i, .int .i64 y] 36))
            rw [ints_set, ← HNS1.out] at HO2
            have HBL := Lib.hid ((hbel.setCell (p := ⟨g, i, none⟩) hgB (.int .i64 y)).alloc (by simpa using hbel.size) (.cells #[.int .i64 i, .int .i64 y] 36))
            have HTT := Lib.hid (total_any _ (nw l st (k + 1)) _ (Rd.own HO2.out) (by rw [HNL.out]; omega) (fun x hx => by have := HNB.out (k + 1) x hx; omega))
            clear hx ha2 hz HLN
            go_wp2_with (first
              | (go_at_call 55; refine HTT.out.mono ?_; rintro e w' ⟨rfl, rfl⟩))
            go_roundw
            case rel => exact ⟨k + 1, by omega, by go_num, by rw [HPS1.out], HO2, HBL.out⟩
            case measure => simp [intOf]; omega
          · obtain rfl : k = st.length := by omega
            clear ha2
            go_wp2_with fail
            go_ret2
            exact ⟨rfl, hbel⟩
    · rw [decide_eq_false h2, Bool.and_false, Bool.false_and, if_neg (by decide)] at HE
      obtain rfl := HE.out
      rw [if_neg (by decide)] at HP
      obtain rfl := HP.out
      clear h1 ha ha2 d3
      go_enter Try.func18, Try.ntmps18
      go_wp2_with (first | (go_at_call 50; refine (HDR.out _ hb0.out).mono ?_; rintro e w1 ⟨rfl, hb1⟩))
      go_ret2
      exact ⟨rfl, hb0.out.trans (hb1.mono hb0.out.size)⟩

end Go.Proofs.Ytnaoanmkepcinaa

/- Heat: Bound, Dominant, Talk with their errors, in both texts. -/
import Derived.Test.YtnaoanmkepcinaaHBanks2
import Derived.BigQuiet
namespace Go.Proofs.Ytnaoanmkepcinaa
open Go.RowKit

theorem Bound_no (v : Value) (m : List (List Int)) (w : World) (hv : RdM w v m) (hq : vB m = false) (hl : m.length ≤ 10) (hw : ∀ r ∈ m, r.length ≤ 10) :
    Calls Try.prog 39 #[.agg #[v]] w fun e w' => e = .returned (.tuple #[.slice none 0 0, .int .i64 60]) ∧ Below w.heap.size w w' := by
  have HV := Lib.hid hv
  obtain ⟨vs, ⟨a, cap, rfl, hc, hcm, ha, _⟩, hr⟩ := hv
  rw [hr.1] at hc HV ⊢
  have hcall := Lib.hid (fun W hb => opened_any _ m W (HV.out.below (w' := W) hb) hl hw)
  rw [hq] at hcall
  simp only [Bool.false_eq_true, if_false] at hcall
  clear hq hw hr ha
  generalize m.length = N at *
  have hb0 : Hid (Below w.heap.size w (w.alloc (.cells #[.slice a N cap] 24))) := Lib.hid ((Below.refl _ _).alloc (Nat.le_refl _) _)
  go_enter Try.func39, Try.ntmps39
  go_wp2_with (first
    | (go_at_call 48; refine (hcall.out _ hb0.out).mono ?_; rintro e w1 ⟨rfl, hb1⟩; have hb01 := hb0.out.trans (hb1.mono hb0.out.size)))
  go_ret2
  exact ⟨rfl, hb01.alloc hb01.size _⟩

theorem Dominant_no (v : Value) (m : List (List Int)) (w : World) (hv : RdM w v m) (hq : vB m = false) (hl : m.length ≤ 10) (hw : ∀ r ∈ m, r.length ≤ 10) :
    Calls Try.prog 35 #[.agg #[v]] w fun e w' => e = .returned (.tuple #[.bool false, .int .i64 60]) ∧ Below w.heap.size w w' := by
  have HV := Lib.hid hv
  obtain ⟨vs, ⟨a, cap, rfl, hc, hcm, ha, _⟩, hr⟩ := hv
  rw [hr.1] at hc HV ⊢
  have hcall := Lib.hid (fun W hb => opened_any _ m W (HV.out.below (w' := W) hb) hl hw)
  rw [hq] at hcall
  simp only [Bool.false_eq_true, if_false] at hcall
  clear hq hw hr ha
  generalize m.length = N at *
  have hb0 : Hid (Below w.heap.size w (w.alloc (.cells #[.slice a N cap] 24))) := Lib.hid ((Below.refl _ _).alloc (Nat.le_refl _) _)
  go_enter Try.func35, Try.ntmps35
  go_wp2_with (first
    | (go_at_call 48; refine (hcall.out _ hb0.out).mono ?_; rintro e w1 ⟨rfl, hb1⟩; have hb01 := hb0.out.trans (hb1.mono hb0.out.size)))
  go_ret2
  exact ⟨rfl, hb01.alloc hb01.size _⟩

theorem Talk_no (v : Value) (m : List (List Int)) (w : World) (hv : RdM w v m) (hq : vB m = false) (hl : m.length ≤ 10) (hw : ∀ r ∈ m, r.length ≤ 10) :
    Calls Try.prog 37 #[.agg #[v]] w fun e w' => e = .returned (.tuple #[.int .i64 0, .int .i64 60]) ∧ Below w.heap.size w w' := by
  have HV := Lib.hid hv
  obtain ⟨vs, ⟨a, cap, rfl, hc, hcm, ha, _⟩, hr⟩ := hv
  rw [hr.1] at hc HV ⊢
  have hcall := Lib.hid (fun W hb => opened_any _ m W (HV.out.below (w' := W) hb) hl hw)
  rw [hq] at hcall
  simp only [Bool.false_eq_true, if_false] at hcall
  clear hq hw hr ha
  generalize m.length = N at *
  have hb0 : Hid (Below w.heap.size w (w.alloc (.cells #[.slice a N cap] 24))) := Lib.hid ((Below.refl _ _).alloc (Nat.le_refl _) _)
  go_enter Try.func37, Try.ntmps37
  go_wp2_with (first
    | (go_at_call 48; refine (hcall.out _ hb0.out).mono ?_; rintro e w1 ⟨rfl, hb1⟩; have hb01 := hb0.out.trans (hb1.mono hb0.out.size)))
  go_ret2
  exact ⟨rfl, hb01.alloc hb01.size _⟩

theorem refBound_no (v : Value) (m : List (List Int)) (w : World) (hv : RdM w v m) (hq : vB m = false) (hw : ∀ r ∈ m, r.length ≤ 10) :
    Calls Try.prog 40 #[.agg #[v]] w fun e w' => e = .returned (.tuple #[.slice none 0 0, .int .i64 60]) ∧ Below w.heap.size w w' := by
  have HV := Lib.hid hv
  obtain ⟨vs, ⟨a, cap, rfl, hc, hcm, ha, _⟩, hr⟩ := hv
  rw [hr.1] at hc HV ⊢
  have hcall := Lib.hid (fun W hb => refValid_any _ m W (HV.out.below (w' := W) hb) hw)
  rw [hq] at hcall
  clear hq hw hr ha
  generalize m.length = N at *
  have hb0 : Hid (Below w.heap.size w (w.alloc (.cells #[.slice a N cap] 24))) := Lib.hid ((Below.refl _ _).alloc (Nat.le_refl _) _)
  go_enter Try.func40, Try.ntmps40
  go_wp2_with (first
    | (go_at_call 15; refine (hcall.out _ hb0.out).mono ?_; rintro e w1 ⟨rfl, hb1⟩; have hb01 := hb0.out.trans (hb1.mono hb0.out.size)))
  go_ret2
  exact ⟨rfl, hb01⟩

theorem refTalk_no (v : Value) (m : List (List Int)) (w : World) (hv : RdM w v m) (hq : vB m = false) (hw : ∀ r ∈ m, r.length ≤ 10) :
    Calls Try.prog 38 #[.agg #[v]] w fun e w' => e = .returned (.tuple #[.int .i64 0, .int .i64 60]) ∧ Below w.heap.size w w' := by
  have HV := Lib.hid hv
  obtain ⟨vs, ⟨a, cap, rfl, hc, hcm, ha, _⟩, hr⟩ := hv
  rw [hr.1] at hc HV ⊢
  have hcall := Lib.hid (fun W hb => refValid_any _ m W (HV.out.below (w' := W) hb) hw)
  rw [hq] at hcall
  clear hq hw hr ha
  generalize m.length = N at *
  have hb0 : Hid (Below w.heap.size w (w.alloc (.cells #[.slice a N cap] 24))) := Lib.hid ((Below.refl _ _).alloc (Nat.le_refl _) _)
  go_enter Try.func38, Try.ntmps38
  go_wp2_with (first
    | (go_at_call 15; refine (hcall.out _ hb0.out).mono ?_; rintro e w1 ⟨rfl, hb1⟩; have hb01 := hb0.out.trans (hb1.mono hb0.out.size)))
  go_ret2
  exact ⟨rfl, hb01⟩

theorem Bound_any (v : Value) (m : List (List Int)) (w : World) (hv : RdM w v m) (hl : m.length ≤ 10) (hw : ∀ r ∈ m, r.length ≤ 10) :
    Calls Try.prog 39 #[.agg #[v]] w fun e w' => ∃ u, e = .returned (.tuple #[u, .int .i64 (heatE m)]) ∧ w'.ownsRow w.heap.size 3 1 u (bndL m).length (ints (bndL m)) ∧ Below w.heap.size w w' := by
  cases hq : vB m with
  | true =>
    have h2 : heatE m = 0 := by simp [heatE, hq]
    have h3 : bndL m = bnd m m.length := by simp [bndL, hq]
    have h4 : (bnd m m.length).length = m.length := by simp [bnd]
    rw [h2, h3, h4]
    exact Bound_ok v m w hv hq
  | false =>
    have h2 : heatE m = 60 := by simp [heatE, hq]
    have h3 : bndL m = [] := by simp [bndL, hq]
    rw [h2, h3]
    refine (Bound_no v m w hv hq hl hw).mono ?_
    rintro e w' ⟨rfl, hb⟩
    exact ⟨_, rfl, World.ownsRow_nil _ _ _ _, hb⟩

theorem refBound_any (v : Value) (m : List (List Int)) (w : World) (hv : RdM w v m) (hw : ∀ r ∈ m, r.length ≤ 10) :
    Calls Try.prog 40 #[.agg #[v]] w fun e w' => ∃ u, e = .returned (.tuple #[u, .int .i64 (heatE m)]) ∧ w'.ownsRow w.heap.size 3 1 u (bndL m).length (ints (bndL m)) ∧ Below w.heap.size w w' := by
  cases hq : vB m with
  | true =>
    have h2 : heatE m = 0 := by simp [heatE, hq]
    have h3 : bndL m = bnd m m.length := by simp [bndL, hq]
    have h4 : (bnd m m.length).length = m.length := by simp [bnd]
    rw [h2, h3, h4]
    exact refBound_ok v m w hv hq
  | false =>
    have h2 : heatE m = 60 := by simp [heatE, hq]
    have h3 : bndL m = [] := by simp [bndL, hq]
    rw [h2, h3]
    refine (refBound_no v m w hv hq hw).mono ?_
    rintro e w' ⟨rfl, hb⟩
    exact ⟨_, rfl, World.ownsRow_nil _ _ _ _, hb⟩

theorem Talk_any (v : Value) (m : List (List Int)) (w : World) (hv : RdM w v m) (hl : m.length ≤ 10) (hw : ∀ r ∈ m, r.length ≤ 10) :
    Calls Try.prog 37 #[.agg #[v]] w fun e w' => e = .returned (.tuple #[.int .i64 (tkV m), .int .i64 (heatE m)]) ∧ Below w.heap.size w w' := by
  cases hq : vB m with
  | true =>
    have h2 : heatE m = 0 := by simp [heatE, hq]
    have h3 : tkV m = tkO m m.length := by simp [tkV, hq]
    rw [h2, h3]
    exact Talk_ok v m w hv hq
  | false =>
    have h2 : heatE m = 60 := by simp [heatE, hq]
    have h3 : tkV m = 0 := by simp [tkV, hq]
    rw [h2, h3]
    exact Talk_no v m w hv hq hl hw

theorem refTalk_any (v : Value) (m : List (List Int)) (w : World) (hv : RdM w v m) (hw : ∀ r ∈ m, r.length ≤ 10) :
    Calls Try.prog 38 #[.agg #[v]] w fun e w' => e = .returned (.tuple #[.int .i64 (tkV m), .int .i64 (heatE m)]) ∧ Below w.heap.size w w' := by
  cases hq : vB m with
  | true =>
    have h2 : heatE m = 0 := by simp [heatE, hq]
    have h3 : tkV m = tkO m m.length := by simp [tkV, hq]
    rw [h2, h3]
    exact refTalk_ok v m w hv hq
  | false =>
    have h2 : heatE m = 60 := by simp [heatE, hq]
    have h3 : tkV m = 0 := by simp [tkV, hq]
    rw [h2, h3]
    exact refTalk_no v m w hv hq hw

theorem Dominant_any (v : Value) (m : List (List Int)) (w : World) (hv : RdM w v m) (hl : m.length ≤ 10) (hw : ∀ r ∈ m, r.length ≤ 10) :
    Calls Try.prog 35 #[.agg #[v]] w fun e w' => e = .returned (.tuple #[.bool (dmV m), .int .i64 (heatE m)]) ∧ Below w.heap.size w w' := by
  cases hq : vB m with
  | true =>
    have h2 : heatE m = 0 := by simp [heatE, hq]
    have h3 : dmV m = dmB m m.length := by simp [dmV, hq]
    rw [h2, h3]
    exact Dominant_ok v m w hv hq
  | false =>
    have h2 : heatE m = 60 := by simp [heatE, hq]
    have h3 : dmV m = false := by simp [dmV, hq]
    rw [h2, h3]
    exact Dominant_no v m w hv hq hl hw

theorem bndL_get {m : List (List Int)} (hq : vB m = true) {k : Nat} (hk : k < m.length) : (bndL m)[k]? = some (rst (m.getD k []) (-1) m.length) := by
  unfold bndL bnd
  rw [if_pos hq, List.take_length, List.getElem?_map, List.getElem?_eq_getElem hk, List.getD_eq_getElem?_getD, List.getElem?_eq_getElem hk]
  rfl
theorem bndL_len {m : List (List Int)} (hq : vB m = true) : (bndL m).length = m.length := by
  unfold bndL bnd; rw [if_pos hq, List.take_length, List.length_map]

set_option maxRecDepth 100000 in
set_option maxHeartbeats 2000000 in
theorem refDominant_any (v : Value) (m : List (List Int)) (w : World) (hv : RdM w v m) (hw : ∀ r ∈ m, r.length ≤ 10) :
    Calls Try.prog 36 #[.agg #[v]] w fun e w' => e = .returned (.tuple #[.bool (dmV m), .int .i64 (heatE m)]) ∧ Below w.heap.size w w' := by
  have HV := Lib.hid hv
  obtain ⟨vs, ⟨a, cap, rfl, hc, hcm, ha, _⟩, hr⟩ := hv
  rw [hr.1] at hc HV ⊢
  have hE := hr.1
  have HR := Lib.hid hr
  have hcall := Lib.hid (fun W hb => refBound_any _ m W (HV.out.below (w' := W) hb) hw)
  have hb0 : Hid (Below w.heap.size w (w.alloc (.cells #[.slice a m.length cap] 24))) := Lib.hid ((Below.refl _ _).alloc (Nat.le_refl _) _)
  have hcB : Hid ((w.alloc (.cells #[.slice a m.length cap] 24)).cell? ⟨w.heap.size, 0, none⟩ = some (.slice a m.length cap)) := Lib.hid (World.cell?_alloc_at _ _ _ _ rfl)
  cases hq : vB m with
  | false =>
    have h2 : heatE m = 60 := by simp [heatE, hq]
    have h3 : bndL m = [] := by simp [bndL, hq]
    have h4 : dmV m = false := by simp [dmV, hq]
    rw [h2, h3] at hcall
    rw [h2, h4]
    clear hq h2 h3 h4 hw hr hE ha
    generalize m.length = N at *
    go_enter Try.func36, Try.ntmps36
    go_wp2_with (first
      | (go_at_call 40; refine (hcall.out _ hb0.out).mono ?_; rintro e w1 ⟨u1, rfl, hu1, hb1⟩; obtain ⟨a3, c3, rfl⟩ := own_form hu1; have hb01 := hb0.out.trans (hb1.mono hb0.out.size)))
    go_loop [6] (fun i => i = .int .i64 0) (fun _ => 0)
    case atStart => rfl
    case round =>
      obtain rfl := hrel
      go_wp2_with fail
      go_ret2
      exact ⟨rfl, hb01⟩
  | true =>
    obtain ⟨d1, d2, d3⟩ := vB_bd hq
    have h2 : heatE m = 0 := by simp [heatE, hq]
    have h4 : dmV m = dmB m m.length := by simp [dmV, hq]
    have HG := Lib.hid (fun k hk => @bndL_get m hq k hk)
    have HLL := Lib.hid (bndL_len hq)
    have HGM : Hid (∀ j, j < m.length → ∃ r, m[j]? = some r ∧ m.getD j [] = r ∧ r.length = m.length ∧ ∀ x ∈ r, -200 ≤ x ∧ x ≤ 200) := Lib.hid fun j hj =>
      ⟨_, List.getElem?_eq_getElem hj, by rw [List.getD_eq_getElem?_getD, List.getElem?_eq_getElem hj]; rfl, (d3 _ (List.getElem_mem hj)).1, (d3 _ (List.getElem_mem hj)).2⟩
    have HH := Lib.hid (fun k hk => @dm_hit m k hk)
    have HAL := Lib.hid (@dm_all m)
    have HAT : Hid (∀ i r x, m[i]? = some r → r[i]? = some x → at2 m i i = x) := Lib.hid fun i r x h h' => at2_get h h'
    rw [h2] at hcall
    rw [h2, h4]
    rw [HLL.out] at hcall
    clear hq h2 h4 hw hr d3
    generalize hN : m.length = N at *
    have HN := Lib.hid hN
    clear hN
    go_enter Try.func36, Try.ntmps36
    go_wp2_with (first
      | (go_at_call 40; refine (hcall.out _ hb0.out).mono ?_; rintro e w1 ⟨u1, rfl, hu1, hb1⟩; obtain ⟨g3, c3, rfl, _, _⟩ := own_some hu1 (by omega); have hbW := hb0.out.trans (hb1.mono hb0.out.size); have cB := cell_below hcB.out hb1; have HU := Lib.hid hu1))
    clear hu1
    go_loopw [6] (fun i wr => ∃ k : Nat, k ≤ N ∧ i = .int .i64 k ∧ Hid (∀ i, i < k → rst (m.getD i []) i N < ((at2 m i i).natAbs : Nat)) ∧ Below w1.heap.size w1 wr) (fun i _ => N - (intOf i).toNat)
    case atStart => exact ⟨0, Nat.zero_le _, rfl, Lib.hid (fun i h => absurd h (Nat.not_lt_zero _)), Below.refl _ _⟩
    case round =>
      obtain ⟨k, hk, rfl, HAK, hbel1⟩ := hrel
      have hbel := hbW.trans (hbel1.mono hbW.size)
      have cBr := cell_below cB hbel1
      by_cases hlt : k < N
      · obtain ⟨r, hrr, hgr, hrl, hrb⟩ := HGM.out k hlt
        obtain ⟨b, off, rfl, hcell⟩ := (ha.below hbel (Nat.le_refl _)).cell (j := k) (by rw [hE]; exact hlt)
        obtain ⟨rv, hrv⟩ : ∃ rv, vs[k]? = some rv := ⟨_, List.getElem?_eq_getElem (by rw [hE]; exact hlt)⟩
        have c5 := hcell k _ hrv
        obtain ⟨a1, cap1, rfl, hc1, hcm1, ha1, _⟩ := HR.out.2 k rv r hrv hrr
        rw [ints_length, hrl] at hc1 c5
        obtain ⟨b3, off3, rfl, hcell3⟩ := (ha1.below hbel (Nat.le_refl _)).cell (j := k) (by rw [ints_length, hrl]; exact hlt)
        obtain ⟨y, hy⟩ : ∃ y, r[k]? = some y := ⟨_, List.getElem?_eq_getElem (by rw [hrl]; exact hlt)⟩
        have c7 := hcell3 k _ (ints_get hy)
        have hyb := hrb y (List.mem_of_getElem? hy)
        have hgy : r.getD k 0 = y := by rw [List.getD_eq_getElem?_getD, hy]; rfl
        have hyz : ((y.natAbs : Nat) : Int) ≤ 200 := by omega
        have hyp : 0 ≤ ((y.natAbs : Nat) : Int) := by omega
        have hgk := HG.out k hlt
        rw [hgr, rst_skip r k N, if_pos hlt, hgy] at hgk
        have c8 : wr.cell? ⟨g3, k, none⟩ = some (.int .i64 (rst r k N + ((y.natAbs : Nat) : Int))) := by
          rw [(own_below HU.out hbel1).cellAt k (by omega)]; exact ints_get hgk
        have HH1 := Lib.hid (HH.out k hlt)
        have HT : Hid (rst r k N < ((y.natAbs : Nat) : Int) → ∀ i, i < k + 1 → rst (m.getD i []) i N < ((at2 m i i).natAbs : Nat)) := Lib.hid fun h i hi => by
          by_cases e : i = k
          · subst e; rw [hgr, HAT.out i r y hrr hy]; exact h
          · exact HAK.out i (by omega)
        rw [hgr, HAT.out k r y hrr hy] at HH1
        have hrs := rst_bd hrb k N (by omega)
        have HZ : Hid (∀ W, Calls Try.prog 74 #[.int .i64 y] W fun e w' => e = .returned (.int .i64 ((y.natAbs : Nat) : Int)) ∧ w' = W) := Lib.hid fun W => (abs_any y W (by omega)).mono fun _ _ ⟨h1, h2⟩ => ⟨h1, h2.symm⟩
        generalize ((y.natAbs : Nat) : Int) = z at *
        generalize rst r k N = q at *
        clear hcell hcell3 hrr hgr hrb hrv hrl ha ha1 hy hgy hgk
        have hwz : IntKind.i64.wrap (2 * z) = 2 * z := IntWalk.i64_in _ ⟨by omega, by omega⟩
        by_cases hq : q < z
        · have HT1 := Lib.hid (HT.out hq)
          have htest : decide (2 * z ≤ q + z) = false := decide_eq_false (by omega)
          go_wp2_with fail
          go_quiet (first | (go_at_call 74; refine Calls.quiet_of_same (HZ.out _)))
          go_wp2_with fail
          go_roundw
          case rel => exact ⟨k + 1, by omega, by go_num, HT1, bel_drewN hbel1 _⟩
          case measure => simp [intOf]; omega
        · have HT1 := Lib.hid (HH1.out (by omega))
          have htest : decide (2 * z ≤ q + z) = true := decide_eq_true (by omega)
          go_wp2_with fail
          go_quiet (first | (go_at_call 74; refine Calls.quiet_of_same (HZ.out _)))
          go_wp2_with fail
          go_ret2
          exact ⟨by rw [HT1.out]; rfl, bel_drewN hbel _⟩
      · obtain rfl : k = N := by omega
        have HT1 := Lib.hid (HAL.out (fun i hi => HAK.out i hi))
        clear ha
        go_wp2_with fail
        go_ret2
        exact ⟨by rw [HT1.out]; rfl, hbel⟩

end Go.Proofs.Ytnaoanmkepcinaa

/- Heat: Cheapest in both texts: its errors, and the whole. -/
import Derived.Test.YtnaoanmkepcinaaHCr
namespace Go.Proofs.Ytnaoanmkepcinaa
open Go.RowKit

def chE (m : List (List Int)) (want : List Int) (s t : Int) : Int :=
  if vB m then (if lstB want m.length (-1000000) 1000000 then (if inB 0 s 1000000 then (if inB 0 t 20 then (if 3 < m.length then 4 else (if (chO m want s t.toNat).isNone then 62 else 0)) else 2) else 2) else 2) else 60
def chR (m : List (List Int)) (want : List Int) (s t : Int) : List Int := if chE m want s t = 0 then (chO m want s t.toNat).getD [] else []
/-- whether it comes to a search -/
def chB (m : List (List Int)) (want : List Int) (s t : Int) : Bool := vB m && lstB want m.length (-1000000) 1000000 && inB 0 s 1000000 && inB 0 t 20 && !decide (3 < m.length)
theorem chB_ok {m : List (List Int)} {want : List Int} {s t : Int} (h : chB m want s t = true) : vB m = true ∧ lstB want m.length (-1000000) 1000000 = true ∧ (0 ≤ s ∧ s ≤ 1000000) ∧ (0 ≤ t ∧ t ≤ 20) ∧ m.length ≤ 3 ∧
    chE m want s t = (if (chO m want s t.toNat).isNone then 62 else 0) ∧ chR m want s t = (chO m want s t.toNat).getD [] := by
  unfold chB at h
  simp only [Bool.and_eq_true, Bool.not_eq_true', decide_eq_false_iff_not] at h
  obtain ⟨⟨⟨⟨h1, h2⟩, h3⟩, h4⟩, h5⟩ := h
  have hE : chE m want s t = (if (chO m want s t.toNat).isNone then 62 else 0) := by unfold chE; rw [if_pos h1, if_pos h2, if_pos h3, if_pos h4, if_neg h5]
  refine ⟨h1, h2, (inB_iff _ _ _).1 h3, (inB_iff _ _ _).1 h4, by omega, hE, ?_⟩
  unfold chR
  rw [hE]
  cases hc : chO m want s t.toNat with
  | none => simp
  | some q => simp
theorem chB_no {m : List (List Int)} {want : List Int} {s t : Int} (h : chB m want s t = false) : chE m want s t ≠ 0 := by
  intro h0
  unfold chE at h0
  split at h0
  · split at h0
    · split at h0
      · split at h0
        · split at h0
          · simp at h0
          · rename_i h1 h2 h3 h4 h5
            unfold chB at h
            rw [h1, h2, h3, h4, decide_eq_false h5] at h
            simp at h
        · simp at h0
      · simp at h0
    · simp at h0
  · simp at h0

set_option maxRecDepth 100000 in
set_option maxHeartbeats 4000000 in
theorem Cheapest_no (v wv : Value) (m : List (List Int)) (want : List Int) (s t : Int) (w : World) (hv : RdM w v m) (hwv : Rd w wv (ints want)) (hl : m.length ≤ 10) (hw : ∀ r ∈ m, r.length ≤ 10) (hlw : want.length ≤ 1000) (he : chB m want s t = false) :
    Calls Try.prog 44 #[.agg #[v], wv, .int .i64 s, .int .i64 t] w fun e w' => e = .returned (.tuple #[.slice none 0 0, .int .i64 (chE m want s t)]) ∧ Below w.heap.size w w' := by
  have HV := Lib.hid hv
  have HWV := Lib.hid hwv
  have HE : Hid (chE m want s t = if vB m then (if lstB want m.length (-1000000) 1000000 then (if inB 0 s 1000000 then (if inB 0 t 20 then (if 3 < m.length then 4 else (if (chO m want s t.toNat).isNone then 62 else 0)) else 2) else 2) else 2) else 60) := Lib.hid rfl
  have HC : Hid (chB m want s t = (vB m && lstB want m.length (-1000000) 1000000 && inB 0 s 1000000 && inB 0 t 20 && !decide (3 < m.length))) := Lib.hid rfl
  rw [he] at HC
  have hcall := Lib.hid (fun W hb => opened_any _ m W (HV.out.below (w' := W) hb) hl hw)
  obtain ⟨vs, ⟨a, cap, rfl, hc, hcm, ha, _⟩, hr⟩ := hv
  obtain ⟨ab, capb, rfl, hcb, hcmb, hab, _⟩ := hwv
  rw [hr.1] at hc HV hcall ⊢
  rw [ints_length] at hcb HWV ⊢
  have HPH := Lib.hid (fun W hb => phases_any a m.length cap _ want W (HWV.out.below (w' := W) (B := w.heap.size) hb (Nat.le_refl _)) (by omega))
  have HSZ := Lib.hid (fun W => bsize_any a m.length cap W)
  clear ha hab hr
  have hb0 : Hid (Below w.heap.size w (((w.alloc (.cells #[.slice a m.length cap] 24)).alloc (.cells #[.slice ab want.length capb] 28)).alloc (.cells #[.int .i64 s] 3))) := Lib.hid ((((Below.refl _ _).alloc (Nat.le_refl _) _).alloc (by simp) _).alloc (by simp; omega) _)
  have cb0 : Hid ((((w.alloc (.cells #[.slice a m.length cap] 24)).alloc (.cells #[.slice ab want.length capb] 28)).alloc (.cells #[.int .i64 s] 3)).cell? ⟨w.heap.size + 1, 0, none⟩ = some (.slice ab want.length capb)) := Lib.hid (cell_alloc (World.cell?_alloc_at _ _ _ _ (by simp)) _)
  have cs0 : Hid ((((w.alloc (.cells #[.slice a m.length cap] 24)).alloc (.cells #[.slice ab want.length capb] 28)).alloc (.cells #[.int .i64 s] 3)).cell? ⟨w.heap.size + 1 + 1, 0, none⟩ = some (.int .i64 s)) := Lib.hid (World.cell?_alloc_at _ _ _ _ (by simp))
  have HB1 := Lib.hid (fun W => between_any 0 s 1000000 W)
  have HB2 := Lib.hid (fun W => between_any 0 t 20 W)
  generalize hEE : chE m want s t = E at *
  clear hEE he
  cases hq1 : vB m with
  | false =>
    rw [hq1] at hcall HE
    simp only [Bool.false_eq_true, if_false] at HE hcall
    obtain rfl := HE.out
    clear HC hq1
    generalize m.length = N at *
    go_enter Try.func44, Try.ntmps44
    go_wp2_with (first
      | (go_at_call 48; refine (hcall.out _ hb0.out).mono ?_; rintro e w1 ⟨rfl, hb1⟩; have hb01 := hb0.out.trans (hb1.mono hb0.out.size); have cb1 := cell_below cb0.out hb1; have cs1 := cell_below cs0.out hb1; have lb1 : w.heap.size + 1 < w1.heap.size := World.block_lt_of_cell? _ _ cb1; have ls1 : w.heap.size + 1 + 1 < w1.heap.size := World.block_lt_of_cell? _ _ cs1))
    go_ret2
    exact ⟨rfl, hb01.alloc hb01.size _⟩
  | true =>
    rw [hq1] at hcall HE HC
    simp only [if_true] at HE hcall
    cases hq2 : lstB want m.length (-1000000) 1000000 with
    | false =>
      rw [hq2] at HPH HE
      simp only [Bool.false_eq_true, if_false] at HE
      obtain rfl := HE.out
      clear HC hq1 hq2
      generalize m.length = N at *
      go_enter Try.func44, Try.ntmps44
      go_wp2_with (first
        | (go_at_call 48; refine (hcall.out _ hb0.out).mono ?_; rintro e w1 ⟨rfl, hb1⟩; have hb01 := hb0.out.trans (hb1.mono hb0.out.size); have cb1 := cell_below cb0.out hb1; have cs1 := cell_below cs0.out hb1; have lb1 : w.heap.size + 1 < w1.heap.size := World.block_lt_of_cell? _ _ cb1; have ls1 : w.heap.size + 1 + 1 < w1.heap.size := World.block_lt_of_cell? _ _ cs1)
        | (go_at_call 62; refine (HPH.out _ (hb01.alloc hb01.size _)).mono ?_; rintro e w2 ⟨rfl, hb2⟩; have hb02 := (hb01.alloc hb01.size _).trans (hb2.mono (by have := hb01.size; simp; omega)); have cx2 : w2.cell? ⟨w1.heap.size, 0, none⟩ = some (.slice a N cap) := cell_below (World.cell?_alloc_at _ _ _ _ rfl) hb2; have cs2 := cell_below (cell_alloc cs1 _) hb2))
      go_ret2
      exact ⟨rfl, hb02⟩
    | true =>
      rw [hq2] at HPH HE HC
      simp only [if_true] at HE
      cases hq3 : inB 0 s 1000000 with
      | false =>
        rw [hq3] at HB1 HE
        simp only [Bool.false_eq_true, if_false] at HE
        obtain rfl := HE.out
        clear HC hq1 hq2 hq3
        generalize m.length = N at *
        go_enter Try.func44, Try.ntmps44
        go_wp2_with (first
          | (go_at_call 48; refine (hcall.out _ hb0.out).mono ?_; rintro e w1 ⟨rfl, hb1⟩; have hb01 := hb0.out.trans (hb1.mono hb0.out.size); have cb1 := cell_below cb0.out hb1; have cs1 := cell_below cs0.out hb1; have lb1 : w.heap.size + 1 < w1.heap.size := World.block_lt_of_cell? _ _ cb1; have ls1 : w.heap.size + 1 + 1 < w1.heap.size := World.block_lt_of_cell? _ _ cs1)
          | (go_at_call 62; refine (HPH.out _ (hb01.alloc hb01.size _)).mono ?_; rintro e w2 ⟨rfl, hb2⟩; have hb02 := (hb01.alloc hb01.size _).trans (hb2.mono (by have := hb01.size; simp; omega)); have cx2 : w2.cell? ⟨w1.heap.size, 0, none⟩ = some (.slice a N cap) := cell_below (World.cell?_alloc_at _ _ _ _ rfl) hb2; have cs2 := cell_below (cell_alloc cs1 _) hb2)
          | (go_at_call 53; (with_reducible refine (HB1.out _).mono ?_); rintro e w' ⟨rfl, rfl⟩))
        go_ret2
        exact ⟨rfl, hb02⟩
      | true =>
        rw [hq3] at HB1 HE HC
        simp only [if_true] at HE
        cases hq4 : inB 0 t 20 with
        | false =>
          rw [hq4] at HB2 HE
          simp only [Bool.false_eq_true, if_false] at HE
          obtain rfl := HE.out
          clear HC hq1 hq2 hq3 hq4
          generalize m.length = N at *
          go_enter Try.func44, Try.ntmps44
          go_wp2_with (first
            | (go_at_call 48; refine (hcall.out _ hb0.out).mono ?_; rintro e w1 ⟨rfl, hb1⟩; have hb01 := hb0.out.trans (hb1.mono hb0.out.size); have cb1 := cell_below cb0.out hb1; have cs1 := cell_below cs0.out hb1; have lb1 : w.heap.size + 1 < w1.heap.size := World.block_lt_of_cell? _ _ cb1; have ls1 : w.heap.size + 1 + 1 < w1.heap.size := World.block_lt_of_cell? _ _ cs1)
            | (go_at_call 62; refine (HPH.out _ (hb01.alloc hb01.size _)).mono ?_; rintro e w2 ⟨rfl, hb2⟩; have hb02 := (hb01.alloc hb01.size _).trans (hb2.mono (by have := hb01.size; simp; omega)); have cx2 : w2.cell? ⟨w1.heap.size, 0, none⟩ = some (.slice a N cap) := cell_below (World.cell?_alloc_at _ _ _ _ rfl) hb2; have cs2 := cell_below (cell_alloc cs1 _) hb2)
            | (go_at_call 53; (with_reducible refine (HB1.out _).mono ?_); rintro e w' ⟨rfl, rfl⟩)
            | (go_at_call 53; (with_reducible refine (HB2.out _).mono ?_); rintro e w' ⟨rfl, rfl⟩))
          go_ret2
          exact ⟨rfl, hb02⟩
        | true =>
          rw [hq4] at HB2 HE HC
          simp only [if_true] at HE
          have hn3 : 3 < m.length := by have := HC.out; simpa using this
          rw [if_pos hn3] at HE
          obtain rfl := HE.out
          clear HC hq1 hq2 hq3 hq4
          generalize m.length = N at *
          go_enter Try.func44, Try.ntmps44
          go_wp2_with (first
            | (go_at_call 48; refine (hcall.out _ hb0.out).mono ?_; rintro e w1 ⟨rfl, hb1⟩; have hb01 := hb0.out.trans (hb1.mono hb0.out.size); have cb1 := cell_below cb0.out hb1; have cs1 := cell_below cs0.out hb1; have lb1 : w.heap.size + 1 < w1.heap.size := World.block_lt_of_cell? _ _ cb1; have ls1 : w.heap.size + 1 + 1 < w1.heap.size := World.block_lt_of_cell? _ _ cs1)
            | (go_at_call 62; refine (HPH.out _ (hb01.alloc hb01.size _)).mono ?_; rintro e w2 ⟨rfl, hb2⟩; have hb02 := (hb01.alloc hb01.size _).trans (hb2.mono (by have := hb01.size; simp; omega)); have cx2 : w2.cell? ⟨w1.heap.size, 0, none⟩ = some (.slice a N cap) := cell_below (World.cell?_alloc_at _ _ _ _ rfl) hb2; have cs2 := cell_below (cell_alloc cs1 _) hb2)
            | (go_at_call 53; (with_reducible refine (HB1.out _).mono ?_); rintro e w' ⟨rfl, rfl⟩)
            | (go_at_call 53; (with_reducible refine (HB2.out _).mono ?_); rintro e w' ⟨rfl, rfl⟩)
            | (go_at_call 63; refine (HSZ.out _).mono ?_; rintro e w3 ⟨rfl, hb3⟩; have hb03 := hb02.trans (hb3.mono hb02.size)))
          go_ret2
          exact ⟨rfl, hb03⟩

theorem Cheapest_any (v wv : Value) (m : List (List Int)) (want : List Int) (s t : Int) (w : World) (hv : RdM w v m) (hwv : Rd w wv (ints want)) (hl : m.length ≤ 10) (hw : ∀ r ∈ m, r.length ≤ 10) (hlw : want.length ≤ 1000) :
    Calls Try.prog 44 #[.agg #[v], wv, .int .i64 s, .int .i64 t] w fun e w' => ∃ u, e = .returned (.tuple #[u, .int .i64 (chE m want s t)]) ∧ Rd w' u (ints (chR m want s t)) ∧ Below w.heap.size w w' := by
  cases he : chB m want s t with
  | true =>
    obtain ⟨q1, q2, q3, q4, q5, q6, q7⟩ := chB_ok he
    rw [q6, q7]
    have h := Cheapest_main v wv m want s t.toNat w hv hwv q1 q2 q3.1 q3.2 (by omega) q5
    rwa [show ((t.toNat : Nat) : Int) = t by omega] at h
  | false =>
    rw [show chR m want s t = [] by unfold chR; rw [if_neg (chB_no he)]]
    refine (Cheapest_no v wv m want s t w hv hwv hl hw hlw he).mono ?_
    rintro e w' ⟨rfl, hb⟩
    exact ⟨_, rfl, Rd.nil _, hb⟩

set_option maxRecDepth 100000 in
set_option maxHeartbeats 4000000 in
theorem refCheapest_no (v wv : Value) (m : List (List Int)) (want : List Int) (s t : Int) (w : World) (hv : RdM w v m) (hwv : Rd w wv (ints want)) (hw : ∀ r ∈ m, r.length ≤ 10) (hlw : want.length ≤ 1000) (he : chB m want s t = false) :
    Calls Try.prog 45 #[.agg #[v], wv, .int .i64 s, .int .i64 t] w fun e w' => e = .returned (.tuple #[.slice none 0 0, .int .i64 (chE m want s t)]) ∧ Below w.heap.size w w' := by
  have HV := Lib.hid hv
  have HWV := Lib.hid hwv
  have HE : Hid (chE m want s t = if vB m then (if lstB want m.length (-1000000) 1000000 then (if inB 0 s 1000000 then (if inB 0 t 20 then (if 3 < m.length then 4 else (if (chO m want s t.toNat).isNone then 62 else 0)) else 2) else 2) else 2) else 60) := Lib.hid rfl
  have HC : Hid (chB m want s t = (vB m && lstB want m.length (-1000000) 1000000 && inB 0 s 1000000 && inB 0 t 20 && !decide (3 < m.length))) := Lib.hid rfl
  rw [he] at HC
  have hcall := Lib.hid (fun W hb => refValid_any _ m W (HV.out.below (w' := W) hb) hw)
  obtain ⟨vs, ⟨a, cap, rfl, hc, hcm, ha, _⟩, hr⟩ := hv
  obtain ⟨ab, capb, rfl, hcb, hcmb, hab, _⟩ := hwv
  rw [hr.1] at hc HV hcall ⊢
  rw [ints_length] at hcb HWV ⊢
  have HPH := Lib.hid (fun W hb => isPhases_any m.length _ want W (HWV.out.below (w' := W) (B := w.heap.size) hb (Nat.le_refl _)) (by omega))
  clear ha hab hr
  have hb0 : Hid (Below w.heap.size w (w.alloc (.cells #[.slice a m.length cap] 24))) := Lib.hid ((Below.refl _ _).alloc (Nat.le_refl _) _)
  have cb0 : Hid ((w.alloc (.cells #[.slice a m.length cap] 24)).cell? ⟨w.heap.size, 0, none⟩ = some (.slice a m.length cap)) := Lib.hid (World.cell?_alloc_at _ _ _ _ rfl)
  have HB1 := Lib.hid (fun W => within_any 0 s 1000000 W)
  have HB2 := Lib.hid (fun W => within_any 0 t 20 W)
  generalize hEE : chE m want s t = E at *
  clear hEE he
  cases hq1 : vB m with
  | false =>
    rw [hq1] at hcall HE
    simp only [Bool.false_eq_true, if_false] at HE
    obtain rfl := HE.out
    clear HC hq1
    generalize m.length = N at *
    go_enter Try.func45, Try.ntmps45
    go_wp2_with (first
      | (go_at_call 15; refine (hcall.out _ hb0.out).mono ?_; rintro e w1 ⟨rfl, hb1⟩; have hb01 := hb0.out.trans (hb1.mono hb0.out.size); have c1 := cell_below cb0.out hb1))
    go_ret2
    exact ⟨rfl, hb01⟩
  | true =>
    rw [hq1] at hcall HE HC
    simp only [if_true] at HE
    cases hq2 : lstB want m.length (-1000000) 1000000 with
    | false =>
      rw [hq2] at HPH HE
      simp only [Bool.false_eq_true, if_false] at HE
      obtain rfl := HE.out
      clear HC hq1 hq2
      generalize m.length = N at *
      go_enter Try.func45, Try.ntmps45
      go_wp2_with (first
        | (go_at_call 15; refine (hcall.out _ hb0.out).mono ?_; rintro e w1 ⟨rfl, hb1⟩; have hb01 := hb0.out.trans (hb1.mono hb0.out.size); have c1 := cell_below cb0.out hb1)
        | (go_at_call 65; refine (HPH.out _ hb01).mono ?_; rintro e w' ⟨rfl, rfl⟩))
      go_ret2
      exact ⟨rfl, hb01⟩
    | true =>
      rw [hq2] at HPH HE HC
      simp only [if_true] at HE
      cases hq3 : inB 0 s 1000000 with
      | false =>
        rw [hq3] at HB1 HE
        simp only [Bool.false_eq_true, if_false] at HE
        obtain rfl := HE.out
        clear HC hq1 hq2 hq3
        generalize m.length = N at *
        go_enter Try.func45, Try.ntmps45
        go_wp2_with (first
          | (go_at_call 15; refine (hcall.out _ hb0.out).mono ?_; rintro e w1 ⟨rfl, hb1⟩; have hb01 := hb0.out.trans (hb1.mono hb0.out.size); have c1 := cell_below cb0.out hb1)
          | (go_at_call 65; refine (HPH.out _ hb01).mono ?_; rintro e w' ⟨rfl, rfl⟩)
          | (go_at_call 56; (with_reducible refine (HB1.out _).mono ?_); rintro e w' ⟨rfl, rfl⟩))
        go_ret2
        exact ⟨rfl, hb01⟩
      | true =>
        rw [hq3] at HB1 HE HC
        simp only [if_true] at HE
        cases hq4 : inB 0 t 20 with
        | false =>
          rw [hq4] at HB2 HE
          simp only [Bool.false_eq_true, if_false] at HE
          obtain rfl := HE.out
          clear HC hq1 hq2 hq3 hq4
          generalize m.length = N at *
          go_enter Try.func45, Try.ntmps45
          go_wp2_with (first
            | (go_at_call 15; refine (hcall.out _ hb0.out).mono ?_; rintro e w1 ⟨rfl, hb1⟩; have hb01 := hb0.out.trans (hb1.mono hb0.out.size); have c1 := cell_below cb0.out hb1)
            | (go_at_call 65; refine (HPH.out _ hb01).mono ?_; rintro e w' ⟨rfl, rfl⟩)
            | (go_at_call 56; (with_reducible refine (HB1.out _).mono ?_); rintro e w' ⟨rfl, rfl⟩)
            | (go_at_call 56; (with_reducible refine (HB2.out _).mono ?_); rintro e w' ⟨rfl, rfl⟩))
          go_ret2
          exact ⟨rfl, hb01⟩
        | true =>
          rw [hq4] at HB2 HE HC
          simp only [if_true] at HE
          have hn3 : 3 < m.length := by have := HC.out; simpa using this
          rw [if_pos hn3] at HE
          obtain rfl := HE.out
          clear HC hq1 hq2 hq3 hq4
          generalize m.length = N at *
          go_enter Try.func45, Try.ntmps45
          go_wp2_with (first
            | (go_at_call 15; refine (hcall.out _ hb0.out).mono ?_; rintro e w1 ⟨rfl, hb1⟩; have hb01 := hb0.out.trans (hb1.mono hb0.out.size); have c1 := cell_below cb0.out hb1)
            | (go_at_call 65; refine (HPH.out _ hb01).mono ?_; rintro e w' ⟨rfl, rfl⟩)
            | (go_at_call 56; (with_reducible refine (HB1.out _).mono ?_); rintro e w' ⟨rfl, rfl⟩)
            | (go_at_call 56; (with_reducible refine (HB2.out _).mono ?_); rintro e w' ⟨rfl, rfl⟩))
          go_ret2
          exact ⟨rfl, hb01⟩

theorem refCheapest_any (v wv : Value) (m : List (List Int)) (want : List Int) (s t : Int) (w : World) (hv : RdM w v m) (hwv : Rd w wv (ints want)) (hw : ∀ r ∈ m, r.length ≤ 10) (hlw : want.length ≤ 1000) :
    Calls Try.prog 45 #[.agg #[v], wv, .int .i64 s, .int .i64 t] w fun e w' => ∃ u, e = .returned (.tuple #[u, .int .i64 (chE m want s t)]) ∧ Rd w' u (ints (chR m want s t)) ∧ Below w.heap.size w w' := by
  cases he : chB m want s t with
  | true =>
    obtain ⟨q1, q2, q3, q4, q5, q6, q7⟩ := chB_ok he
    rw [q6, q7]
    have h := refCheapest_main v wv m want s t.toNat w hv hwv q1 q2 q3.1 q3.2 (by omega) q5
    rwa [show ((t.toNat : Nat) : Int) = t by omega] at h
  | false =>
    rw [show chR m want s t = [] by unfold chR; rw [if_neg (chB_no he)]]
    refine (refCheapest_no v wv m want s t w hv hwv hw hlw he).mono ?_
    rintro e w' ⟨rfl, hb⟩
    exact ⟨_, rfl, Rd.nil _, hb⟩

end Go.Proofs.Ytnaoanmkepcinaa

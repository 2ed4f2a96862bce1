/- Heat: Inverse in both texts, whole. -/
import Derived.Test.YtnaoanmkepcinaaHInv3
namespace Go.Proofs.Ytnaoanmkepcinaa
open Go.RowKit

/-- rows of ratios, read -/
def RdR (w : World) (v : Value) (rows : List (List (Int × Int))) : Prop :=
  ∃ vs, Rd w v vs ∧ vs.length = rows.length ∧ ∀ (i : Nat) (x : Value) (r : List (Int × Int)), vs[i]? = some x → rows[i]? = some r → RdP w x r
theorem RdR.below {w w' : World} {v : Value} {rows : List (List (Int × Int))} (h : RdR w v rows) (hb : Below w.heap.size w w') : RdR w' v rows := by
  obtain ⟨vs, h1, h2, h3⟩ := h
  exact ⟨vs, h1.below hb (Nat.le_refl _), h2, fun i x r hx hr => (h3 i x r hx hr).below hb⟩
theorem OwnR.rd {w : World} {B g cap n : Nat} {vs : List Value} {rows : List (List (Int × Int))} (h : OwnR w B g cap n vs rows) : RdR w (.slice (some ⟨g, 0, none⟩) n cap) rows :=
  ⟨vs, Rd.own h.top, by have := h.top.1; simp at this; rw [this, h.len], fun i x r hx hr => RdP.own (h.row i x r hx hr) rfl⟩
theorem RdR.nil (w : World) : RdR w (.slice none 0 0) [] := ⟨[], Rd.nil w, rfl, fun i x r hx _ => by simp at hx⟩

set_option maxRecDepth 100000 in
set_option maxHeartbeats 1000000 in
theorem Inverse_no (v : Value) (m : List (List Int)) (w : World) (hv : RdM w v m) (hl : m.length ≤ 10) (hw : ∀ r ∈ m, r.length ≤ 10) (he : invE m ≠ 0) :
    Calls Try.prog 25 #[.agg #[v]] w fun e w' => e = .returned (.tuple #[.slice none 0 0, .int .i64 (invE m)]) ∧ Below w.heap.size w w' := by
  have HV := Lib.hid hv
  have HE : Hid (invE m = if vB m then (if dt m.length m = 0 then 61 else 0) else 60) := Lib.hid rfl
  have hcall := Lib.hid (fun W hb => opened_any _ m W (HV.out.below (w' := W) hb) hl hw)
  obtain ⟨vs, ⟨a, cap, rfl, hc, hcm, ha, _⟩, hr⟩ := hv
  rw [hr.1] at hc HV hcall ⊢
  have hb0 : Hid (Below w.heap.size w (w.alloc (.cells #[.slice a m.length cap] 24))) := Lib.hid ((Below.refl _ _).alloc (Nat.le_refl _) _)
  generalize hE : invE m = E at *
  clear hE ha hr
  cases hq1 : vB m with
  | true =>
    obtain ⟨b1, b2, b3, b4, b5⟩ := rep_bd hq1
    have HDT : Hid (∀ W, Below w.heap.size w W → Calls Try.prog 49 #[.slice a m.length cap] W fun e w' => e = .returned (.int .i64 (dt m.length m)) ∧ Below W.heap.size W w') := Lib.hid fun W hb => det_any m.length m _ _ W b1 (HV.out.below hb) rfl b2 b3 b4 b5
    rw [hq1] at hcall HE
    simp only [if_true] at hcall HE
    by_cases hq3 : dt m.length m = 0
    · rw [if_pos hq3] at HE
      rw [hq3] at HDT
      obtain rfl := HE.out
      clear hq1 hq3 b1 b2 b3 b4 b5 hw
      generalize m.length = N at *
      go_enter Try.func25, Try.ntmps25
      go_wp2_with (first
        | (go_at_call 48; refine (hcall.out _ hb0.out).mono ?_; rintro e w1 ⟨rfl, hb1⟩; have hb01 := hb0.out.trans (hb1.mono hb0.out.size))
        | (go_at_call 49; refine (HDT.out _ (hb01.alloc hb01.size _)).mono ?_; rintro e w2 ⟨rfl, hb2⟩; have hb02 := (hb01.alloc hb01.size _).trans (hb2.mono (by have := hb01.size; simp; omega))))
      go_ret2
      exact ⟨rfl, hb02⟩
    · rw [if_neg hq3] at HE
      exact absurd HE.out he
  | false =>
    rw [hq1] at hcall HE
    simp only [Bool.false_eq_true, if_false] at hcall HE
    obtain rfl := HE.out
    clear hq1 hw
    generalize m.length = N at *
    go_enter Try.func25, Try.ntmps25
    go_wp2_with (first
      | (go_at_call 48; refine (hcall.out _ hb0.out).mono ?_; rintro e w1 ⟨rfl, hb1⟩; have hb01 := hb0.out.trans (hb1.mono hb0.out.size)))
    go_ret2
    exact ⟨rfl, hb01.alloc hb01.size _⟩

set_option maxRecDepth 100000 in
set_option maxHeartbeats 1000000 in
theorem refInverse_no (v : Value) (m : List (List Int)) (w : World) (hv : RdM w v m) (hw : ∀ r ∈ m, r.length ≤ 10) (he : invE m ≠ 0) :
    Calls Try.prog 26 #[.agg #[v]] w fun e w' => e = .returned (.tuple #[.slice none 0 0, .int .i64 (invE m)]) ∧ Below w.heap.size w w' := by
  have HV := Lib.hid hv
  have HE : Hid (invE m = if vB m then (if dt m.length m = 0 then 61 else 0) else 60) := Lib.hid rfl
  have hcall := Lib.hid (fun W hb => refValid_any _ m W (HV.out.below (w' := W) hb) hw)
  obtain ⟨vs, ⟨a, cap, rfl, hc, hcm, ha, _⟩, hr⟩ := hv
  rw [hr.1] at hc HV hcall ⊢
  have hb0 : Hid (Below w.heap.size w (w.alloc (.cells #[.slice a m.length cap] 24))) := Lib.hid ((Below.refl _ _).alloc (Nat.le_refl _) _)
  have hcB : Hid ((w.alloc (.cells #[.slice a m.length cap] 24)).cell? ⟨w.heap.size, 0, none⟩ = some (.slice a m.length cap)) := Lib.hid (World.cell?_alloc_at _ _ _ _ rfl)
  generalize hE : invE m = E at *
  clear hE ha hr
  cases hq1 : vB m with
  | true =>
    obtain ⟨b1, b2, b3, b4, b5⟩ := rep_bd hq1
    have HDT : Hid (∀ W, Below w.heap.size w W → Calls Try.prog 61 #[.slice a m.length cap] W fun e w' => e = .returned (.int .i64 (dt m.length m)) ∧ Below W.heap.size W w') := Lib.hid fun W hb => refDet_any m.length m _ _ W b1 (HV.out.below hb) rfl b2 b3 b4 b5
    rw [hq1] at hcall HE
    simp only [if_true] at HE
    by_cases hq3 : dt m.length m = 0
    · rw [if_pos hq3] at HE
      rw [hq3] at HDT
      obtain rfl := HE.out
      clear hq1 hq3 b1 b2 b3 b4 b5 hw
      generalize m.length = N at *
      go_enter Try.func26, Try.ntmps26
      go_wp2_with (first
        | (go_at_call 15; refine (hcall.out _ hb0.out).mono ?_; rintro e w1 ⟨rfl, hb1⟩; have hb01 := hb0.out.trans (hb1.mono hb0.out.size); have c1 := cell_below hcB.out hb1)
        | (go_at_call 61; refine (HDT.out _ hb01).mono ?_; rintro e w2 ⟨rfl, hb2⟩; have hb02 := hb01.trans (hb2.mono hb01.size)))
      go_ret2
      exact ⟨rfl, hb02⟩
    · rw [if_neg hq3] at HE
      exact absurd HE.out he
  | false =>
    rw [hq1] at hcall HE
    simp only [Bool.false_eq_true, if_false] at HE
    obtain rfl := HE.out
    clear hq1 hw
    generalize m.length = N at *
    go_enter Try.func26, Try.ntmps26
    go_wp2_with (first
      | (go_at_call 15; refine (hcall.out _ hb0.out).mono ?_; rintro e w1 ⟨rfl, hb1⟩; have hb01 := hb0.out.trans (hb1.mono hb0.out.size)))
    go_ret2
    exact ⟨rfl, hb01⟩

theorem invE_zero {m : List (List Int)} (h : invE m = 0) : vB m = true ∧ dt m.length m ≠ 0 := by
  unfold invE at h
  split at h
  · split at h
    · simp at h
    · exact ⟨by assumption, by assumption⟩
  · simp at h
theorem Inverse_any (v : Value) (m : List (List Int)) (w : World) (hv : RdM w v m) (hl : m.length ≤ 10) (hw : ∀ r ∈ m, r.length ≤ 10) :
    Calls Try.prog 25 #[.agg #[v]] w fun e w' => ∃ u, e = .returned (.tuple #[u, .int .i64 (invE m)]) ∧ RdR w' u (invL m) ∧ Below w.heap.size w w' := by
  by_cases he : invE m = 0
  · obtain ⟨q1, q2⟩ := invE_zero he
    have e : invL m = tab m fun _ => m.length := by unfold invL; rw [if_pos he]
    rw [e, he]
    refine (Inverse_ok v m w hv q1 q2).mono ?_
    rintro e w' ⟨g, vs, rfl, h, hb⟩
    exact ⟨_, rfl, h.rd, hb⟩
  · have e : invL m = [] := by unfold invL; rw [if_neg he]
    rw [e]
    refine (Inverse_no v m w hv hl hw he).mono ?_
    rintro e w' ⟨rfl, hb⟩
    exact ⟨_, rfl, RdR.nil _, hb⟩
theorem refInverse_any (v : Value) (m : List (List Int)) (w : World) (hv : RdM w v m) (hw : ∀ r ∈ m, r.length ≤ 10) :
    Calls Try.prog 26 #[.agg #[v]] w fun e w' => ∃ u, e = .returned (.tuple #[u, .int .i64 (invE m)]) ∧ RdR w' u (invL m) ∧ Below w.heap.size w w' := by
  by_cases he : invE m = 0
  · obtain ⟨q1, q2⟩ := invE_zero he
    have e : invL m = tab m fun _ => m.length := by unfold invL; rw [if_pos he]
    rw [e, he]
    refine (refInverse_ok v m w hv q1 q2).mono ?_
    rintro e w' ⟨g, vs, rfl, h, hb⟩
    exact ⟨_, rfl, h.rd, hb⟩
  · have e : invL m = [] := by unfold invL; rw [if_neg he]
    rw [e]
    refine (refInverse_no v m w hv hw he).mono ?_
    rintro e w' ⟨rfl, hb⟩
    exact ⟨_, rfl, RdR.nil _, hb⟩

end Go.Proofs.Ytnaoanmkepcinaa

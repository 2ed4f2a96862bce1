/- Heat: the law HeatMore where nothing is asked, and where there are no phases. -/
import Derived.Test.YtnaoanmkepcinaaHMo
import Derived.Test.YtnaoanmkepcinaaHSame
namespace Go.Proofs.Ytnaoanmkepcinaa
open Go.RowKit

set_option maxRecDepth 100000 in
set_option maxHeartbeats 4000000 in
theorem more_out (u : Value) (m : List (List Int)) (x : Value) (S : List Int) (y : Value) (T : List Int) (a0 b0 c0 : Int) (w : World) (hv : RdM w u m) (hS : Rd w x (ints S)) (hT : Rd w y (ints T))
    (hne : ¬ (wideB m = false ∧ S.length ≤ 20 ∧ T.length ≤ 20 ∧ vB m = true ∧ T.length = m.length ∧ S.length = m.length)) :
    Calls Try.prog 13 #[.agg #[u, x, y], .agg #[.int .u8 a0, .int .u8 b0, .int .u8 c0]] w fun e w' => e = .returned (.bool true) ∧ Below w.heap.size w w' := by
  have HV := Lib.hid hv
  have HSN := Lib.hid (fun W => sane_any W)
  have HWD := Lib.hid (fun W hb => wide_any _ m W (HV.out.below (w' := W) hb))
  obtain ⟨vs, ⟨a, cap, rfl, hc, hcm, ha, _⟩, hr⟩ := hv
  obtain ⟨ab, capb, rfl, hcb, hcmb, hab, _⟩ := hS
  obtain ⟨aw, capw, rfl, hcw, hcmw, haw, _⟩ := hT
  rw [hr.1] at HV HWD hc ⊢
  rw [ints_length] at hcb hcw ⊢
  rw [ints_length]
  clear ha hab haw hr
  obtain ⟨W0, hW0⟩ : ∃ W0, (w.alloc (.cells #[.slice a m.length cap, .slice ab S.length capb, .slice aw T.length capw] 53)).alloc (.cells #[.int .u8 a0, .int .u8 b0, .int .u8 c0] 64) = W0 := ⟨_, rfl⟩
  have hb0 : Below w.heap.size w W0 := by rw [← hW0]; exact ((Below.refl _ _).alloc (Nat.le_refl _) _).alloc (by simp) _
  have c0' : W0.cell? ⟨w.heap.size, 0, none⟩ = some (.slice a m.length cap) := by rw [← hW0]; exact cell_alloc (World.cell?_alloc_at _ _ _ _ rfl) _
  have c1' : W0.cell? ⟨w.heap.size, 1, none⟩ = some (.slice ab S.length capb) := by rw [← hW0]; exact cell_alloc (World.cell?_alloc_at _ _ _ _ rfl) _
  have c2' : W0.cell? ⟨w.heap.size, 2, none⟩ = some (.slice aw T.length capw) := by rw [← hW0]; exact cell_alloc (World.cell?_alloc_at _ _ _ _ rfl) _
  rcases Bool.eq_false_or_eq_true (wideB m) with hq1 | hq1
  · rw [hq1] at HWD
    clear hq1 hne
    generalize m.length = N at *
    go_enter Try.func13, Try.ntmps13
    go_wp2_with (first
      | (go_at_call 14; refine (HWD.out _ hb0).mono ?_; rintro e w1 ⟨rfl, hb1⟩; have hb01 := hb0.trans (hb1.mono hb0.size))
      | (go_at_call 16; refine (HSN.out _).mono ?_; rintro e w2 ⟨rfl, hb2⟩))
    go_ret
    exact ⟨rfl, hb01.trans (hb2.mono hb01.size)⟩
  · rw [hq1] at HWD
    obtain ⟨h1, h2⟩ := wideB_bd hq1
    by_cases hs20 : 20 < S.length
    · clear hq1 hne h2
      generalize m.length = N at *
      go_enter Try.func13, Try.ntmps13
      go_wp2_with (first
        | (go_at_call 14; refine (HWD.out _ hb0).mono ?_; rintro e w1 ⟨rfl, hb1⟩; have hb01 := hb0.trans (hb1.mono hb0.size); have d1 := cell_below c1' hb1)
        | (go_at_call 16; refine (HSN.out _).mono ?_; rintro e w2 ⟨rfl, hb2⟩))
      go_ret
      exact ⟨rfl, hb01.trans (hb2.mono hb01.size)⟩
    · have hs20' : S.length ≤ 20 := by omega
      by_cases ht20 : 20 < T.length
      · clear hq1 hne h2 hs20
        generalize m.length = N at *
        go_enter Try.func13, Try.ntmps13
        go_wp2_with (first
          | (go_at_call 14; refine (HWD.out _ hb0).mono ?_; rintro e w1 ⟨rfl, hb1⟩; have hb01 := hb0.trans (hb1.mono hb0.size); have d1 := cell_below c1' hb1; have d2 := cell_below c2' hb1)
          | (go_at_call 16; refine (HSN.out _).mono ?_; rintro e w2 ⟨rfl, hb2⟩))
        go_ret
        exact ⟨rfl, hb01.trans (hb2.mono hb01.size)⟩
      · have ht20' : T.length ≤ 20 := by omega
        have HVD := Lib.hid (fun W hb => refValid_any _ m W (HV.out.below (w' := W) hb) h2)
        rcases Bool.eq_false_or_eq_true (vB m) with hq2 | hq2
        · rw [hq2] at HVD
          by_cases htn : T.length = m.length
          · have hsn : S.length ≠ m.length := fun e => hne ⟨hq1, hs20', ht20', hq2, htn, e⟩
            have hsb : ((S.length : Int) != (m.length : Int)) = true := by simp; omega
            have htb : ((T.length : Int) != (m.length : Int)) = false := by simp; omega
            clear hq1 hne h2 hs20 ht20 hq2 htn hsn
            generalize m.length = N at *
            go_enter Try.func13, Try.ntmps13
            go_wp2_with (first
              | (go_at_call 14; refine (HWD.out _ hb0).mono ?_; rintro e w1 ⟨rfl, hb1⟩; have hb01 := hb0.trans (hb1.mono hb0.size); have d0 := cell_below c0' hb1; have d1 := cell_below c1' hb1; have d2 := cell_below c2' hb1)
              | (go_at_call 15; refine (HVD.out _ hb01).mono ?_; rintro e w2 ⟨rfl, hb2⟩; have hb02 := hb01.trans (hb2.mono hb01.size); have e1 := cell_below d1 hb2; have e2 := cell_below d2 hb2)
              | (go_at_call 16; refine (HSN.out _).mono ?_; rintro e w3 ⟨rfl, hb3⟩))
            go_ret
            exact ⟨rfl, hb02.trans (hb3.mono hb02.size)⟩
          · have htb : ((T.length : Int) != (m.length : Int)) = true := by simp; omega
            clear hq1 hne h2 hs20 ht20 hq2 htn
            generalize m.length = N at *
            go_enter Try.func13, Try.ntmps13
            go_wp2_with (first
              | (go_at_call 14; refine (HWD.out _ hb0).mono ?_; rintro e w1 ⟨rfl, hb1⟩; have hb01 := hb0.trans (hb1.mono hb0.size); have d0 := cell_below c0' hb1; have d1 := cell_below c1' hb1; have d2 := cell_below c2' hb1)
              | (go_at_call 15; refine (HVD.out _ hb01).mono ?_; rintro e w2 ⟨rfl, hb2⟩; have hb02 := hb01.trans (hb2.mono hb01.size); have e1 := cell_below d1 hb2; have e2 := cell_below d2 hb2)
              | (go_at_call 16; refine (HSN.out _).mono ?_; rintro e w3 ⟨rfl, hb3⟩))
            go_ret
            exact ⟨rfl, hb02.trans (hb3.mono hb02.size)⟩
        · rw [hq2] at HVD
          clear hq1 hne h2 hs20 ht20 hq2
          generalize m.length = N at *
          go_enter Try.func13, Try.ntmps13
          go_wp2_with (first
            | (go_at_call 14; refine (HWD.out _ hb0).mono ?_; rintro e w1 ⟨rfl, hb1⟩; have hb01 := hb0.trans (hb1.mono hb0.size); have d0 := cell_below c0' hb1; have d1 := cell_below c1' hb1; have d2 := cell_below c2' hb1)
            | (go_at_call 15; refine (HVD.out _ hb01).mono ?_; rintro e w2 ⟨rfl, hb2⟩; have hb02 := hb01.trans (hb2.mono hb01.size))
            | (go_at_call 16; refine (HSN.out _).mono ?_; rintro e w3 ⟨rfl, hb3⟩))
          go_ret
          exact ⟨rfl, hb02.trans (hb3.mono hb02.size)⟩

end Go.Proofs.Ytnaoanmkepcinaa

/- Heat: the law HeatRows, walked. -/
import Derived.Test.YtnaoanmkepcinaaHRowW
namespace Go.Proofs.Ytnaoanmkepcinaa
open Go.RowKit

set_option maxRecDepth 100000 in
set_option maxHeartbeats 4000000 in
theorem law_rows (v : Value) (m : List (List Int)) (a0 b0 : Int) (w : World) (hv : RdM w v m) (_ : ∀ r ∈ m, ∀ x ∈ r, (Lit.int .i64 x).wf = true) (hwa : (Lit.int .u8 a0).wf = true) (hwb : (Lit.int .u8 b0).wf = true) :
    Calls Try.prog 3 #[.agg #[v], .agg #[.int .u8 a0, .int .u8 b0]] w fun e w' => e = .returned (.bool true) ∧ Below w.heap.size w w' := by
  have ha0 : 0 ≤ a0 ∧ a0 ≤ 255 := by simpa [Lit.wf, IntKind.min, IntKind.max, IntKind.signed, IntKind.bits] using hwa
  have hb0' : 0 ≤ b0 ∧ b0 ≤ 255 := by simpa [Lit.wf, IntKind.min, IntKind.max, IntKind.signed, IntKind.bits] using hwb
  have hv0 := hv
  have HV := Lib.hid hv
  have HSN := Lib.hid (fun W => sane_any W)
  have HWD := Lib.hid (fun W hb => wide_any _ m W (HV.out.below (w' := W) hb))
  obtain ⟨vs, ⟨a, cap, rfl, hc, hcm, ha, _⟩, hr⟩ := hv
  have hE := hr.1
  rw [hr.1] at HV HWD hc ⊢
  have hb0 : Hid (Below w.heap.size w ((w.alloc (.cells #[.slice a m.length cap] 24)).alloc (.cells #[.int .u8 a0, .int .u8 b0] 25))) := Lib.hid (((Below.refl _ _).alloc (Nat.le_refl _) _).alloc (by simp) _)
  have hcB : Hid (((w.alloc (.cells #[.slice a m.length cap] 24)).alloc (.cells #[.int .u8 a0, .int .u8 b0] 25)).cell? ⟨w.heap.size, 0, none⟩ = some (.slice a m.length cap)) := Lib.hid (cell_alloc (World.cell?_alloc_at _ _ _ _ rfl) _)
  have hcA : Hid (((w.alloc (.cells #[.slice a m.length cap] 24)).alloc (.cells #[.int .u8 a0, .int .u8 b0] 25)).cell? ⟨w.heap.size + 1, 0, none⟩ = some (.int .u8 a0)) := Lib.hid (World.cell?_alloc_at _ _ _ _ (by simp))
  have hcC : Hid (((w.alloc (.cells #[.slice a m.length cap] 24)).alloc (.cells #[.int .u8 a0, .int .u8 b0] 25)).cell? ⟨w.heap.size + 1, 1, none⟩ = some (.int .u8 b0)) := Lib.hid (World.cell?_alloc_at _ _ _ _ (by simp))
  cases hq1 : wideB m with
  | true =>
    rw [hq1] at HWD
    clear hq1 hr ha hE
    generalize m.length = N at *
    go_enter Try.func3, Try.ntmps3
    go_wp2_with (first
      | (go_at_call 14; refine (HWD.out _ hb0.out).mono ?_; rintro e w1 ⟨rfl, hb1⟩; have hb01 := hb0.out.trans (hb1.mono hb0.out.size))
      | (go_at_call 16; refine (HSN.out _).mono ?_; rintro e w2 ⟨rfl, hb2⟩))
    go_ret
    exact ⟨rfl, hb01.trans (hb2.mono hb01.size)⟩
  | false =>
    rw [hq1] at HWD
    obtain ⟨w1', w2'⟩ := wideB_bd hq1
    have HVD := Lib.hid (fun W hb => refValid_any _ m W (HV.out.below (w' := W) hb) w2')
    cases hq2 : vB m with
    | false =>
      rw [hq2] at HVD
      clear hq1 hq2 hr ha hE w2'
      generalize m.length = N at *
      go_enter Try.func3, Try.ntmps3
      go_wp2_with (first
        | (go_at_call 14; refine (HWD.out _ hb0.out).mono ?_; rintro e w1 ⟨rfl, hb1⟩; have hb01 := hb0.out.trans (hb1.mono hb0.out.size); have c1 := cell_below hcB.out hb1)
        | (go_at_call 15; refine (HVD.out _ hb01).mono ?_; rintro e w2 ⟨rfl, hb2⟩; have hb02 := hb01.trans (hb2.mono hb01.size))
        | (go_at_call 16; refine (HSN.out _).mono ?_; rintro e w3 ⟨rfl, hb3⟩))
      go_ret
      exact ⟨rfl, hb02.trans (hb3.mono hb02.size)⟩
    | true =>
      rw [hq2] at HVD
      obtain ⟨d1, d2, d3⟩ := vB_bd hq2
      obtain ⟨i, hi⟩ : ∃ i : Nat, i = a0.toNat % m.length := ⟨_, rfl⟩
      obtain ⟨k, hk⟩ : ∃ k : Nat, k = b0.toNat % m.length := ⟨_, rfl⟩
      have hiN : i < m.length := by rw [hi]; exact Nat.mod_lt _ (by omega)
      have hkN : k < m.length := by rw [hk]; exact Nat.mod_lt _ (by omega)
      have hia : a0.tmod (m.length : Int) = (i : Int) := by rw [hi]; conv => lhs; rw [show a0 = (a0.toNat : Int) by omega]
                                                            rfl
      have hkb : b0.tmod (m.length : Int) = (k : Int) := by rw [hk]; conv => lhs; rw [show b0 = (b0.toNat : Int) by omega]
                                                            rfl
      clear hi hk
      by_cases hik : i = k
      · have hikb : ((i : Int) == (k : Int)) = true := by simp [hik]
        clear hq1 hq2 hr ha hE w2' d3
        generalize m.length = N at *
        have hNz : ((N : Int) == 0) = false := by simp; omega
        go_enter Try.func3, Try.ntmps3
        go_wp2_with (first
          | (go_at_call 14; refine (HWD.out _ hb0.out).mono ?_; rintro e w1 ⟨rfl, hb1⟩; have hb01 := hb0.out.trans (hb1.mono hb0.out.size); have c1 := cell_below hcB.out hb1)
          | (go_at_call 15; refine (HVD.out _ hb01).mono ?_; rintro e w2 ⟨rfl, hb2⟩; have hb02 := hb01.trans (hb2.mono hb01.size); have c2 := cell_below c1 hb2; have c3 := cell_below (cell_below hcA.out hb1) hb2; have c4 := cell_below (cell_below hcC.out hb1) hb2))
        go_quiet (fail)
        go_wp2_with (first
          | (go_at_call 16; refine (HSN.out _).mono ?_; rintro e w3 ⟨rfl, hb3⟩))
        go_ret
        exact ⟨rfl, (bel_drewN hb02 _).trans (hb3.mono (show w.heap.size ≤ w2.heap.size from hb02.size))⟩
      · rw [hE] at hv0
        exact rows_main _ m a0 b0 i k w hv0 hq1 hq2 ha0 hb0' hiN hkN hia hkb hik

end Go.Proofs.Ytnaoanmkepcinaa

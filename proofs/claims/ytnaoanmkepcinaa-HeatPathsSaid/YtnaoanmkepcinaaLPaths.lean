/- Heat: the law HeatPaths, walked. -/
import Derived.Test.YtnaoanmkepcinaaPathsPlain
import Derived.BigQuiet
namespace Go.Proofs.Ytnaoanmkepcinaa
open Go.RowKit

theorem stE_most (a b : List Int) : stE a b 5000 = 0 ∨ stE a b 5000 = 2 := by
  unfold stE
  split
  · rename_i h
    simp only [Bool.and_eq_true] at h
    obtain ⟨d1, d2, d3⟩ := drv_bd h.1.1.1
    obtain ⟨e1, e2, e3⟩ := drv_bd h.1.1.2
    have s1 := sum_bd (l := a) (B := 1000) fun x hx => by have := d3 x hx; omega
    have s2 := sum_bd (l := b) (B := 1000) fun x hx => by have := e3 x hx; omega
    rw [if_neg (by omega)]
    exact .inl rfl
  · exact .inr rfl

set_option maxRecDepth 100000 in
set_option maxHeartbeats 2000000 in
theorem law_paths (va : Value) (a : List Int) (vb : Value) (b : List Int) (w : World) (hva : Rd w va (ints a)) (_ : ∀ x ∈ a, (Lit.int .i64 x).wf = true) (hvb : Rd w vb (ints b)) (_ : ∀ x ∈ b, (Lit.int .i64 x).wf = true) :
    Calls Try.prog 12 #[va, vb] w fun e w' => e = .returned (.bool true) ∧ Below w.heap.size w w' := by
  have HVA := Lib.hid hva
  have HVB := Lib.hid hvb
  have HSN := Lib.hid (fun W => sane_any W)
  obtain ⟨aa, capa, rfl, hca, hcma, haa, _⟩ := hva
  obtain ⟨ab, capb, rfl, hcb, hcmb, hab, _⟩ := hvb
  rw [ints_length a] at *
  rw [ints_length b] at *
  unfold maxLen at hcma hcmb
  by_cases h1 : a.length > 20
  · clear haa hab
    go_enter Try.func12, Try.ntmps12
    go_wp2_with (first
      | (go_at_call 16; refine (HSN.out _).mono ?_; rintro e w2 ⟨rfl, hb2⟩))
    go_ret
    exact ⟨rfl, hb2⟩
  · by_cases h2 : b.length > 20
    · clear haa hab
      go_enter Try.func12, Try.ntmps12
      go_wp2_with (first
        | (go_at_call 16; refine (HSN.out _).mono ?_; rintro e w2 ⟨rfl, hb2⟩))
      go_ret
      exact ⟨rfl, hb2⟩
    · have H1 := Lib.hid (Steps_any _ _ a b 5000 w HVA.out HVB.out (by omega) (by omega))
      rcases stE_most a b with hE | hE
      · obtain ⟨q1, q2, q3, _, _⟩ := stE_zero hE
        obtain ⟨d1, d2, d3⟩ := drv_bd q1
        obtain ⟨e1, e2, e3⟩ := drv_bd q2
        have HP := Lib.hid (paths q1 q2 q3)
        have HL : Hid (stL a b 5000 = pre a b 2) := Lib.hid (by unfold stL; rw [if_pos hE]; rfl)
        have HKO := Lib.hid (pkE_ok q1 (Nat.le_trans HP.out.2.2.2 (by decide)) HP.out.2.2.1)
        rw [hE, HL.out] at H1
        have HS1 := Lib.hid (sum_take_bd (l := a) (by omega) (fun x hx => by have := d3 x hx; omega))
        have HS2 := Lib.hid (sum_take_bd (l := b) (by omega) (fun x hx => by have := e3 x hx; omega))
        have HXA := Lib.hid d3
        have HXB := Lib.hid e3
        have HSA := Lib.hid (fun k x (h : a[k]? = some x) => sum_snoc h)
        have HSB := Lib.hid (fun k x (h : b[k]? = some x) => sum_snoc h)
        have HA0 : Hid ((a.take 0).sum = 0) := Lib.hid (by simp)
        have HB0 : Hid ((b.take 0).sum = 0) := Lib.hid (by simp)
        have HAN : Hid ((a.take a.length).sum = a.sum) := Lib.hid (by rw [List.take_length])
        have HBN : Hid ((b.take b.length).sum = b.sum) := Lib.hid (by rw [List.take_length])
        have HNL := Lib.hid (fun k => nw_len a (pre a b 2) k)
        have HNS := Lib.hid (fun k x (h : (pre a b 2)[k]? = some x) => nw_succ a (pre a b 2) k x h)
        have HN0 : Hid (nw a (pre a b 2) 0 = a) := Lib.hid rfl
        have HEV := Lib.hid (fun W sv hb hl => Peak_any _ sv a (pre a b 2) W (HVA.out.below (w' := W) (B := w.heap.size) hb (Nat.le_refl _)) hl (by omega) (by have := HP.out.2.2.2; omega))
        rw [HKO.out.1, HKO.out.2, HP.out.2.1] at HEV
        have HOS := Lib.hid HP.out.2.2.1
        have HTO := Lib.hid HP.out.1
        have hst : (pre a b 2).length ≤ 10 := HP.out.2.2.2
        have HQ3 := Lib.hid q3
        generalize pre a b 2 = st at *
        rw [← q3] at H1 hcb HVB HBN ⊢
        have hmx : max a.sum b.sum = max a.sum b.sum := rfl
        clear q1 q2 q3 d3 e3 hE HP HKO HL hmx
        go_enter Try.func12, Try.ntmps12
        go_wp2_with (first
          | (go_at_call 42; (with_reducible refine H1.out.mono ?_); rintro e w1 ⟨u1, rfl, hu1, hb1⟩; have HR1 := Lib.hid (RdP.own hu1 rfl); obtain ⟨a3, c3, rfl⟩ := own_form hu1)
          | (at_builtin; refine appS el_int rfl rfl (w0 := w1) rfl rfl (by exact (Below.refl _ _).alloc (Nat.le_refl _) _) (by exact own_lit w1 w1.heap.size _ _ 0 (Nat.le_refl _) rfl (by decide)) (by exact HVA.out.below (hb1.alloc hb1.size _) (Nat.le_refl _)) (by exact ints_cell a) (by rw [ints_length]; omega) ?_; rw [ints_length, Nat.zero_add]; intro v1 w2 ho1 hb2 _; obtain ⟨g, c4, rfl, hg, _⟩ := own_some ho1 (by omega)))
        have HO0 := Lib.hid ho1
        clear ho1 hu1
        go_loopw [8, 9, 10] (fun s t i wr => ∃ k : Nat, k ≤ a.length ∧ i = .int .i64 k ∧ s = .int .i64 (a.take k).sum ∧ t = .int .i64 (b.take k).sum ∧ Hid (wr.ownsRow w1.heap.size 3 1 (.slice (some ⟨g, 0, none⟩) a.length c4) a.length (ints a)) ∧ Below w1.heap.size w1 wr) (fun _ _ i _ => a.length - (intOf i).toNat)
        case atStart => exact ⟨0, Nat.zero_le _, rfl, by rw [HA0.out], by rw [HB0.out], HO0, hb2⟩
        case round =>
          obtain ⟨k, hk, rfl, rfl, rfl, HO, hbel⟩ := hrel
          have hbw := hb1.trans (hbel.mono hb1.size)
          by_cases hlt : k < a.length
          · obtain ⟨b1, o1, rfl, hcell⟩ := (haa.below hbw (Nat.le_refl _)).cell (j := k) (by rw [ints_length]; exact hlt)
            obtain ⟨b2, o2, rfl, hcell2⟩ := (hab.below hbw (Nat.le_refl _)).cell (j := k) (by rw [ints_length]; have := HQ3.out; omega)
            obtain ⟨x, hx⟩ : ∃ x, a[k]? = some x := ⟨_, List.getElem?_eq_getElem hlt⟩
            obtain ⟨y, hy⟩ : ∃ y, b[k]? = some y := ⟨_, List.getElem?_eq_getElem (by have := HQ3.out; omega)⟩
            have c1 := hcell k _ (ints_get hx)
            have c2 := hcell2 k _ (ints_get hy)
            have HSA1 := Lib.hid (HSA.out k x hx)
            have HSB1 := Lib.hid (HSB.out k y hy)
            have hs1 := HS1.out k
            have hs2 := HS2.out k
            have hx1 := HXA.out x (List.mem_of_getElem? hx)
            have hy1 := HXB.out y (List.mem_of_getElem? hy)
            generalize (a.take k).sum = s at *
            generalize (b.take k).sum = t at *
            clear hcell hcell2 hx hy haa hab
            go_wp2_with fail
            go_quiet (fail)
            go_wp2_with fail
            go_roundw
            case rel => exact ⟨k + 1, by omega, by go_num, by rw [HSA1.out], by rw [HSB1.out], Lib.hid (own_drewN HO.out _), bel_drewN hbel _⟩
            case measure => simp [intOf]; omega
          · obtain rfl : k = a.length := by omega
            rw [HAN.out, HBN.out]
            obtain ⟨wo, hwo⟩ : ∃ wo, wo = wr := ⟨_, rfl⟩
            subst hwo
            go_wp2_with fail
            go_loopw [11] (fun i wr => ∃ k : Nat, k ≤ st.length ∧ i = .int .i64 k ∧ Hid (wr.ownsRow w1.heap.size 3 1 (.slice (some ⟨g, 0, none⟩) a.length c4) a.length (ints (nw a st k))) ∧ Below w1.heap.size w1 wr) (fun i _ => st.length - (intOf i).toNat)
            case atStart => exact ⟨0, Nat.zero_le _, rfl, by rw [HN0.out]; exact HO, hbel⟩
            case round =>
              obtain ⟨k, hk, rfl, HO, hbel⟩ := hrel
              by_cases hlt : k < st.length
              · obtain ⟨x, hx⟩ : ∃ x, st[k]? = some x := ⟨_, List.getElem?_eq_getElem hlt⟩
                obtain ⟨_, _, e1, _, _, ha3, _⟩ := HR1.out
                simp only [Value.slice.injEq] at e1
                obtain ⟨rfl, _, rfl⟩ := e1
                obtain ⟨b1, o1, rfl, f1, f2⟩ := RdP.cell (ha3.below hbel (Nat.le_refl _)) hx
                have HNS1 := Lib.hid (HNS.out k x hx)
                obtain ⟨⟨s1, s2⟩, s3, s4⟩ := okS_bd (HOS.out x (List.mem_of_getElem? hx))
                obtain ⟨s, y⟩ := x
                obtain ⟨i, rfl⟩ : ∃ i : Nat, s = i := ⟨s.toNat, by simp only at s1; omega⟩
                simp only [Int.toNat_natCast] at HNS1
                have hil : i < a.length := by simp only at s2; omega
                have HLN := HNL.out k
                obtain ⟨z, hz⟩ : ∃ z, (nw a st k)[i]? = some z := ⟨_, List.getElem?_eq_getElem (by omega)⟩
                have f3 : wr.cell? ⟨g, i, none⟩ = some (.int .i64 z) := by rw [HO.out.cellAt i (by omega)]; exact ints_get hz
                have f4 : wr.frozen? ⟨g, i, none⟩ = false := HO.out.frozenAt i
                have HO2 := Lib.hid (HO.out.stored i (.int .i64 y)).1
                rw [ints_set, ← HNS1.out] at HO2
                have HO3 : Hid ((wr.setCell ⟨g, i, none⟩ (.int .i64 y)).drew.ownsRow w1.heap.size 3 1 (.slice (some ⟨g, 0, none⟩) a.length c4) a.length (ints (nw a st (k + 1)))) := Lib.hid (own_drewN HO2.out 1)
                have HBL := Lib.hid (hbel.setCell (p := ⟨g, i, none⟩) hg (.int .i64 y)).drew
                clear hx ha3 hz HLN haa hab
                go_wp2_with fail
                go_region
                go_wp2_with fail
                go_roundw
                case rel => exact ⟨k + 1, by omega, by go_num, HO3, HBL.out⟩
                case measure => simp [intOf]; omega
              · obtain rfl : k = st.length := by omega
                have hbw := hb1.trans (hbel.mono hb1.size)
                have HPK := Lib.hid (HEV.out wr _ hbw (HR1.out.below hbel))
                have HRN := Lib.hid (Rd.own HO.out)
                rw [HTO.out] at HRN
                have HSM := Lib.hid (fun W hb => same_any b b _ _ W (HRN.out.below (w' := W) (B := wr.heap.size) hb (Nat.le_refl _)) (HVB.out.below (hbw.trans (hb.mono hbw.size)) (Nat.le_refl _)))
                rw [decide_eq_true (rfl : b = b)] at HSM
                generalize a.sum = sa at *
                generalize b.sum = sb at *
                clear haa hab
                go_wp2_with (first
                  | (go_at_call 18; refine HPK.out.mono ?_; rintro e w5 ⟨rfl, hb5⟩)
                  | (go_at_call 30; refine (HSM.out _ hb5).mono ?_; rintro e w6 ⟨rfl, hb6⟩)
                  | (go_at_call 16; refine (HSN.out _).mono ?_; rintro e w7 ⟨rfl, hb7⟩))
                go_ret
                have hb8 := hbw.trans (hb5.mono hbw.size)
                have hb9 := hb8.trans (hb6.mono hb8.size)
                exact ⟨rfl, hb9.trans (hb7.mono hb9.size)⟩
      · have HL : Hid (stL a b 5000 = []) := Lib.hid (stL_no hE (by decide))
        rw [hE, HL.out] at H1
        clear haa hab hE
        go_enter Try.func12, Try.ntmps12
        go_wp2_with (first
          | (go_at_call 42; (with_reducible refine H1.out.mono ?_); rintro e w1 ⟨u1, rfl, hu1, hb1⟩; obtain ⟨a3, c3, rfl⟩ := own_form hu1)
          | (go_at_call 16; refine (HSN.out _).mono ?_; rintro e w2 ⟨rfl, hb2⟩))
        go_ret
        exact ⟨rfl, hb1.trans (hb2.mono hb1.size)⟩

end Go.Proofs.Ytnaoanmkepcinaa

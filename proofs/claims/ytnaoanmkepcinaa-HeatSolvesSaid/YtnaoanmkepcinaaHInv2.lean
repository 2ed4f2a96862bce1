/- Heat: Inverse, the program's. -/
import Derived.Test.YtnaoanmkepcinaaHInv
namespace Go.Proofs.Ytnaoanmkepcinaa
open Go.RowKit

set_option maxRecDepth 100000 in
set_option maxHeartbeats 4000000 in
theorem Inverse_ok (v : Value) (m : List (List Int)) (w : World) (hv : RdM w v m) (hq1 : vB m = true) (hq3 : dt m.length m ≠ 0) :
    Calls Try.prog 25 #[.agg #[v]] w fun e w' => ∃ g vs, e = .returned (.tuple #[.slice (some ⟨g, 0, none⟩) m.length m.length, .int .i64 0]) ∧ OwnR w' w.heap.size g m.length m.length vs (tab m fun _ => m.length) ∧ Below w.heap.size w w' := by
  have HV := Lib.hid hv
  obtain ⟨h1, h2, h3⟩ := vB_bd hq1
  obtain ⟨vs, ⟨a, cap, rfl, hc, hcm, ha, _⟩, hr⟩ := hv
  rw [hr.1] at hc HV ⊢
  have hcall := Lib.hid (fun W hb => opened_any _ m W (HV.out.below (w' := W) hb) (by omega) (fun r hr => by rw [(h3 r hr).1]; omega))
  rw [hq1] at hcall
  simp only [if_true] at hcall
  have HDT : Hid (∀ W, Below w.heap.size w W → Calls Try.prog 49 #[.slice a m.length cap] W fun e w' => e = .returned (.int .i64 (dt m.length m)) ∧ Below W.heap.size W w') := Lib.hid fun W hb => by
    obtain ⟨b1, b2, b3, b4, b5⟩ := rep_bd hq1
    exact det_any m.length m _ _ W b1 (HV.out.below hb) rfl b2 b3 b4 b5
  have HCD : Hid (∀ i k W u, i < m.length → k < m.length → RdM W u (wo m k i) → Calls Try.prog 49 #[u] W fun e w' => e = .returned (.int .i64 (dt (m.length - 1) (wo m k i))) ∧ Below W.heap.size W w') := Lib.hid fun i k W u hi hk hu => by
    obtain ⟨b1, b2, b3, b4, b5⟩ := rep_bd hq1
    obtain ⟨c, hc⟩ : ∃ c, (rep m.length)[i]? = some c := ⟨_, List.getElem?_eq_getElem (by omega)⟩
    have hp := pr_erase _ i c hc
    have hc1 := b4 c (List.mem_of_getElem? hc)
    refine det_any (m.length - 1) (wo m k i) ((rep m.length).eraseIdx i) u W (by omega) hu (wo_len hk) (by rw [List.length_eraseIdx_of_lt (by omega), b2]) (b3.wo k i (by omega)) (fun c hc => b4 c (List.mem_of_mem_eraseIdx hc)) ?_
    obtain ⟨n, hn⟩ : ∃ n, m.length = n + 1 := ⟨m.length - 1, by omega⟩
    rw [hn] at hp b5 ⊢
    simp only [Nat.add_sub_cancel]
    have h2 : fac n * pr ((rep (n + 1)).eraseIdx i) ≤ fac (n + 1) * pr (rep (n + 1)) := by
      rw [← hp]
      exact Nat.mul_le_mul (Nat.le_mul_of_pos_left _ (by omega)) (Nat.le_mul_of_pos_left _ (by omega))
    omega
  have HWO := Lib.hid (fun W k i hb (hi : i < m.length) => without_any m _ m.length k i W (HV.out.below (w' := W) hb) (by omega) (by omega) (fun r hr => (h3 r hr).1) hi)
  have HCB := Lib.hid (fun i k hi hk => @cf_bd m hq1 i k hi hk)
  have hdb : -1000000000000000000 ≤ dt m.length m ∧ dt m.length m ≤ 1000000000000000000 := by
    obtain ⟨b1, b2, b3, b4, b5⟩ := rep_bd hq1
    have := (dt_bd m.length m _ rfl b2 b3).1
    omega
  have HRC : Hid (∀ i k, rc m i k = (rN (cf m i k) (dt m.length m), rD (cf m i k) (dt m.length m))) := Lib.hid fun i k => rfl
  have HCF : Hid (∀ i k, cf m i k = if (i + k) % 2 = 1 then -dt (m.length - 1) (wo m k i) else dt (m.length - 1) (wo m k i)) := Lib.hid fun i k => by
    unfold cf; rw [alt_two]; split <;> simp
  have HTG := Lib.hid (fun c i hi => @tab_get m c i hi)
  have HTS := Lib.hid (fun c d i hi hd => @tab_set m c d i hi hd)
  have HTC := Lib.hid (fun c d h => @tab_congr m c d h)
  have HRL := Lib.hid (rowL_len m)
  have HMD := Lib.hid (fun W B g n h hn => @OwnR.made W B g n m h hn)
  generalize dt m.length m = d at *
  have hdz : (d == 0) = false := by simpa using hq3
  clear hq1 h3 hr ha
  generalize hN : m.length = N at *
  have HN := Lib.hid hN
  clear hN
  have hb0 : Hid (Below w.heap.size w (w.alloc (.cells #[.slice a N cap] 24))) := Lib.hid ((Below.refl _ _).alloc (Nat.le_refl _) _)
  go_enter Try.func25, Try.ntmps25
  go_wp2_with (first
    | (go_at_call 48; refine (hcall.out _ hb0.out).mono ?_; rintro e w1 ⟨rfl, hb1⟩; have hb01 := hb0.out.trans (hb1.mono hb0.out.size))
    | (go_at_call 49; refine (HDT.out _ (hb01.alloc hb01.size _)).mono ?_; rintro e w2 ⟨rfl, hb2⟩; have hb02 := (hb01.alloc hb01.size _).trans (hb2.mono (by have := hb01.size; simp; omega)); have c1 : w2.cell? ⟨w1.heap.size, 0, none⟩ = some (.slice a N cap) := cell_below (World.cell?_alloc_at _ _ _ _ rfl) hb2; have hz1 := hb01.size)
    | (go_at_call 63; refine (bsize_any _ _ _ _).mono ?_; rintro e w3 ⟨rfl, hb3⟩; have hb03 := hb02.trans (hb3.mono hb02.size); have c2 : w3.cell? ⟨w1.heap.size, 0, none⟩ = some (.slice a N cap) := cell_below c1 hb3)
    | (at_make; refine mkS el_rrow rfl rfl rfl rfl rfl (by omega) ?_; intro w4 ho4 hb4; have hb04 := hb03.trans (hb4.mono hb03.size)))
  have hz3 := hb03.size
  have HO4 := Lib.hid (HMD.out _ _ _ _ ho4 rfl)
  generalize hg : w3.heap.size = g at *
  have hgw : w1.heap.size < g := by rw [← hg]; exact World.block_lt_of_cell? _ _ c2
  have hgw3 : g = w3.heap.size := hg.symm
  have HG3 := Lib.hid hgw3
  have hz3' : w.heap.size ≤ w3.heap.size := hb03.size
  clear ho4 hg hgw3
  go_loopw [30] (fun i wr => ∃ k : Nat, k ≤ N ∧ i = .int .i64 k ∧ Hid (∃ vs, OwnR wr w3.heap.size g N N vs (tab m fun j => if j < k then N else 0)) ∧ Below w3.heap.size w3 wr) (fun i _ => N - (intOf i).toNat)
  case atStart => exact ⟨0, Nat.zero_le _, rfl, Lib.hid ⟨_, by rw [← HG3.out]; have := HO4.out; rwa [HTC.out (fun _ => 0) (fun j => if j < 0 then N else 0) (fun j _ => by simp)] at this⟩, by rw [← HG3.out]; exact hb4⟩
  case round =>
    obtain ⟨i, hi, rfl, HO, hbel⟩ := hrel
    by_cases hlt : i < N
    · have hgz : g < N + g + 1 := by omega
      go_wp2_with fail
      go_loopw [35] (fun i2 wr => ∃ k : Nat, k ≤ N ∧ i2 = .int .i64 k ∧ Hid (∃ vs, OwnR wr w3.heap.size g N N vs (tab m fun j => if j < i then N else if j = i then k else 0)) ∧ Below w3.heap.size w3 wr) (fun i2 _ => N - (intOf i2).toNat)
      case atStart => exact ⟨0, Nat.zero_le _, rfl, Lib.hid (by obtain ⟨vs, h⟩ := HO.out; exact ⟨vs, by rwa [HTC.out (fun j => if j < i then N else 0) (fun j => if j < i then N else if j = i then 0 else 0) (fun j _ => by split <;> simp)] at h⟩), hbel⟩
      case round =>
        obtain ⟨k, hk, rfl, HO, hbel⟩ := hrel
        by_cases hkt : k < N
        · have hbw := hb03.trans (hbel.mono hz3')
          have cB : wr.cell? ⟨w1.heap.size, 0, none⟩ = some (.slice a N cap) := cell_below c2 hbel
          have HTI := Lib.hid (HTG.out (fun j => if j < i then N else if j = i then k else 0) i hlt)
          have HTN := Lib.hid (HTS.out (fun j => if j < i then N else if j = i then k else 0) (fun j => if j < i then N else if j = i then k + 1 else 0) i hlt (fun j _ => by
            by_cases e : j = i
            · subst e; simp
            · simp [e]))
          simp only [Nat.lt_irrefl, if_false, if_true] at HTI HTN
          have hcb := HCB.out i k hlt hkt
          have HWK := Lib.hid (HWO.out wr k i hbw hlt)
          have HCK := Lib.hid (fun W u hu => HCD.out i k W u hlt hkt hu)
          have HCF1 := Lib.hid (HCF.out i k)
          have HRC1 := Lib.hid (HRC.out i k)
          have hRL := HRL.out i k
          generalize dt (N - 1) (wo m k i) = dk at *
          by_cases hp : (i + k) % 2 = 1
          · have hrm : ((i : Int) + (k : Int)).tmod 2 = 1 := by have : ((i : Int) + (k : Int)).tmod 2 = (((i + k) % 2 : Nat) : Int) := rfl; rw [this, hp]; rfl
            rw [if_pos hp] at HCF1
            generalize hdk2 : -dk = dv at *
            have hdv : -1000000000000000000 ≤ dv ∧ dv ≤ 1000000000000000000 := by omega
            have HDV := Lib.hid hdk2
            have HRT := Lib.hid (fun W => ratio_any dv d W hdv hdb hq3)
            have hnd : -1000000000000000000 ≤ dk ∧ dk ≤ 1000000000000000000 := hcb
            go_wp2_with (first
              | (go_at_call 67; refine HWK.out.mono ?_; rintro e w5 ⟨u1, rfl, hu1, hb5⟩)
              | (go_at_call 49; refine (HCK.out _ _ hu1.rd).mono ?_; rintro e w6 ⟨rfl, hb6⟩))
            have hb56 := hb5.trans (hb6.mono hb5.size)
            obtain ⟨vs, HOR⟩ := HO.out
            have HO6 := Lib.hid (HOR.below hb56)
            have hvl : vs.length = N := by have := HOR.top.1; simpa using this
            obtain ⟨x, hx⟩ : ∃ x, vs[i]? = some x := ⟨_, List.getElem?_eq_getElem (by omega)⟩
            have HX := Lib.hid hx
            obtain ⟨ax, cx, rfl⟩ := own_form (HOR.row i x _ hx HTI.out)
            rw [hRL] at HX
            have c8 : w6.cell? ⟨g, i, none⟩ = some (.slice ax k cx) := by rw [HO6.out.top.cellAt i (by omega)]; exact HX.out
            have hb36 := hbel.trans (hb56.mono hbel.size)
            have hN0 : (i : Int) < (N : Int) := by omega
            clear HOR hvl hx cB hb5 hb6
            go_region_law (first
              | (refine stepK el_rat rfl rfl (w0 := w3) rfl rfl (heap_alloc_new _ _) (by exact hb39.alloc hb39.size _) (by exact (by have := HO9.out.row i _ _ HX.out HTI.out; rw [hRL] at this; exact this.alloc _)) rfl (by simp [Value.oneCell']) (by omega) ?_; intro g' cap' w11 ho11 hg11 hat11 hlt11 hb11; have HP := Lib.hid (OwnR.push (q := (rN dv d, rD dv d)) (HO9.out.below ((Below.refl _ _).alloc (Nat.le_refl _) _)) HX.out HTI.out (by rw [hRL, pairs_append]; exact ho11) hg11 (hat11.imp_right (fun e => Nat.le_of_eq e.symm))); have c11 : w11.cell? ⟨g, i, none⟩ = some (.slice ax k cx) := by { rw [HP.out.2.cellAt i (by omega)]; exact HX.out }; have f11 := HP.out.2.frozenAt i)
              | (go_simp; go_at_call 64; refine (HRT.out _).mono ?_; rintro e w9 ⟨rfl, hb9⟩; have hb69 : Below w6.heap.size w6 w9 := (Below.refl _ _).drew.trans hb9; have c9 := cell_below c8 hb69; have hgl9 : g < w9.heap.size := World.block_lt_of_cell? _ _ c9; have hb39 := hb36.trans (hb69.mono hb36.size); have HO9 := Lib.hid (HO6.out.below hb69)))
            all_goals (
              go_wp2_with fail
              go_roundw
              case rel => exact ⟨k + 1, by omega, by go_num, Lib.hid ⟨_, by have h := HP.out.1; rw [hRL] at h; rw [← HTN.out, HRC1.out, HCF1.out]; exact h⟩, hb11.setCell (p := ⟨g, i, none⟩) (Nat.le_of_eq HG3.out.symm) _⟩
              case measure => simp [intOf]; omega)
          · have hrm : ((i : Int) + (k : Int)).tmod 2 = 0 := by have : ((i : Int) + (k : Int)).tmod 2 = (((i + k) % 2 : Nat) : Int) := rfl; rw [this, show (i + k) % 2 = 0 by omega]; rfl
            rw [if_neg hp] at HCF1
            obtain ⟨dv, hdk2⟩ : ∃ x, dk = x := ⟨_, rfl⟩
            subst hdk2
            have hdk2 : dk = dk := rfl
            have hdv : -1000000000000000000 ≤ dk ∧ dk ≤ 1000000000000000000 := by omega
            have HDV := Lib.hid hdk2
            have HRT := Lib.hid (fun W => ratio_any dk d W hdv hdb hq3)
            go_wp2_with (first
              | (go_at_call 67; refine HWK.out.mono ?_; rintro e w5 ⟨u1, rfl, hu1, hb5⟩)
              | (go_at_call 49; refine (HCK.out _ _ hu1.rd).mono ?_; rintro e w6 ⟨rfl, hb6⟩))
            have hb56 := hb5.trans (hb6.mono hb5.size)
            obtain ⟨vs, HOR⟩ := HO.out
            have HO6 := Lib.hid (HOR.below hb56)
            have hvl : vs.length = N := by have := HOR.top.1; simpa using this
            obtain ⟨x, hx⟩ : ∃ x, vs[i]? = some x := ⟨_, List.getElem?_eq_getElem (by omega)⟩
            have HX := Lib.hid hx
            obtain ⟨ax, cx, rfl⟩ := own_form (HOR.row i x _ hx HTI.out)
            rw [hRL] at HX
            have c8 : w6.cell? ⟨g, i, none⟩ = some (.slice ax k cx) := by rw [HO6.out.top.cellAt i (by omega)]; exact HX.out
            have hb36 := hbel.trans (hb56.mono hbel.size)
            have hN0 : (i : Int) < (N : Int) := by omega
            clear HOR hvl hx cB hb5 hb6
            go_region_law (first
              | (refine stepK el_rat rfl rfl (w0 := w3) rfl rfl (heap_alloc_new _ _) (by exact hb39.alloc hb39.size _) (by exact (by have := HO9.out.row i _ _ HX.out HTI.out; rw [hRL] at this; exact this.alloc _)) rfl (by simp [Value.oneCell']) (by omega) ?_; intro g' cap' w11 ho11 hg11 hat11 hlt11 hb11; have HP := Lib.hid (OwnR.push (q := (rN dk d, rD dk d)) (HO9.out.below ((Below.refl _ _).alloc (Nat.le_refl _) _)) HX.out HTI.out (by rw [hRL, pairs_append]; exact ho11) hg11 (hat11.imp_right (fun e => Nat.le_of_eq e.symm))); have c11 : w11.cell? ⟨g, i, none⟩ = some (.slice ax k cx) := by { rw [HP.out.2.cellAt i (by omega)]; exact HX.out }; have f11 := HP.out.2.frozenAt i)
              | (go_simp; go_at_call 64; refine (HRT.out _).mono ?_; rintro e w9 ⟨rfl, hb9⟩; have hb69 : Below w6.heap.size w6 w9 := (Below.refl _ _).drew.trans hb9; have c9 := cell_below c8 hb69; have hgl9 : g < w9.heap.size := World.block_lt_of_cell? _ _ c9; have hb39 := hb36.trans (hb69.mono hb36.size); have HO9 := Lib.hid (HO6.out.below hb69)))
            all_goals (
              go_wp2_with fail
              go_roundw
              case rel => exact ⟨k + 1, by omega, by go_num, Lib.hid ⟨_, by have h := HP.out.1; rw [hRL] at h; rw [← HTN.out, HRC1.out, HCF1.out]; exact h⟩, hb11.setCell (p := ⟨g, i, none⟩) (Nat.le_of_eq HG3.out.symm) _⟩
              case measure => simp [intOf]; omega)
        · obtain rfl : k = N := by omega
          go_wp2_with fail
          go_roundw
          case rel => exact ⟨i + 1, by omega, by go_num, Lib.hid (by obtain ⟨vs, h⟩ := HO.out; exact ⟨vs, by rwa [HTC.out (fun j => if j < i then k else if j = i then k else 0) (fun j => if j < i + 1 then k else 0) (fun j _ => by
            by_cases e : j = i
            · subst e; simp
            · by_cases e2 : j < i
              · simp [e2, show j < i + 1 by omega]
              · simp [e, e2, show ¬ j < i + 1 by omega])] at h⟩), hbel⟩
          case measure => simp [intOf]; omega
    · obtain rfl : i = N := by omega
      have HF := HO
      go_wp2_with fail
      go_ret2
      obtain ⟨vs, h⟩ := HO.out
      rw [HTC.out (fun j => if j < i then i else 0) (fun _ => i) (fun j hj => by simp [hj])] at h
      exact ⟨_, vs, rfl, OwnR.le h hz3', hb03.trans (hbel.mono hz3')⟩

end Go.Proofs.Ytnaoanmkepcinaa

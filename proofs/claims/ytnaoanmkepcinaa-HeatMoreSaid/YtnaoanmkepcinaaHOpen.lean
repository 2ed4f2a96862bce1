/- Heat: ref Valid, Wide, opened, size, phases, powers, isPowers, isPhases. -/
import Derived.Test.YtnaoanmkepcinaaHValid
namespace Go.Proofs.Ytnaoanmkepcinaa
open Go.RowKit

theorem refValid_any (v : Value) (m : List (List Int)) (w : World) (hv : RdM w v m) (hw : ∀ r ∈ m, r.length ≤ 10) :
    Calls Try.prog 15 #[.agg #[v]] w fun e w' => e = .returned (.bool (vB m)) ∧ Below w.heap.size w w' := by
  obtain ⟨vs, hv, hr⟩ := hv
  obtain ⟨a, cap, rfl, hc, hcm, ha, _⟩ := hv
  have hE := hr.1
  have HR := Lib.hid hr
  rw [hE] at hc ⊢
  clear hr
  have HV : Hid (vB m = (inB 1 m.length 5 && m.all (rowB m.length))) := Lib.hid rfl
  have hb0 : Hid (Below w.heap.size w (w.alloc (.cells #[.slice a m.length cap] 24))) := Lib.hid ((Below.refl _ _).alloc (Nat.le_refl _) _)
  by_cases h1 : m.length < 1
  · have hq : Hid (vB m = false) := Lib.hid (by rw [HV.out, (inB_false 1 m.length 5).2 (by omega)]; rfl)
    go_enter Try.func15, Try.ntmps15
    go_wp2
    go_ret
    exact ⟨by rw [hq.out]; rfl, hb0.out⟩
  · by_cases h2 : 5 < m.length
    · have hq : Hid (vB m = false) := Lib.hid (by rw [HV.out, (inB_false 1 m.length 5).2 (by omega)]; rfl)
      go_enter Try.func15, Try.ntmps15
      go_wp2
      go_ret
      exact ⟨by rw [hq.out]; rfl, hb0.out⟩
    · have hq : Hid (vB m = m.all (rowB m.length)) := Lib.hid (by rw [HV.out, (inB_iff 1 m.length 5).2 (by omega)]; rfl)
      obtain ⟨n, hn⟩ : ∃ n, n = m.length := ⟨_, rfl⟩
      rw [← hn] at h1 h2 hc hq hE hb0 ⊢
      have HN := Lib.hid hn
      clear hn HV
      go_enter Try.func15, Try.ntmps15
      go_wp2
      go_loop [4] (fun i => ∃ k : Nat, k ≤ n ∧ i = .int .i64 k ∧ Hid (∀ r ∈ m.take k, rowB n r = true)) (fun i => n - (intOf i).toNat)
      case atStart => exact ⟨0, Nat.zero_le _, rfl, Lib.hid (by simp)⟩
      case round =>
        obtain ⟨k, hk, rfl, HA⟩ := hrel
        by_cases hlt : k < n
        · obtain ⟨b, off, rfl, hcell⟩ := ha.cell (j := k) (by rw [hE]; exact hlt)
          obtain ⟨x, hx⟩ : ∃ x, vs[k]? = some x := ⟨_, List.getElem?_eq_getElem (by rw [hE]; exact hlt)⟩
          obtain ⟨r, hrr⟩ : ∃ r, m[k]? = some r := ⟨_, List.getElem?_eq_getElem (by have := HN.out; omega)⟩
          have c1 := cell_alloc (hcell k _ hx) (.cells #[.slice (some ⟨b, off, none⟩) n cap] 24)
          have hlen := hw r (List.mem_of_getElem? hrr)
          have HRR := Lib.hid ((HR.out.2 k x r hx hrr).below hb0.out (Nat.le_refl _))
          obtain ⟨a1, cap1, rfl, hc1, hcm1, _, _⟩ := (HR.out.2 k x r hx hrr)
          have HX := Lib.hid hrr
          rw [ints_length] at *
          clear hcell hx hrr ha
          have hrow : rowB n r = (allB r (-200) 200 && decide ((r.length : Int) = n)) := by unfold rowB; rw [Bool.and_comm]; congr 1; simp; omega
          cases hq2 : rowB n r with
          | true =>
            have HA2 : Hid (∀ r ∈ m.take (k + 1), rowB n r = true) := Lib.hid fun y hy => by
              rw [List.take_add_one, HX.out] at hy
              rcases List.mem_append.1 hy with h | h
              · exact HA.out y h
              · simp at h; rw [h]; exact hq2
            rw [hq2] at hrow
            have HQ := Lib.hid hrow
            clear hrow hq2
            go_wp2_with (go_at_call 47; refine (refAll_any _ r _ _ _ _ HRR.out (by omega)).mono ?_; rw [← HQ.out]; rintro e w' ⟨rfl, rfl⟩)
            go_round
            case rel => exact ⟨k + 1, by omega, by go_num, HA2⟩
            case measure => simp [intOf]; omega
          | false =>
            have HF : Hid (m.all (rowB n) = false) := Lib.hid (by rw [List.all_eq_false]; exact ⟨r, List.mem_of_getElem? HX.out, by rw [hq2]; decide⟩)
            rw [hq2] at hrow
            have HQ := Lib.hid hrow
            clear hrow hq2
            go_wp2_with (go_at_call 47; refine (refAll_any _ r _ _ _ _ HRR.out (by omega)).mono ?_; rw [← HQ.out]; rintro e w' ⟨rfl, rfl⟩)
            go_ret
            exact ⟨by rw [hq.out, HF.out]; rfl, hb0.out⟩
        · obtain rfl : k = n := by omega
          have HT : Hid (m.all (rowB k) = true) := Lib.hid (by rw [List.all_eq_true]; have := HA.out; rw [HN.out, List.take_length, ← HN.out] at this; exact this)
          go_wp2
          go_ret
          exact ⟨by rw [hq.out, HT.out]; rfl, hb0.out⟩

theorem wide_any (v : Value) (m : List (List Int)) (w : World) (hv : RdM w v m) :
    Calls Try.prog 14 #[.agg #[v]] w fun e w' => e = .returned (.bool (wideB m)) ∧ Below w.heap.size w w' := by
  obtain ⟨vs, hv, hr⟩ := hv
  obtain ⟨a, cap, rfl, hc, hcm, ha, _⟩ := hv
  have hE := hr.1
  have HR := Lib.hid hr
  rw [hE] at hc ⊢
  clear hr
  have hb0 : Hid (Below w.heap.size w (w.alloc (.cells #[.slice a m.length cap] 24))) := Lib.hid ((Below.refl _ _).alloc (Nat.le_refl _) _)
  have hml : m.length ≤ 9223372036854775807 := Nat.le_trans (Nat.le_trans hc hcm) (by decide)
  obtain ⟨n, hn⟩ : ∃ n, n = m.length := ⟨_, rfl⟩
  have hwide : Hid (wideB m = (m.any (fun r => decide (10 < r.length)) || decide (10 < n))) := Lib.hid (by rw [hn]; rfl)
  rw [← hn] at hc hE hb0 hml ⊢
  have HN := Lib.hid hn
  clear hn
  go_enter Try.func14, Try.ntmps14
  go_wp2
  go_loop [3] (fun i => ∃ k : Nat, k ≤ n ∧ i = .int .i64 k ∧ Hid (∀ r ∈ m.take k, r.length ≤ 10)) (fun i => n - (intOf i).toNat)
  case atStart => exact ⟨0, Nat.zero_le _, rfl, Lib.hid (by simp)⟩
  case round =>
    obtain ⟨k, hk, rfl, HA⟩ := hrel
    by_cases hlt : k < n
    · obtain ⟨b, off, rfl, hcell⟩ := ha.cell (j := k) (by rw [hE]; exact hlt)
      obtain ⟨x, hx⟩ : ∃ x, vs[k]? = some x := ⟨_, List.getElem?_eq_getElem (by rw [hE]; exact hlt)⟩
      obtain ⟨r, hrr⟩ : ∃ r, m[k]? = some r := ⟨_, List.getElem?_eq_getElem (by have := HN.out; omega)⟩
      have c1 := cell_alloc (hcell k _ hx) (.cells #[.slice (some ⟨b, off, none⟩) n cap] 24)
      obtain ⟨a1, cap1, rfl, hc1, hcm1, _, _⟩ := (HR.out.2 k x r hx hrr)
      have HX := Lib.hid hrr
      rw [ints_length] at *
      clear hcell hx hrr ha
      by_cases hq : r.length ≤ 10
      · have HA2 : Hid (∀ r ∈ m.take (k + 1), r.length ≤ 10) := Lib.hid fun y hy => by
          rw [List.take_add_one, HX.out] at hy
          rcases List.mem_append.1 hy with h | h
          · exact HA.out y h
          · simp at h; rw [h]; exact hq
        have hd : decide ((10 : Int) < (r.length : Int)) = false := by simp; omega
        clear hq
        go_wp2
        go_round
        case rel => exact ⟨k + 1, by omega, by go_num, HA2⟩
        case measure => simp [intOf]; omega
      · have HF : Hid (wideB m = true) := Lib.hid (by rw [hwide.out, List.any_eq_true.2 ⟨r, List.mem_of_getElem? HX.out, by simp; omega⟩]; rfl)
        have hd : decide ((10 : Int) < (r.length : Int)) = true := by simp; omega
        clear hq
        go_wp2
        go_ret
        exact ⟨by rw [HF.out]; rfl, hb0.out⟩
    · obtain rfl : k = n := by omega
      have HT : Hid (wideB m = decide (10 < k)) := Lib.hid (by
        rw [hwide.out]
        have : m.any (fun r => decide (10 < r.length)) = false := by
          rw [List.any_eq_false]; have := HA.out; rw [HN.out, List.take_length] at this
          intro r hr; have := this r hr; simp; omega
        rw [this, Bool.false_or])
      have hd : decide ((10 : Int) < (k : Int)) = decide (10 < k) := by simp; omega
      obtain ⟨t, ht⟩ : ∃ t, t = decide (10 < k) := ⟨_, rfl⟩
      rw [← ht] at hd HT
      clear ht
      go_wp2
      go_ret
      exact ⟨by rw [HT.out]; rfl, hb0.out⟩

theorem frozen_below {w w' : World} {b o : Nat} (h : w.frozen? ⟨b, o, none⟩ = false) (hl : b < w.heap.size) (hb : Below w.heap.size w w') : w'.frozen? ⟨b, o, none⟩ = false := by
  unfold World.frozen? at h ⊢
  rw [hb.block b hl]
  exact h

theorem opened_any (v : Value) (m : List (List Int)) (w : World) (hv : RdM w v m) (hl : m.length ≤ 10) (hw : ∀ r ∈ m, r.length ≤ 10) :
    Calls Try.prog 48 #[.agg #[v]] w fun e w' => e = .returned (.tuple #[.agg #[if vB m then v else .slice none 0 0], .int .i64 (if vB m then 0 else 60)]) ∧ Below w.heap.size w w' := by
  have HV := Lib.hid hv
  obtain ⟨vs, ⟨a, cap, rfl, hc, hcm, ha, _⟩, hr⟩ := hv
  rw [hr.1] at hc HV ⊢
  clear hr ha
  have hb0 : Hid (Below w.heap.size w (((w.alloc (.cells #[.slice a m.length cap] 24)).alloc (.cells #[.slice none 0 0] 71)))) := Lib.hid (((Below.refl _ _).alloc (Nat.le_refl _) _).alloc (by simp) _)
  have hcall := Lib.hid (fun W hb => valid_any _ m W (HV.out.below (w' := W) hb) hl hw)
  generalize m.length = n at *
  cases hq : vB m with
  | true =>
    rw [hq] at hcall
    simp only [if_true]
    clear hq
    go_enter Try.func48, Try.ntmps48
    go_wp2_with (go_at_call 41; refine (hcall.out _ hb0.out).mono ?_; rintro e w1 ⟨rfl, hb1⟩; have c1 : w1.cell? ⟨w.heap.size, 0, none⟩ = some (.slice a n cap) := cell_below (cell_alloc (World.cell?_alloc_at _ _ _ _ rfl) _) hb1; have c2 : w1.cell? ⟨w.heap.size + 1, 0, none⟩ = some (.slice none 0 0) := cell_below (by simp) hb1; have c3 : w1.frozen? ⟨w.heap.size + 1, 0, none⟩ = false := frozen_below (by simp) (by simp) hb1)
    have c4 : (w1.setCell ⟨w.heap.size + 1, 0, none⟩ (.slice a n cap)).cell? ⟨w.heap.size + 1, 0, none⟩ = some (.slice a n cap) := World.cell?_setCell_same _ _ _ c2
    refine bodyPost_ret (v := .tuple #[.agg #[.slice a n cap], .int .i64 0]) (by simp [results, Try.results48, go_sem, c4]) rfl ?_
    exact ⟨rfl, (hb0.out.trans (hb1.mono hb0.out.size)).setCell (p := ⟨w.heap.size + 1, 0, none⟩) (by simp) _⟩
  | false =>
    rw [hq] at hcall
    simp only [Bool.false_eq_true, if_false]
    clear hq
    go_enter Try.func48, Try.ntmps48
    go_wp2_with (go_at_call 41; refine (hcall.out _ hb0.out).mono ?_; rintro e w1 ⟨rfl, hb1⟩; have c1 : w1.cell? ⟨w.heap.size, 0, none⟩ = some (.slice a n cap) := cell_below (cell_alloc (World.cell?_alloc_at _ _ _ _ rfl) _) hb1; have c2 : w1.cell? ⟨w.heap.size + 1, 0, none⟩ = some (.slice none 0 0) := cell_below (by simp) hb1; have c3 : w1.frozen? ⟨w.heap.size + 1, 0, none⟩ = false := frozen_below (by simp) (by simp) hb1)
    have c4 : (w1.setCell ⟨w.heap.size + 1, 0, none⟩ (.slice none 0 0)).cell? ⟨w.heap.size + 1, 0, none⟩ = some (.slice none 0 0) := World.cell?_setCell_same _ _ _ c2
    refine bodyPost_ret (v := .tuple #[.agg #[.slice none 0 0], .int .i64 60]) (by simp [results, Try.results48, go_sem, c4]) rfl ?_
    exact ⟨rfl, (hb0.out.trans (hb1.mono hb0.out.size)).setCell (p := ⟨w.heap.size + 1, 0, none⟩) (by simp) _⟩

end Go.Proofs.Ytnaoanmkepcinaa

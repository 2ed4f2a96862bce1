/- Heat: all, Valid, Wide, opened, size, phases, powers in both texts. -/
import Derived.Test.YtnaoanmkepcinaaHBase
namespace Go.Proofs.Ytnaoanmkepcinaa
open Go.RowKit

theorem any_not_all (l : List Int) (lo hi : Int) : (List.range l.length).any (fun j => !inB lo (l.getD j 0) hi) = !allB l lo hi := by
  unfold allB
  rw [Bool.eq_iff_iff]
  simp only [List.any_eq_true, List.mem_range, Bool.not_eq_true', List.all_eq_false]
  constructor
  · rintro ⟨j, hj, h⟩
    exact ⟨l.getD j 0, by rw [List.getD_eq_getElem?_getD, List.getElem?_eq_getElem hj]; exact List.getElem_mem hj, by rw [h]; decide⟩
  · rintro ⟨x, hx, h⟩
    obtain ⟨j, hj, rfl⟩ := List.mem_iff_getElem.1 hx
    refine ⟨j, hj, ?_⟩
    rw [List.getD_eq_getElem?_getD, List.getElem?_eq_getElem hj]
    simpa using h

theorem allC (l : List Int) (lo hi : Int) (B1 B2 : Nat) (w : World) (h1 : w.cell? ⟨B1, 0, none⟩ = some (.int .i64 lo)) (h2 : w.cell? ⟨B2, 0, none⟩ = some (.int .i64 hi)) :
    PredB 85 #[.pointer (some ⟨B1, 0, none⟩), .pointer (some ⟨B2, 0, none⟩)] (ints l) (fun j => !inB lo (l.getD j 0) hi) w := fun W j x hx hb => by
  have g1 := cell_below h1 hb
  have g2 := cell_below h2 hb
  have hj : j < l.length := by
    have := (List.getElem?_eq_some_iff.1 hx).1
    rwa [ints_length] at this
  rw [ints_getD hj] at hx
  obtain rfl := Option.some.inj hx
  show Calls Try.prog 85 #[.int .i64 (l.getD j 0), .pointer (some ⟨B1, 0, none⟩), .pointer (some ⟨B2, 0, none⟩)] W fun e w' => e = .returned (.bool (!inB lo (l.getD j 0) hi)) ∧ Below W.heap.size W w'
  generalize l.getD j 0 = y
  clear h1 h2 hx hb
  go_enter Try.func85, Try.ntmps85
  go_wp2_with (go_at_call 53; refine (between_any _ _ _ _).mono ?_; rintro e w' ⟨rfl, rfl⟩)
  go_ret
  exact ⟨rfl, Below.refl _ _⟩

theorem all_any (v : Value) (l : List Int) (lo hi : Int) (w : World) (hv : Rd w v (ints l)) (hn : l.length ≤ 4000000) :
    Calls Try.prog 70 #[v, .int .i64 lo, .int .i64 hi] w fun e w' => e = .returned (.bool (allB l lo hi)) ∧ Below w.heap.size w w' := by
  have eg : ∀ args w, (callFunc 85 args).run Try.prog w = .ok (.enter 85 args) w := enters_of Try.func85 (by kernel_rfl) rfl
  have HV := Lib.hid hv
  obtain ⟨a, cap, rfl, hc, hcm, ha, _⟩ := hv
  have hany := Lib.hid (any_not_all l lo hi)
  rw [ints_length] at *
  clear ha
  have hlen : Hid ((ints l).length ≤ 4000000) := Lib.hid (by rw [ints_length]; exact hn)
  have hcall : Hid (∀ W : World, Below w.heap.size w W → W.cell? ⟨w.heap.size, 0, none⟩ = some (.int .i64 lo) → W.cell? ⟨w.heap.size + 1, 0, none⟩ = some (.int .i64 hi) → _) := Lib.hid fun W hb h1 h2 =>
    has_int _ 85 _ eg (ints l) _ W (allC l lo hi w.heap.size (w.heap.size + 1) W h1 h2) (HV.out.below hb (Nat.le_refl _)) hlen.out (!allB l lo hi) (by rw [ints_length]; exact hany.out)
  generalize allB l lo hi = t at *
  go_enter Try.func70, Try.ntmps70
  go_wp2_with (go_at_call 84; refine (hcall.out _ (((Below.refl _ _).alloc (Nat.le_refl _) _).alloc (by simp) _) (cell_alloc (by simp) _) (by simp)).mono ?_; rintro e w' ⟨rfl, hb'⟩)
  go_ret
  refine ⟨by simp, ?_⟩
  exact (((Below.refl w.heap.size w).alloc (Nat.le_refl _) _).alloc (by simp) _).trans (hb'.mono (by simp; omega))

theorem refAll_any (v : Value) (l : List Int) (n lo hi : Int) (w : World) (hv : Rd w v (ints l)) (hn : l.length ≤ 4000000) :
    Calls Try.prog 47 #[v, .int .i64 n, .int .i64 lo, .int .i64 hi] w fun e w' => e = .returned (.bool (allB l lo hi && decide ((l.length : Int) = n))) ∧ w = w' := by
  obtain ⟨a, cap, rfl, hc, hcm, ha, _⟩ := hv
  rw [ints_length] at *
  go_enter Try.func47, Try.ntmps47
  go_wp2_with fail
  go_loop [9] (fun i => ∃ k : Nat, k ≤ l.length ∧ i = .int .i64 k ∧ Hid (∀ x ∈ l.take k, inB lo x hi = true)) (fun i => l.length - (intOf i).toNat)
  case atStart => exact ⟨0, Nat.zero_le _, rfl, Lib.hid (by simp)⟩
  case round =>
    obtain ⟨k, hk, rfl, HA⟩ := hrel
    by_cases hlt : k < l.length
    · obtain ⟨b, off, rfl, hcell⟩ := ha.cell (j := k) (by rw [ints_length]; exact hlt)
      obtain ⟨x, hx⟩ : ∃ x, l[k]? = some x := ⟨_, List.getElem?_eq_getElem hlt⟩
      have c1 := hcell k _ (ints_get hx)
      have HX := Lib.hid hx
      clear hcell hx ha
      cases hq : inB lo x hi with
      | true =>
        have HA2 : Hid (∀ x ∈ l.take (k + 1), inB lo x hi = true) := Lib.hid fun y hy => by
          rw [List.take_add_one, HX.out] at hy
          rcases List.mem_append.1 hy with h | h
          · exact HA.out y h
          · simp at h; rw [h]; exact hq
        have HQ := Lib.hid hq
        clear hq
        go_wp2_with (go_at_call 56; refine (within_any _ _ _ _).mono ?_; rw [HQ.out]; rintro e w' ⟨rfl, rfl⟩)
        go_round
        case rel => exact ⟨k + 1, by omega, by go_num, HA2⟩
        case measure => simp [intOf]; omega
      | false =>
        have HF : Hid (allB l lo hi = false) := Lib.hid (by unfold allB; rw [List.all_eq_false]; exact ⟨x, List.mem_of_getElem? HX.out, by rw [hq]; decide⟩)
        have HQ := Lib.hid hq
        clear hq
        go_wp2_with (go_at_call 56; refine (within_any _ _ _ _).mono ?_; rw [HQ.out]; rintro e w' ⟨rfl, rfl⟩)
        go_ret
        exact ⟨by rw [HF.out]; rfl, rfl⟩
    · obtain rfl : k = l.length := by omega
      have HT : Hid (allB l lo hi = true) := Lib.hid (by unfold allB; rw [List.all_eq_true]; have := HA.out; rwa [List.take_length] at this)
      generalize hd : decide ((l.length : Int) = n) = t
      have hd2 : ((l.length : Int) == n) = t := by rw [← hd]; rfl
      have HD := Lib.hid hd
      clear hd
      go_wp2
      go_ret
      exact ⟨by rw [HT.out, HD.out]; rfl, rfl⟩

/-- whether a matrix is a bank's -/
def rowB (n : Nat) (r : List Int) : Bool := decide (r.length = n) && allB r (-200) 200
def vB (m : List (List Int)) : Bool := inB 1 m.length 5 && m.all (rowB m.length)
theorem vB_bd {m : List (List Int)} (h : vB m = true) : 1 ≤ m.length ∧ m.length ≤ 5 ∧ ∀ r ∈ m, r.length = m.length ∧ ∀ x ∈ r, -200 ≤ x ∧ x ≤ 200 := by
  unfold vB at h
  rw [Bool.and_eq_true, inB_iff, List.all_eq_true] at h
  refine ⟨by omega, by omega, fun r hr => ?_⟩
  have := h.2 r hr
  unfold rowB allB at this
  rw [Bool.and_eq_true, decide_eq_true_eq, List.all_eq_true] at this
  exact ⟨this.1, fun x hx => (inB_iff _ _ _).1 (this.2 x hx)⟩
/-- no row is longer than 10, nor are there more -/
def wideB (m : List (List Int)) : Bool := m.any (fun r => decide (10 < r.length)) || decide (10 < m.length)
theorem wideB_bd {m : List (List Int)} (h : wideB m = false) : m.length ≤ 10 ∧ ∀ r ∈ m, r.length ≤ 10 := by
  unfold wideB at h
  rw [Bool.or_eq_false_iff, List.any_eq_false] at h
  refine ⟨by simpa using h.2, fun r hr => by simpa using h.1 r hr⟩

theorem any_rows (m : List (List Int)) : (List.range m.length).any (fun j => !rowB m.length (m.getD j [])) = !m.all (rowB m.length) := by
  generalize rowB m.length = f
  rw [Bool.eq_iff_iff]
  simp only [List.any_eq_true, List.mem_range, Bool.not_eq_true', List.all_eq_false]
  constructor
  · rintro ⟨j, hj, h⟩
    exact ⟨m.getD j [], by rw [List.getD_eq_getElem?_getD, List.getElem?_eq_getElem hj]; exact List.getElem_mem hj, by rw [h]; decide⟩
  · rintro ⟨x, hx, h⟩
    obtain ⟨j, hj, rfl⟩ := List.mem_iff_getElem.1 hx
    refine ⟨j, hj, ?_⟩
    rw [List.getD_eq_getElem?_getD, List.getElem?_eq_getElem hj]
    simpa using h

theorem validC (m : List (List Int)) (vs : List Value) (B : Nat) (w : World) (hr : RowsR w vs m) (hw : ∀ r ∈ m, r.length ≤ 10) (h1 : w.cell? ⟨B, 0, none⟩ = some (.int .i64 (m.length : Nat))) :
    PredB 76 #[.pointer (some ⟨B, 0, none⟩)] vs (fun j => !rowB m.length (m.getD j [])) w := fun W j x hx hb => by
  have g1 := cell_below h1 hb
  have hj : j < m.length := by
    have := (List.getElem?_eq_some_iff.1 hx).1
    rwa [hr.1] at this
  obtain ⟨r, hrr⟩ : ∃ r, m[j]? = some r := ⟨_, List.getElem?_eq_getElem hj⟩
  have hR := (hr.2 j x r hx hrr).below hb (Nat.le_refl _)
  have hD : m.getD j [] = r := by rw [List.getD_eq_getElem?_getD, hrr]; rfl
  have hlen := hw r (List.mem_of_getElem? hrr)
  show Calls Try.prog 76 #[x, .pointer (some ⟨B, 0, none⟩)] W fun e w' => e = .returned (.bool (!rowB m.length (m.getD j []))) ∧ Below W.heap.size W w'
  rw [hD]
  have HR := Lib.hid hR
  obtain ⟨a, cap, rfl, hc, hcm, ha, _⟩ := hR
  rw [ints_length] at hc HR ⊢
  clear hr hx hrr hD hb h1 ha hw hj
  generalize m.length = n at *
  by_cases hne : r.length = n
  · have hQ : Hid (rowB n r = allB r (-200) 200) := Lib.hid (by unfold rowB; rw [decide_eq_true hne, Bool.true_and])
    have hb : ((r.length : Int) != (n : Int)) = false := by simp; omega
    clear hne
    go_enter Try.func76, Try.ntmps76
    go_wp2_with (go_at_call 70; refine (all_any _ r _ _ _ HR.out (by omega)).mono ?_; rw [← hQ.out]; rintro e w' ⟨rfl, hb1⟩)
    go_ret
    exact ⟨rfl, hb1⟩
  · have hQ : Hid (rowB n r = false) := Lib.hid (by unfold rowB; rw [decide_eq_false hne]; rfl)
    have hb : ((r.length : Int) != (n : Int)) = true := by simp; omega
    clear hne
    go_enter Try.func76, Try.ntmps76
    go_wp2
    go_ret
    exact ⟨by rw [hQ.out]; rfl, Below.refl _ _⟩

theorem valid_any (v : Value) (m : List (List Int)) (w : World) (hv : RdM w v m) (hl : m.length ≤ 10) (hw : ∀ r ∈ m, r.length ≤ 10) :
    Calls Try.prog 41 #[.agg #[v]] w fun e w' => e = .returned (.bool (vB m)) ∧ Below w.heap.size w w' := by
  have eg : ∀ args w, (callFunc 76 args).run Try.prog w = .ok (.enter 76 args) w := enters_of Try.func76 (by kernel_rfl) rfl
  obtain ⟨vs, hv, hr⟩ := hv
  have HV := Lib.hid hv
  have HR := Lib.hid hr
  obtain ⟨a, cap, rfl, hc, hcm, ha, _⟩ := hv
  have hany := Lib.hid (any_rows m)
  have hlen : Hid (vs.length ≤ 4000000) := Lib.hid (by rw [hr.1]; omega)
  have hE := hr.1
  have HW := Lib.hid hw
  have hcall : Hid (∀ W : World, Below w.heap.size w W → W.cell? ⟨w.heap.size + 1, 0, none⟩ = some (.int .i64 m.length) → _) := Lib.hid fun W hb h1 =>
    has_row _ 76 _ eg vs (.slice a vs.length cap) W (validC m vs (w.heap.size + 1) W (HR.out.below hb) HW.out h1) (HV.out.below hb (Nat.le_refl _)) hlen.out (!m.all (rowB m.length)) (by rw [hr.1]; exact hany.out)
  have hQ : Hid (vB m = (inB 1 m.length 5 && m.all (rowB m.length))) := Lib.hid rfl
  clear ha hr hw
  generalize m.all (rowB m.length) = t at *
  rw [hE] at *
  generalize m.length = n at *
  cases hq : inB 1 n 5 with
  | false =>
    rw [hq] at hQ
    have HQ := Lib.hid hq
    clear hq
    go_enter Try.func41, Try.ntmps41
    go_wp2_with (go_at_call 53; refine (between_any _ _ _ _).mono ?_; rw [HQ.out]; rintro e w' ⟨rfl, rfl⟩)
    go_ret
    exact ⟨by rw [hQ.out]; rfl, ((Below.refl w.heap.size w).alloc (Nat.le_refl _) _).alloc (by simp) _⟩
  | true =>
    rw [hq] at hQ
    have HQ := Lib.hid hq
    clear hq
    go_enter Try.func41, Try.ntmps41
    go_wp2_with (first
      | (go_at_call 53; refine (between_any _ _ _ _).mono ?_; rw [HQ.out]; rintro e w' ⟨rfl, rfl⟩)
      | (go_at_call 75; refine (hcall.out _ (((Below.refl _ _).alloc (Nat.le_refl _) _).alloc (by simp) _) (by simp)).mono ?_; rintro e w' ⟨rfl, hb'⟩))
    go_ret
    refine ⟨by rw [hQ.out]; simp, ?_⟩
    exact (((Below.refl w.heap.size w).alloc (Nat.le_refl _) _).alloc (by simp) _).trans (hb'.mono (by simp; omega))

end Go.Proofs.Ytnaoanmkepcinaa

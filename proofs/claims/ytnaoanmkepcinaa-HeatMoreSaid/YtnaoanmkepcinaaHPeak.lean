/- Heat: sums of lists, drivers; Peak in both texts. -/
import Derived.Test.YtnaoanmkepcinaaHSame
import Derived.Test.YtnaoanmkepcinaaHSane
import Derived.BigRegion
namespace Go.Proofs.Ytnaoanmkepcinaa
open Go.RowKit

theorem sum_snoc {l : List Int} {k : Nat} {x : Int} (h : l[k]? = some x) : (l.take (k + 1)).sum = (l.take k).sum + x := by
  rw [take_snoc h, List.sum_append]; simp
theorem sum_bd {l : List Int} {B : Nat} (h : ∀ x ∈ l, -(B : Int) ≤ x ∧ x ≤ B) : -((l.length * B : Nat) : Int) ≤ l.sum ∧ l.sum ≤ ((l.length * B : Nat) : Int) := by
  induction l with
  | nil => simp
  | cons a l ih =>
    have h1 := h a (by simp)
    have h2 := ih fun x hx => h x (by simp [hx])
    rw [List.sum_cons, List.length_cons, Nat.succ_mul]
    omega
theorem sum_take_bd {l : List Int} (hn : l.length ≤ 1000) (h : ∀ x ∈ l, -1000000 ≤ x ∧ x ≤ 1000000) (k : Nat) : -1000000000 ≤ (l.take k).sum ∧ (l.take k).sum ≤ 1000000000 := by
  have h1 := sum_bd (l := l.take k) (B := 1000000) fun x hx => h x (List.mem_of_mem_take hx)
  have h2 : (l.take k).length ≤ 1000 := by rw [List.length_take]; omega
  have h3 : (l.take k).length * 1000000 ≤ 1000 * 1000000 := Nat.mul_le_mul_right _ h2
  omega

theorem total_any (v : Value) (l : List Int) (w : World) (hv : Rd w v (ints l)) (hn : l.length ≤ 1000) (hb : ∀ x ∈ l, -1000000 ≤ x ∧ x ≤ 1000000) :
    Calls Try.prog 55 #[v] w fun e w' => e = .returned (.int .i64 l.sum) ∧ w = w' := by
  have HB := Lib.hid (sum_take_bd hn hb)
  have HX := Lib.hid hb
  have HS := Lib.hid (fun k x (h : l[k]? = some x) => sum_snoc h)
  have H0 : Hid ((l.take 0).sum = 0) := Lib.hid (by simp)
  have HL : Hid ((l.take l.length).sum = l.sum) := Lib.hid (by rw [List.take_length])
  obtain ⟨a, cap, rfl, hc, hcm, ha, _⟩ := hv
  rw [ints_length] at hc ⊢
  clear hb
  go_enter Try.func55, Try.ntmps55
  go_wp2_with fail
  go_loop [3, 8] (fun s i => ∃ k : Nat, k ≤ l.length ∧ i = .int .i64 k ∧ s = .int .i64 (l.take k).sum) (fun _ i => l.length - (intOf i).toNat)
  case atStart => exact ⟨0, Nat.zero_le _, rfl, by rw [H0.out]⟩
  case round =>
    obtain ⟨k, hk, rfl, rfl⟩ := hrel
    by_cases hlt : k < l.length
    · obtain ⟨b, off, rfl, hcell⟩ := ha.cell (j := k) (by rw [ints_length]; exact hlt)
      obtain ⟨x, hx⟩ : ∃ x, l[k]? = some x := ⟨_, List.getElem?_eq_getElem hlt⟩
      have c1 := hcell k _ (ints_get hx)
      have HS1 := Lib.hid (HS.out k x hx)
      have hb1 := HB.out k
      have hb2 := HX.out x (List.mem_of_getElem? hx)
      generalize (l.take k).sum = s at *
      clear hcell hx ha
      go_wp2_with fail
      go_round
      case rel => exact ⟨k + 1, by omega, by go_num, by rw [HS1.out]⟩
      case measure => simp [intOf]; omega
    · obtain rfl : k = l.length := by omega
      rw [HL.out]
      clear ha
      go_wp2_with fail
      go_ret
      exact ⟨rfl, rfl⟩

theorem refSum_any (v : Value) (l : List Int) (w : World) (hv : Rd w v (ints l)) (hn : l.length ≤ 1000) (hb : ∀ x ∈ l, -1000000 ≤ x ∧ x ≤ 1000000) :
    Calls Try.prog 58 #[v] w fun e w' => e = .returned (.int .i64 l.sum) ∧ w = w' := by
  have HB := Lib.hid (sum_take_bd hn hb)
  have HX := Lib.hid hb
  have HS := Lib.hid (fun k x (h : l[k]? = some x) => sum_snoc h)
  have H0 : Hid ((l.take 0).sum = 0) := Lib.hid (by simp)
  have HL : Hid ((l.take l.length).sum = l.sum) := Lib.hid (by rw [List.take_length])
  obtain ⟨a, cap, rfl, hc, hcm, ha, _⟩ := hv
  rw [ints_length] at hc ⊢
  clear hb
  go_enter Try.func58, Try.ntmps58
  go_wp2_with fail
  go_loop [3, 4] (fun s i => ∃ k : Nat, k ≤ l.length ∧ i = .int .i64 k ∧ s = .int .i64 (l.take k).sum) (fun _ i => l.length - (intOf i).toNat)
  case atStart => exact ⟨0, Nat.zero_le _, rfl, by rw [H0.out]⟩
  case round =>
    obtain ⟨k, hk, rfl, rfl⟩ := hrel
    by_cases hlt : k < l.length
    · obtain ⟨b, off, rfl, hcell⟩ := ha.cell (j := k) (by rw [ints_length]; exact hlt)
      obtain ⟨x, hx⟩ : ∃ x, l[k]? = some x := ⟨_, List.getElem?_eq_getElem hlt⟩
      have c1 := hcell k _ (ints_get hx)
      have HS1 := Lib.hid (HS.out k x hx)
      have hb1 := HB.out k
      have hb2 := HX.out x (List.mem_of_getElem? hx)
      generalize (l.take k).sum = s at *
      clear hcell hx ha
      go_wp2_with fail
      go_round
      case rel => exact ⟨k + 1, by omega, by go_num, by rw [HS1.out]⟩
      case measure => simp [intOf]; omega
    · obtain rfl : k = l.length := by omega
      rw [HL.out]
      clear ha
      go_wp2_with fail
      go_ret
      exact ⟨rfl, rfl⟩

theorem lawSum_any (v : Value) (l : List Int) (w : World) (hv : Rd w v (ints l)) (hn : l.length ≤ 1000) (hb : ∀ x ∈ l, -1000000 ≤ x ∧ x ≤ 1000000) :
    Calls Try.prog 46 #[v] w fun e w' => e = .returned (.int .i64 l.sum) ∧ w = w' := by
  have HB := Lib.hid (sum_take_bd hn hb)
  have HX := Lib.hid hb
  have HS := Lib.hid (fun k x (h : l[k]? = some x) => sum_snoc h)
  have H0 : Hid ((l.take 0).sum = 0) := Lib.hid (by simp)
  have HL : Hid ((l.take l.length).sum = l.sum) := Lib.hid (by rw [List.take_length])
  obtain ⟨a, cap, rfl, hc, hcm, ha, _⟩ := hv
  rw [ints_length] at hc ⊢
  clear hb
  go_enter Try.func46, Try.ntmps46
  go_wp2_with fail
  go_loop [3, 4] (fun s i => ∃ k : Nat, k ≤ l.length ∧ i = .int .i64 k ∧ s = .int .i64 (l.take k).sum) (fun _ i => l.length - (intOf i).toNat)
  case atStart => exact ⟨0, Nat.zero_le _, rfl, by rw [H0.out]⟩
  case round =>
    obtain ⟨k, hk, rfl, rfl⟩ := hrel
    by_cases hlt : k < l.length
    · obtain ⟨b, off, rfl, hcell⟩ := ha.cell (j := k) (by rw [ints_length]; exact hlt)
      obtain ⟨x, hx⟩ : ∃ x, l[k]? = some x := ⟨_, List.getElem?_eq_getElem hlt⟩
      have c1 := hcell k _ (ints_get hx)
      have HS1 := Lib.hid (HS.out k x hx)
      have hb1 := HB.out k
      have hb2 := HX.out x (List.mem_of_getElem? hx)
      generalize (l.take k).sum = s at *
      clear hcell hx ha
      go_wp2_with fail
      go_round
      case rel => exact ⟨k + 1, by omega, by go_num, by rw [HS1.out]⟩
      case measure => simp [intOf]; omega
    · obtain rfl : k = l.length := by omega
      rw [HL.out]
      clear ha
      go_wp2_with fail
      go_ret
      exact ⟨rfl, rfl⟩

/-- whether a list is one of powers -/
def drv (l : List Int) : Bool := inB 1 l.length 5 && allB l 0 1000
theorem drv_bd {l : List Int} (h : drv l = true) : 1 ≤ l.length ∧ l.length ≤ 5 ∧ ∀ x ∈ l, 0 ≤ x ∧ x ≤ 1000 := by
  unfold drv allB at h
  rw [Bool.and_eq_true, inB_iff, List.all_eq_true] at h
  exact ⟨by omega, by omega, fun x hx => (inB_iff _ _ _).1 (h.2 x hx)⟩
theorem drivers_any (v : Value) (l : List Int) (w : World) (hv : Rd w v (ints l)) (hn : l.length ≤ 4000000) :
    Calls Try.prog 50 #[v] w fun e w' => e = .returned (.bool (drv l)) ∧ Below w.heap.size w w' := by
  have HA := Lib.hid (all_any v l 0 1000 w hv hn)
  have HB := Lib.hid (between_any 1 (l.length : Nat) 5 w)
  have HE : Hid (drv l = (inB 1 l.length 5 && allB l 0 1000)) := Lib.hid rfl
  obtain ⟨a, cap, rfl, hc, hcm, ha, _⟩ := hv
  rw [ints_length] at *
  generalize drv l = t at *
  generalize allB l 0 1000 = u at *
  clear ha
  cases h1 : inB 1 l.length 5 with
  | false =>
    rw [h1] at HB HE
    obtain rfl := HE.out
    clear h1
    go_enter Try.func50, Try.ntmps50
    go_wp2_with (first | (go_at_call 53; refine HB.out.mono ?_; rintro e w' ⟨rfl, rfl⟩))
    go_ret
    exact ⟨rfl, Below.refl _ _⟩
  | true =>
    rw [h1, Bool.true_and] at HE
    rw [h1] at HB
    obtain rfl := HE.out
    clear h1
    go_enter Try.func50, Try.ntmps50
    go_wp2_with (first | (go_at_call 53; refine HB.out.mono ?_; rintro e w' ⟨rfl, rfl⟩) | (go_at_call 70; refine HA.out.mono ?_; rintro e w' ⟨rfl, hb1⟩))
    go_ret
    exact ⟨rfl, hb1⟩

/-- whether a step is one of n powers -/
def okS (n : Nat) (x : Int × Int) : Bool := inB 0 x.1 (n - 1) && inB 0 x.2 1000
/-- the powers behind k steps; the greatest sum up to there -/
def nw (l : List Int) (st : List (Int × Int)) (k : Nat) : List Int := (st.take k).foldl (fun l s => l.set s.1.toNat s.2) l
def pk (l : List Int) (st : List (Int × Int)) : Nat → Int
  | 0 => l.sum
  | k + 1 => max (pk l st k) (nw l st (k + 1)).sum
def pkE (l : List Int) (st : List (Int × Int)) : Int := if drv l && decide (st.length ≤ 100) && st.all (okS l.length) then 0 else 2
def pkV (l : List Int) (st : List (Int × Int)) : Int := if pkE l st = 0 then pk l st st.length else 0
theorem nw_len (l : List Int) (st : List (Int × Int)) (k : Nat) : (nw l st k).length = l.length := by
  unfold nw
  generalize st.take k = s
  induction s generalizing l with
  | nil => rfl
  | cons a s ih => rw [List.foldl_cons, ih, List.length_set]
theorem nw_succ (l : List Int) (st : List (Int × Int)) (k : Nat) (x : Int × Int) (h : st[k]? = some x) : nw l st (k + 1) = (nw l st k).set x.1.toNat x.2 := by
  unfold nw; rw [take_snoc h, List.foldl_append]; rfl
theorem okS_bd {n : Nat} {x : Int × Int} (h : okS n x = true) : (0 ≤ x.1 ∧ x.1 ≤ n - 1) ∧ 0 ≤ x.2 ∧ x.2 ≤ 1000 := by
  unfold okS at h
  rw [Bool.and_eq_true, inB_iff, inB_iff] at h
  exact h
theorem nw_bd {l : List Int} {st : List (Int × Int)} (h1 : ∀ x ∈ l, 0 ≤ x ∧ x ≤ 1000) (h2 : ∀ s ∈ st, okS l.length s = true) (k : Nat) : ∀ x ∈ nw l st k, 0 ≤ x ∧ x ≤ 1000 := by
  unfold nw
  have h3 : ∀ s ∈ st.take k, 0 ≤ s.2 ∧ s.2 ≤ 1000 := fun s hs => (okS_bd (h2 s (List.mem_of_mem_take hs))).2
  generalize st.take k = s at *
  clear h2
  induction s generalizing l with
  | nil => exact h1
  | cons a s ih =>
    rw [List.foldl_cons]
    refine ih (fun x hx => ?_) fun s hs => h3 s (by simp [hs])
    rcases List.mem_or_eq_of_mem_set hx with h | rfl
    · exact h1 x h
    · exact h3 a (by simp)

end Go.Proofs.Ytnaoanmkepcinaa

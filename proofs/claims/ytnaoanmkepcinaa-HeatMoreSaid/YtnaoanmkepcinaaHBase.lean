/- Heat: matrices as lists of rows; ranges; predicates handed to the library. -/
import Derived.Test.YtnaoanmkepcinaaRows
import Derived.Test.YtnaoanmkepcinaaBase
import Derived.Shelf.Abstract
namespace Go.Proofs.Ytnaoanmkepcinaa
open Go.RowKit

theorem el_int : ElemOk Try.prog 28 3 (.int .i64 0) 8 :=
  ⟨by kernel_rfl, info_parts (by kernel_rfl), rfl, by decide⟩
theorem el_row : ElemOk Try.prog 22 28 (.slice none 0 0) 24 :=
  ⟨by kernel_rfl, info_parts (by kernel_rfl), rfl, by decide⟩

/-- Row values that read as rows. -/
def RowsR (w : World) (vs : List Value) (m : List (List Int)) : Prop := vs.length = m.length ∧ ∀ (i : Nat) (x : Value) (r : List Int), vs[i]? = some x → m[i]? = some r → Rd w x (ints r)
theorem RowsR.below {w w' : World} {vs : List Value} {m : List (List Int)} (h : RowsR w vs m) (hb : Below w.heap.size w w') : RowsR w' vs m :=
  ⟨h.1, fun j x S hx hS => (h.2 j x S hx hS).below hb (Nat.le_refl _)⟩
/-- A matrix. -/
def RdM (w : World) (v : Value) (m : List (List Int)) : Prop := ∃ vs, Rd w v vs ∧ RowsR w vs m
theorem RdM.below {w w' : World} {v : Value} {m : List (List Int)} (h : RdM w v m) (hb : Below w.heap.size w w') : RdM w' v m := by
  obtain ⟨vs, h1, h2⟩ := h
  exact ⟨vs, h1.below hb (Nat.le_refl _), h2.below hb⟩
theorem Rd.below' {w w' : World} {v : Value} {cs : List Value} (h : Rd w v cs) (hb : Below w.heap.size w w') : Rd w' v cs := h.below hb (Nat.le_refl _)

/-- whether n is from lo to hi -/
def inB (lo n hi : Int) : Bool := decide (lo ≤ n) && decide (n ≤ hi)
theorem inB_iff (lo n hi : Int) : inB lo n hi = true ↔ lo ≤ n ∧ n ≤ hi := by simp [inB]
theorem inB_false (lo n hi : Int) : inB lo n hi = false ↔ n < lo ∨ hi < n := by
  unfold inB; simp; omega
/-- whether all are -/
def allB (l : List Int) (lo hi : Int) : Bool := l.all fun n => inB lo n hi

theorem between_any (lo n hi : Int) (w : World) :
    Calls Try.prog 53 #[.int .i64 lo, .int .i64 n, .int .i64 hi] w fun e w' => e = .returned (.bool (inB lo n hi)) ∧ w = w' := by
  unfold inB
  by_cases h : lo ≤ n
  · have h1 : decide (lo ≤ n) = true := decide_eq_true h
    rw [h1, Bool.true_and]
    generalize h2 : decide (n ≤ hi) = t
    go_enter Try.func53, Try.ntmps53
    go_wp2
    go_ret
    exact ⟨rfl, rfl⟩
  · have h1 : decide (lo ≤ n) = false := decide_eq_false h
    rw [h1, Bool.false_and]
    go_enter Try.func53, Try.ntmps53
    go_wp2
    go_ret
    exact ⟨rfl, rfl⟩

theorem within_any (lo n hi : Int) (w : World) :
    Calls Try.prog 56 #[.int .i64 lo, .int .i64 n, .int .i64 hi] w fun e w' => e = .returned (.bool (inB lo n hi)) ∧ w = w' := by
  unfold inB
  by_cases h : lo ≤ n
  · have h1 : decide (lo ≤ n) = true := decide_eq_true h
    rw [h1, Bool.true_and]
    generalize h2 : decide (n ≤ hi) = t
    go_enter Try.func56, Try.ntmps56
    go_wp2
    go_ret
    exact ⟨rfl, rfl⟩
  · have h1 : decide (lo ≤ n) = false := decide_eq_false h
    rw [h1, Bool.false_and]
    go_enter Try.func56, Try.ntmps56
    go_wp2
    go_ret
    exact ⟨rfl, rfl⟩

/-- A predicate handed to the library: what it says of the cell of index j. -/
def PredB (g : Nat) (lb : Array Value) (cs : List Value) (p : Nat → Bool) (w : World) : Prop :=
  ∀ (W : World) (j : Nat) (x : Value), cs[j]? = some x → Below w.heap.size w W → Calls Try.prog g (#[x] ++ lb) W fun e w' => e = .returned (.bool (p j)) ∧ Below W.heap.size W w'

/-- the first index at which p holds, or -1 -/
def firstP (p : Nat → Bool) (n : Nat) : Int := match (List.range n).find? p with | some j => (j : Int) | none => -1
theorem firstP_hit {p : Nat → Bool} {n k : Nat} (hk : k < n) (h : p k = true) (hb : ∀ j, j < k → p j = false) : firstP p n = k := by
  unfold firstP
  have : (List.range n).find? p = some k := by
    rw [List.find?_eq_some_iff_append]
    refine ⟨h, List.range k, (List.range (n - k - 1)).map (· + (k + 1)), ?_, fun j hj => by simp [hb j (List.mem_range.1 hj)]⟩
    apply List.ext_getElem
    · simp; omega
    · intro i h1 h2
      simp only [List.getElem_range]
      by_cases e : i < k
      · rw [List.getElem_append_left (by simpa using e)]; simp
      · rw [List.getElem_append_right (by simp; omega)]
        by_cases e2 : i = k
        · subst e2; simp
        · rw [List.getElem_cons]; rw [dif_neg (by simp; omega)]; simp; omega
  rw [this]
theorem firstP_miss {p : Nat → Bool} {n : Nat} (hb : ∀ j, j < n → p j = false) : firstP p n = -1 := by
  unfold firstP
  have : (List.range n).find? p = none := by rw [List.find?_eq_none]; intro j hj; simp [hb j (List.mem_range.1 hj)]
  rw [this]
theorem firstP_any (p : Nat → Bool) (n : Nat) : decide (0 ≤ firstP p n) = (List.range n).any p := by
  unfold firstP
  cases h : (List.range n).find? p with
  | none =>
    rw [List.find?_eq_none] at h
    have : (List.range n).any p = false := by rw [List.any_eq_false]; exact fun x hx => h x hx
    rw [this]; rfl
  | some j =>
    have h1 := List.find?_some h
    have h2 := List.mem_of_find?_eq_some h
    have : (List.range n).any p = true := List.any_eq_true.2 ⟨j, h2, h1⟩
    rw [this]; simp

set_option maxHeartbeats 1000000 in
theorem idx_int (p : Nat → Bool) (g : Nat) (lb : Array Value) (eg : ∀ args w, (callFunc g args).run Try.prog w = .ok (.enter g args) w) (cs : List Value) (v : Value) (w : World) (hp : PredB g lb cs p w) (hv : Rd w v cs) (hn : cs.length ≤ 4000000) :
    Calls Try.prog 90 #[v, .func (.func g) #[] lb] w fun e w' => e = .returned (.int .i64 (firstP p cs.length)) ∧ Below w.heap.size w w' := by
  obtain ⟨a, cap, rfl, hc, hcm, ha, _⟩ := hv
  have HP := Lib.hid hp
  clear hp
  go_enter Try.func90, Try.ntmps90
  go_wp2
  go_loopw [5, 8] (fun _ s8 wr => ∃ kk : Nat, kk ≤ cs.length ∧ s8 = .int .i64 kk ∧ Below w.heap.size w wr ∧ Hid (∀ j, j < kk → p j = false)) (fun _ s8 _ => cs.length - (intOf s8).toNat)
  case atStart => exact ⟨0, Nat.zero_le _, rfl, Below.refl _ w, Lib.hid fun j hj => absurd hj (Nat.not_lt_zero _)⟩
  case round =>
    obtain ⟨kk, hkk, rfl, BW, A⟩ := hrel
    by_cases hlt : kk < cs.length
    · obtain ⟨b, off, rfl, hcell⟩ := (ha.below BW (Nat.le_refl _)).cell (j := kk) hlt
      obtain ⟨x, hx⟩ : ∃ x, cs[kk]? = some x := ⟨_, List.getElem?_eq_getElem hlt⟩
      have c1 := hcell kk _ hx
      have hcall := Lib.hid (HP.out wr kk x hx BW)
      clear hcell hx ha
      cases hq : p kk with
      | true =>
        rw [hq] at hcall
        have HF := Lib.hid (firstP_hit hlt hq A.out)
        clear hq
        go_wp2_with (go_at_fn g; refine hcall.out.mono ?_; rintro e w' ⟨rfl, hb'⟩)
        go_ret
        exact ⟨by rw [HF.out]; rfl, BW.trans (hb'.mono BW.size)⟩
      | false =>
        rw [hq] at hcall
        have HA : Hid (∀ j, j < kk + 1 → p j = false) := Lib.hid fun j hj => by
          by_cases e : j = kk
          · subst e; exact hq
          · exact A.out j (by omega)
        clear hq
        go_wp2_with (go_at_fn g; refine hcall.out.mono ?_; rintro e w' ⟨rfl, hb'⟩)
        go_roundw
        case rel => exact ⟨kk + 1, by omega, by go_num, BW.trans (hb'.mono BW.size), HA⟩
        case measure => simp [intOf]; omega
    · obtain rfl : kk = cs.length := by omega
      have HF := Lib.hid (firstP_miss A.out)
      go_wp2
      go_ret
      exact ⟨by rw [HF.out]; rfl, BW⟩

theorem has_int (p : Nat → Bool) (g : Nat) (lb : Array Value) (eg : ∀ args w, (callFunc g args).run Try.prog w = .ok (.enter g args) w) (cs : List Value) (v : Value) (w : World) (hp : PredB g lb cs p w) (hv : Rd w v cs) (hn : cs.length ≤ 4000000) (t : Bool) (ht : (List.range cs.length).any p = t) :
    Calls Try.prog 84 #[v, .func (.func g) #[] lb] w fun e w' => e = .returned (.bool t) ∧ Below w.heap.size w w' := by
  have hcall := Lib.hid (idx_int p g lb eg cs v w hp hv hn)
  have ht2 : Hid (decide (0 ≤ firstP p cs.length) = t) := Lib.hid (by rw [firstP_any]; exact ht)
  obtain ⟨a, cap, rfl, hc, hcm, ha, _⟩ := hv
  generalize firstP p cs.length = y at hcall ht2
  clear ht hp ha
  go_enter Try.func84, Try.ntmps84
  go_wp2_with (go_at_call 90; refine hcall.out.mono ?_; rintro e w' ⟨rfl, hb'⟩)
  go_ret
  exact ⟨by rw [ht2.out]; rfl, hb'⟩

set_option maxHeartbeats 1000000 in
theorem idx_row (p : Nat → Bool) (g : Nat) (lb : Array Value) (eg : ∀ args w, (callFunc g args).run Try.prog w = .ok (.enter g args) w) (cs : List Value) (v : Value) (w : World) (hp : PredB g lb cs p w) (hv : Rd w v cs) (hn : cs.length ≤ 4000000) :
    Calls Try.prog 87 #[v, .func (.func g) #[] lb] w fun e w' => e = .returned (.int .i64 (firstP p cs.length)) ∧ Below w.heap.size w w' := by
  obtain ⟨a, cap, rfl, hc, hcm, ha, _⟩ := hv
  have HP := Lib.hid hp
  clear hp
  go_enter Try.func87, Try.ntmps87
  go_wp2
  go_loopw [5, 8] (fun _ s8 wr => ∃ kk : Nat, kk ≤ cs.length ∧ s8 = .int .i64 kk ∧ Below w.heap.size w wr ∧ Hid (∀ j, j < kk → p j = false)) (fun _ s8 _ => cs.length - (intOf s8).toNat)
  case atStart => exact ⟨0, Nat.zero_le _, rfl, Below.refl _ w, Lib.hid fun j hj => absurd hj (Nat.not_lt_zero _)⟩
  case round =>
    obtain ⟨kk, hkk, rfl, BW, A⟩ := hrel
    by_cases hlt : kk < cs.length
    · obtain ⟨b, off, rfl, hcell⟩ := (ha.below BW (Nat.le_refl _)).cell (j := kk) hlt
      obtain ⟨x, hx⟩ : ∃ x, cs[kk]? = some x := ⟨_, List.getElem?_eq_getElem hlt⟩
      have c1 := hcell kk _ hx
      have hcall := Lib.hid (HP.out wr kk x hx BW)
      clear hcell hx ha
      cases hq : p kk with
      | true =>
        rw [hq] at hcall
        have HF := Lib.hid (firstP_hit hlt hq A.out)
        clear hq
        go_wp2_with (go_at_fn g; refine hcall.out.mono ?_; rintro e w' ⟨rfl, hb'⟩)
        go_ret
        exact ⟨by rw [HF.out]; rfl, BW.trans (hb'.mono BW.size)⟩
      | false =>
        rw [hq] at hcall
        have HA : Hid (∀ j, j < kk + 1 → p j = false) := Lib.hid fun j hj => by
          by_cases e : j = kk
          · subst e; exact hq
          · exact A.out j (by omega)
        clear hq
        go_wp2_with (go_at_fn g; refine hcall.out.mono ?_; rintro e w' ⟨rfl, hb'⟩)
        go_roundw
        case rel => exact ⟨kk + 1, by omega, by go_num, BW.trans (hb'.mono BW.size), HA⟩
        case measure => simp [intOf]; omega
    · obtain rfl : kk = cs.length := by omega
      have HF := Lib.hid (firstP_miss A.out)
      go_wp2
      go_ret
      exact ⟨by rw [HF.out]; rfl, BW⟩

theorem has_row (p : Nat → Bool) (g : Nat) (lb : Array Value) (eg : ∀ args w, (callFunc g args).run Try.prog w = .ok (.enter g args) w) (cs : List Value) (v : Value) (w : World) (hp : PredB g lb cs p w) (hv : Rd w v cs) (hn : cs.length ≤ 4000000) (t : Bool) (ht : (List.range cs.length).any p = t) :
    Calls Try.prog 75 #[v, .func (.func g) #[] lb] w fun e w' => e = .returned (.bool t) ∧ Below w.heap.size w w' := by
  have hcall := Lib.hid (idx_row p g lb eg cs v w hp hv hn)
  have ht2 : Hid (decide (0 ≤ firstP p cs.length) = t) := Lib.hid (by rw [firstP_any]; exact ht)
  obtain ⟨a, cap, rfl, hc, hcm, ha, _⟩ := hv
  generalize firstP p cs.length = y at hcall ht2
  clear ht hp ha
  go_enter Try.func75, Try.ntmps75
  go_wp2_with (go_at_call 87; refine hcall.out.mono ?_; rintro e w' ⟨rfl, hb'⟩)
  go_ret
  exact ⟨by rw [ht2.out]; rfl, hb'⟩

end Go.Proofs.Ytnaoanmkepcinaa

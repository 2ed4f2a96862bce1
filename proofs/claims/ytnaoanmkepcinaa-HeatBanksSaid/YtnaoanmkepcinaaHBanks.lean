/- Heat: rest of a row; Bound, Dominant, Talk in both texts. -/
import Derived.Test.YtnaoanmkepcinaaHSame
import Derived.Test.YtnaoanmkepcinaaHSane
import Derived.Test.YtnaoanmkepcinaaHSpread
namespace Go.Proofs.Ytnaoanmkepcinaa
open Go.RowKit

/-- the sum of the sizes of the first k numbers of a row, but for one -/
def rst (r : List Int) (but : Int) (k : Nat) : Int := si k fun j => if (j : Int) = but then 0 else ((r.getD j 0).natAbs : Nat)
theorem rst_bd {r : List Int} (h : ∀ x ∈ r, -200 ≤ x ∧ x ≤ 200) (but : Int) (k : Nat) (hk : k ≤ 10) : 0 ≤ rst r but k ∧ rst r but k ≤ 2000 := by
  have hg : ∀ j, (r.getD j 0).natAbs ≤ 200 := fun j => by
    rw [List.getD_eq_getElem?_getD]
    cases hx : r[j]? with
    | none => simp
    | some x => have := h x (List.mem_of_getElem? hx); simp only [Option.getD_some]; omega
  have : ∀ k, 0 ≤ rst r but k ∧ rst r but k ≤ 200 * k := by
    intro k
    induction k with
    | zero => exact ⟨Int.le_refl _, Int.le_refl _⟩
    | succ k ih =>
      have := hg k
      unfold rst at ih ⊢
      simp only [si]
      split <;> omega
  have := this k
  omega
theorem rst_skip (r : List Int) (i : Nat) : ∀ k, rst r (-1) k = rst r i k + (if i < k then ((r.getD i 0).natAbs : Nat) else 0)
  | 0 => by simp [rst, si]
  | k + 1 => by
    have h := rst_skip r i k
    unfold rst at h ⊢
    simp only [si]
    rw [if_neg (show ¬ (k : Int) = -1 by omega)]
    by_cases e : (k : Int) = i
    · have : i = k := by omega
      subst this
      rw [if_pos rfl, if_pos (by omega)]
      rw [if_neg (by omega)] at h
      omega
    · rw [if_neg e]
      by_cases e2 : i < k
      · rw [if_pos (by omega)]
        rw [if_pos e2] at h
        omega
      · rw [if_neg (by omega)]
        rw [if_neg e2] at h
        omega
/-- the bounds -/
def bnd (m : List (List Int)) (k : Nat) : List Int := (m.take k).map fun r => rst r (-1) m.length
theorem bnd_succ {m : List (List Int)} {k : Nat} {r : List Int} (h : m[k]? = some r) : bnd m (k + 1) = bnd m k ++ [rst r (-1) m.length] := by
  unfold bnd; rw [take_snoc h, List.map_append]; rfl
def bndL (m : List (List Int)) : List Int := if vB m then bnd m m.length else []
/-- whether every number on the diagonal is greater than the rest of its row -/
def dmB (m : List (List Int)) (k : Nat) : Bool := (List.range k).all fun i => decide (rst (m.getD i []) i m.length < ((at2 m i i).natAbs : Nat))
def dmV (m : List (List Int)) : Bool := vB m && dmB m m.length
theorem dm_hit {m : List (List Int)} {k : Nat} (hk : k < m.length) (h : ¬ rst (m.getD k []) k m.length < ((at2 m k k).natAbs : Nat)) : dmB m m.length = false := by
  unfold dmB
  rw [List.all_eq_false]
  exact ⟨k, List.mem_range.2 hk, by simpa using h⟩
theorem dm_all {m : List (List Int)} (h : ∀ k, k < m.length → rst (m.getD k []) k m.length < ((at2 m k k).natAbs : Nat)) : dmB m m.length = true := by
  unfold dmB
  rw [List.all_eq_true]
  intro k hk
  exact decide_eq_true (h k (List.mem_range.1 hk))
/-- the greatest cross talk -/
def tkI (base : Int) (r : List Int) (i : Nat) : Nat → Int
  | 0 => base
  | j + 1 => if i = j then tkI base r i j else max (tkI base r i j) ((r.getD j 0).natAbs : Nat)
def tkO (m : List (List Int)) : Nat → Int
  | 0 => 0
  | i + 1 => tkI (tkO m i) (m.getD i []) i m.length
def tkV (m : List (List Int)) : Int := if vB m then tkO m m.length else 0

set_option maxHeartbeats 1000000 in
theorem rest_any (v : Value) (r : List Int) (but : Int) (n : Nat) (w : World) (hv : Rd w v (ints r)) (hl : r.length = n) (hn : n ≤ 10) (hb : ∀ x ∈ r, -200 ≤ x ∧ x ≤ 200) :
    Calls Try.prog 73 #[v, .int .i64 but] w fun e w' => e = .returned (.int .i64 (rst r but n)) ∧ w = w' := by
  have HB := Lib.hid (fun k => rst_bd hb but k)
  have HX := Lib.hid hb
  have HS : Hid (∀ k, rst r but (k + 1) = rst r but k + (if (k : Int) = but then (0 : Int) else ((r.getD k 0).natAbs : Nat))) := Lib.hid fun k => rfl
  have H0 : Hid (rst r but 0 = 0) := Lib.hid rfl
  obtain ⟨a, cap, rfl, hc, hcm, ha, _⟩ := hv
  rw [ints_length, hl] at hc
  rw [ints_length, hl]
  have HL := Lib.hid hl
  clear hb hl
  go_enter Try.func73, Try.ntmps73
  go_wp2_with fail
  go_loop [5, 10] (fun s i => ∃ k : Nat, k ≤ n ∧ i = .int .i64 k ∧ s = .int .i64 (rst r but k)) (fun _ i => n - (intOf i).toNat)
  case atStart => exact ⟨0, Nat.zero_le _, rfl, by rw [H0.out]⟩
  case round =>
    obtain ⟨k, hk, rfl, rfl⟩ := hrel
    by_cases hlt : k < n
    · obtain ⟨b, off, rfl, hcell⟩ := ha.cell (j := k) (by rw [ints_length, HL.out]; exact hlt)
      obtain ⟨x, hx⟩ : ∃ x, r[k]? = some x := ⟨_, List.getElem?_eq_getElem (by rw [HL.out]; exact hlt)⟩
      have c1 := hcell k _ (ints_get hx)
      have HS1 := Lib.hid (HS.out k)
      rw [List.getD_eq_getElem?_getD, hx] at HS1
      simp only [Option.getD_some] at HS1
      have hb1 := HB.out k (by omega)
      have hb2 := HX.out x (List.mem_of_getElem? hx)
      have HZ := Lib.hid (fun W => size_any x W (by omega))
      generalize rst r but k = s at *
      have hxa : ((x.natAbs : Nat) : Int) ≤ 200 := by omega
      have hxb : 0 ≤ ((x.natAbs : Nat) : Int) := by omega
      generalize ((x.natAbs : Nat) : Int) = z at *
      clear hcell hx ha
      by_cases hq : (k : Int) = but
      · rw [if_pos hq] at HS1
        have hqb : ((k : Int) != but) = false := by simp [hq]
        clear hq
        go_wp2_with fail
        go_round
        case rel => exact ⟨k + 1, by omega, by go_num, by rw [HS1.out, Int.add_zero]⟩
        case measure => simp [intOf]; omega
      · rw [if_neg hq] at HS1
        have hqb : ((k : Int) != but) = true := by simp [hq]
        clear hq
        go_wp2_with (first | (go_at_call 60; refine (HZ.out _).mono ?_; rintro e w' ⟨rfl, rfl⟩))
        go_round
        case rel => exact ⟨k + 1, by omega, by go_num, by rw [HS1.out]⟩
        case measure => simp [intOf]; omega
    · obtain rfl : k = n := by omega
      clear ha
      go_wp2_with fail
      go_ret
      exact ⟨rfl, rfl⟩

set_option maxRecDepth 100000 in
set_option maxHeartbeats 2000000 in
theorem Bound_ok (v : Value) (m : List (List Int)) (w : World) (hv : RdM w v m) (hq : vB m = true) :
    Calls Try.prog 39 #[.agg #[v]] w fun e w' => ∃ u, e = .returned (.tuple #[u, .int .i64 0]) ∧ w'.ownsRow w.heap.size 3 1 u m.length (ints (bnd m m.length)) ∧ Below w.heap.size w w' := by
  have HV := Lib.hid hv
  obtain ⟨h1, h2, h3⟩ := vB_bd hq
  obtain ⟨vs, ⟨a, cap, rfl, hc, hcm, ha, _⟩, hr⟩ := hv
  rw [hr.1] at hc HV ⊢
  have hE := hr.1
  have HR := Lib.hid hr
  have HGM : Hid (∀ j, j < m.length → ∃ r, m[j]? = some r ∧ m.getD j [] = r ∧ r.length = m.length ∧ ∀ x ∈ r, -200 ≤ x ∧ x ≤ 200) := Lib.hid fun j hj =>
    ⟨_, List.getElem?_eq_getElem hj, by rw [List.getD_eq_getElem?_getD, List.getElem?_eq_getElem hj]; rfl, (h3 _ (List.getElem_mem hj)).1, (h3 _ (List.getElem_mem hj)).2⟩
  have HS := Lib.hid (fun k r (h : m[k]? = some r) => bnd_succ h)
  have H0 : Hid (bnd m 0 = []) := Lib.hid rfl
  have hcall := Lib.hid (fun W hb => opened_any _ m W (HV.out.below (w' := W) hb) (by omega) (fun r hr => by rw [(h3 r hr).1]; omega))
  rw [hq] at hcall
  simp only [if_true] at hcall
  clear hq h3 hr
  generalize hN : m.length = N at *
  have HN := Lib.hid hN
  clear hN
  have hb0 : Hid (Below w.heap.size w (w.alloc (.cells #[.slice a N cap] 24))) := Lib.hid ((Below.refl _ _).alloc (Nat.le_refl _) _)
  go_enter Try.func39, Try.ntmps39
  go_wp2_with (first
    | (go_at_call 48; refine (hcall.out _ hb0.out).mono ?_; rintro e w1 ⟨rfl, hb1⟩; have hb01 := hb0.out.trans (hb1.mono hb0.out.size); have hbW := hb01.alloc hb01.size (.cells #[.slice a N cap] 71)))

  go_loopw [6, 21] (fun o i wr => ∃ k : Nat, k ≤ N ∧ i = .int .i64 k ∧ wr.ownsRow w.heap.size 3 1 o k (ints (bnd m k)) ∧ Below w.heap.size w wr) (fun _ i _ => N - (intOf i).toNat)
  case atStart => exact ⟨0, Nat.zero_le _, rfl, by rw [H0.out]; exact World.ownsRow_nil _ _ _ _, hbW⟩
  case round =>
    obtain ⟨k, hk, rfl, hown, hbel⟩ := hrel
    by_cases hlt : k < N
    · obtain ⟨r, hrr, hgr, hrl, hrb⟩ := HGM.out k hlt
      obtain ⟨b, off, rfl, hcell⟩ := (ha.below hbel (Nat.le_refl _)).cell (j := k) (by rw [hE]; exact hlt)
      obtain ⟨rv, hrv⟩ : ∃ rv, vs[k]? = some rv := ⟨_, List.getElem?_eq_getElem (by rw [hE]; exact hlt)⟩
      have c5 := hcell k _ hrv
      have HRW := Lib.hid (HR.out.2 k rv r hrv hrr)
      obtain ⟨a1, cap1, rfl, hc1, hcm1, ha1, _⟩ := HRW.out
      rw [ints_length, hrl] at hc1 c5
      rw [ints_length, hrl] at HRW
      clear hcell hrv
      have HRA := Lib.hid (rest_any _ r (-1) N wr (HRW.out.below hbel (Nat.le_refl _)) hrl (by omega) hrb)
      have HS1 := Lib.hid (HS.out k r hrr)
      clear hrr hgr hrb hrl ha ha1
      go_wp2_with (first
        | (go_at_call 73; (with_reducible refine HRA.out.mono ?_); rintro e w' ⟨rfl, rfl⟩)
        | (at_builtin; refine app1 el_int rfl rfl (w0 := w) rfl rfl (by exact hbel) (by exact hown) rfl (by omega) ?_; intro v3 w3 ho3 hb3 hg3))
      go_roundw
      case rel => exact ⟨k + 1, by omega, by go_num, by rw [HS1.out, ints_append]; exact ho3, hb3⟩
      case measure => simp [intOf]; omega
    · obtain rfl : k = N := by omega
      clear ha
      go_wp2_with fail
      go_ret2
      exact ⟨_, rfl, hown, hbel⟩

set_option maxRecDepth 100000 in
set_option maxHeartbeats 2000000 in
theorem Dominant_ok (v : Value) (m : List (List Int)) (w : World) (hv : RdM w v m) (hq : vB m = true) :
    Calls Try.prog 35 #[.agg #[v]] w fun e w' => e = .returned (.tuple #[.bool (dmB m m.length), .int .i64 0]) ∧ Below w.heap.size w w' := by
  have HV := Lib.hid hv
  obtain ⟨h1, h2, h3⟩ := vB_bd hq
  obtain ⟨vs, ⟨a, cap, rfl, hc, hcm, ha, _⟩, hr⟩ := hv
  rw [hr.1] at hc HV ⊢
  have hE := hr.1
  have HR := Lib.hid hr
  have HGM : Hid (∀ j, j < m.length → ∃ r, m[j]? = some r ∧ m.getD j [] = r ∧ r.length = m.length ∧ ∀ x ∈ r, -200 ≤ x ∧ x ≤ 200) := Lib.hid fun j hj =>
    ⟨_, List.getElem?_eq_getElem hj, by rw [List.getD_eq_getElem?_getD, List.getElem?_eq_getElem hj]; rfl, (h3 _ (List.getElem_mem hj)).1, (h3 _ (List.getElem_mem hj)).2⟩
  have HH := Lib.hid (fun k hk => @dm_hit m k hk)
  have HAL := Lib.hid (@dm_all m)
  have HAT : Hid (∀ i r x, m[i]? = some r → r[i]? = some x → at2 m i i = x) := Lib.hid fun i r x h h' => at2_get h h'
  have hcall := Lib.hid (fun W hb => opened_any _ m W (HV.out.below (w' := W) hb) (by omega) (fun r hr => by rw [(h3 r hr).1]; omega))
  rw [hq] at hcall
  simp only [if_true] at hcall
  clear hq h3 hr
  generalize hN : m.length = N at *
  have HN := Lib.hid hN
  clear hN
  have hb0 : Hid (Below w.heap.size w (w.alloc (.cells #[.slice a N cap] 24))) := Lib.hid ((Below.refl _ _).alloc (Nat.le_refl _) _)
  go_enter Try.func35, Try.ntmps35
  go_wp2_with (first
    | (go_at_call 48; refine (hcall.out _ hb0.out).mono ?_; rintro e w1 ⟨rfl, hb1⟩; have hb01 := hb0.out.trans (hb1.mono hb0.out.size); have hbW := hb01.alloc hb01.size (.cells #[.slice a N cap] 71)))

  go_loopw [20] (fun i wr => ∃ k : Nat, k ≤ N ∧ i = .int .i64 k ∧ Hid (∀ i, i < k → rst (m.getD i []) i N < ((at2 m i i).natAbs : Nat)) ∧ Below w.heap.size w wr) (fun i _ => N - (intOf i).toNat)
  case atStart => exact ⟨0, Nat.zero_le _, rfl, Lib.hid (fun i h => absurd h (Nat.not_lt_zero _)), hbW⟩
  case round =>
    obtain ⟨k, hk, rfl, HAK, hbel⟩ := hrel
    by_cases hlt : k < N
    · obtain ⟨r, hrr, hgr, hrl, hrb⟩ := HGM.out k hlt
      obtain ⟨b, off, rfl, hcell⟩ := (ha.below hbel (Nat.le_refl _)).cell (j := k) (by rw [hE]; exact hlt)
      obtain ⟨rv, hrv⟩ : ∃ rv, vs[k]? = some rv := ⟨_, List.getElem?_eq_getElem (by rw [hE]; exact hlt)⟩
      have c5 := hcell k _ hrv
      have HRW := Lib.hid (HR.out.2 k rv r hrv hrr)
      obtain ⟨a1, cap1, rfl, hc1, hcm1, ha1, _⟩ := HRW.out
      rw [ints_length, hrl] at hc1 c5
      rw [ints_length, hrl] at HRW
      clear hcell hrv
      obtain ⟨b3, off3, rfl, hcell3⟩ := (ha1.below hbel (Nat.le_refl _)).cell (j := k) (by rw [ints_length, hrl]; exact hlt)
      obtain ⟨y, hy⟩ : ∃ y, r[k]? = some y := ⟨_, List.getElem?_eq_getElem (by rw [hrl]; exact hlt)⟩
      have c7 := hcell3 k _ (ints_get hy)
      have hyb := hrb y (List.mem_of_getElem? hy)
      have hgy : r.getD k 0 = y := by rw [List.getD_eq_getElem?_getD, hy]; rfl
      have hyz : ((y.natAbs : Nat) : Int) ≤ 200 := by omega
      have hyp : 0 ≤ ((y.natAbs : Nat) : Int) := by omega
      have HRA := Lib.hid (rest_any _ r k N wr (HRW.out.below hbel (Nat.le_refl _)) hrl (by omega) hrb)
      have HH1 := Lib.hid (HH.out k hlt)
      have HT : Hid (rst r k N < ((y.natAbs : Nat) : Int) → ∀ i, i < k + 1 → rst (m.getD i []) i N < ((at2 m i i).natAbs : Nat)) := Lib.hid fun h i hi => by
        by_cases e : i = k
        · subst e; rw [hgr, HAT.out i r y hrr hy]; exact h
        · exact HAK.out i (by omega)
      rw [hgr, HAT.out k r y hrr hy] at HH1
      have hrs := rst_bd hrb k N (by omega)
      have HZ := Lib.hid (fun W => size_any y W (by omega))
      generalize ((y.natAbs : Nat) : Int) = z at *
      generalize rst r k N = q at *
      clear hcell3 hrr hgr hrb hrl ha ha1 hy hgy
      by_cases hq : q < z
      · have HT1 := Lib.hid (HT.out hq)
        go_wp2_with (first
          | (go_at_call 60; refine (HZ.out _).mono ?_; rintro e w' ⟨rfl, rfl⟩)
          | (go_at_call 73; (with_reducible refine HRA.out.mono ?_); rintro e w' ⟨rfl, rfl⟩))
        go_roundw
        case rel => exact ⟨k + 1, by omega, by go_num, HT1, hbel⟩
        case measure => simp [intOf]; omega
      · have HT1 := Lib.hid (HH1.out (by omega))
        go_wp2_with (first
          | (go_at_call 60; refine (HZ.out _).mono ?_; rintro e w' ⟨rfl, rfl⟩)
          | (go_at_call 73; (with_reducible refine HRA.out.mono ?_); rintro e w' ⟨rfl, rfl⟩))
        go_ret2
        exact ⟨by rw [HT1.out]; rfl, hbel⟩
    · obtain rfl : k = N := by omega
      have HT1 := Lib.hid (HAL.out (fun i hi => HAK.out i hi))
      clear ha
      go_wp2_with fail
      go_ret2
      exact ⟨by rw [HT1.out]; rfl, hbel⟩

set_option maxRecDepth 100000 in
set_option maxHeartbeats 2000000 in
theorem Talk_ok (v : Value) (m : List (List Int)) (w : World) (hv : RdM w v m) (hq : vB m = true) :
    Calls Try.prog 37 #[.agg #[v]] w fun e w' => e = .returned (.tuple #[.int .i64 (tkO m m.length), .int .i64 0]) ∧ Below w.heap.size w w' := by
  have HV := Lib.hid hv
  obtain ⟨h1, h2, h3⟩ := vB_bd hq
  obtain ⟨vs, ⟨a, cap, rfl, hc, hcm, ha, _⟩, hr⟩ := hv
  rw [hr.1] at hc HV ⊢
  have hE := hr.1
  have HR := Lib.hid hr
  have HGM : Hid (∀ j, j < m.length → ∃ r, m[j]? = some r ∧ m.getD j [] = r ∧ r.length = m.length ∧ ∀ x ∈ r, -200 ≤ x ∧ x ≤ 200) := Lib.hid fun j hj =>
    ⟨_, List.getElem?_eq_getElem hj, by rw [List.getD_eq_getElem?_getD, List.getElem?_eq_getElem hj]; rfl, (h3 _ (List.getElem_mem hj)).1, (h3 _ (List.getElem_mem hj)).2⟩
  have HI0 : Hid (∀ b r i, tkI b r i 0 = b) := Lib.hid fun b r i => rfl
  have HI : Hid (∀ b r i j, tkI b r i (j + 1) = if i = j then tkI b r i j else max (tkI b r i j) ((r.getD j 0).natAbs : Nat)) := Lib.hid fun b r i j => rfl
  have HO0 : Hid (tkO m 0 = 0) := Lib.hid rfl
  have HO : Hid (∀ i, tkO m (i + 1) = tkI (tkO m i) (m.getD i []) i m.length) := Lib.hid fun i => rfl
  have hcall := Lib.hid (fun W hb => opened_any _ m W (HV.out.below (w' := W) hb) (by omega) (fun r hr => by rw [(h3 r hr).1]; omega))
  rw [hq] at hcall
  simp only [if_true] at hcall
  clear hq h3 hr
  generalize hN : m.length = N at *
  have HN := Lib.hid hN
  clear hN
  have hb0 : Hid (Below w.heap.size w (w.alloc (.cells #[.slice a N cap] 24))) := Lib.hid ((Below.refl _ _).alloc (Nat.le_refl _) _)
  go_enter Try.func37, Try.ntmps37
  go_wp2_with (first
    | (go_at_call 48; refine (hcall.out _ hb0.out).mono ?_; rintro e w1 ⟨rfl, hb1⟩; have hb01 := hb0.out.trans (hb1.mono hb0.out.size); have hbW := hb01.alloc hb01.size (.cells #[.slice a N cap] 71)))

  go_loopw [6, 23] (fun o i wr => ∃ k : Nat, k ≤ N ∧ i = .int .i64 k ∧ o = .int .i64 (tkO m k) ∧ Below w.heap.size w wr) (fun _ i _ => N - (intOf i).toNat)
  case atStart => exact ⟨0, Nat.zero_le _, rfl, by rw [HO0.out], hbW⟩
  case round =>
    obtain ⟨k, hk, rfl, rfl, hbel⟩ := hrel
    by_cases hlt : k < N
    · obtain ⟨r, hrr, hgr, hrl, hrb⟩ := HGM.out k hlt
      obtain ⟨b, off, rfl, hcell⟩ := (ha.below hbel (Nat.le_refl _)).cell (j := k) (by rw [hE]; exact hlt)
      obtain ⟨rv, hrv⟩ : ∃ rv, vs[k]? = some rv := ⟨_, List.getElem?_eq_getElem (by rw [hE]; exact hlt)⟩
      have c5 := hcell k _ hrv
      have HRW := Lib.hid (HR.out.2 k rv r hrv hrr)
      obtain ⟨a1, cap1, rfl, hc1, hcm1, ha1, _⟩ := HRW.out
      rw [ints_length, hrl] at hc1 c5
      rw [ints_length, hrl] at HRW
      clear hcell hrv
      have HO1 := Lib.hid (HO.out k)
      rw [hgr] at HO1
      generalize tkO m k = base at *
      have HRL := Lib.hid hrl
      have HRBB := Lib.hid hrb
      clear hrl hrb hrr hgr
      go_wp2_with fail
      go_loop [6, 30] (fun o i => ∃ j : Nat, j ≤ N ∧ i = .int .i64 j ∧ o = .int .i64 (tkI base r k j)) (fun _ i => N - (intOf i).toNat)
      case atStart => exact ⟨0, Nat.zero_le _, rfl, by rw [HI0.out]⟩
      case round =>
        obtain ⟨j, hj, rfl, rfl⟩ := hrel
        by_cases hjt : j < N
        · have hkt : k < N := hlt
          have hkj : Hid (tkI base r k (j + 1) = _) := Lib.hid (HI.out base r k j)
          have hrl := HRL.out
          have hrb := HRBB.out
          obtain ⟨b3, off3, rfl, hcell3⟩ := (ha1.below hbel (Nat.le_refl _)).cell (j := j) (by rw [ints_length, hrl]; exact hjt)
          obtain ⟨y, hy⟩ : ∃ y, r[j]? = some y := ⟨_, List.getElem?_eq_getElem (by rw [hrl]; exact hjt)⟩
          have c7 := hcell3 j _ (ints_get hy)
          have hyb := hrb y (List.mem_of_getElem? hy)
          have hgy : r.getD j 0 = y := by rw [List.getD_eq_getElem?_getD, hy]; rfl
          have hyz : ((y.natAbs : Nat) : Int) ≤ 200 := by omega
          have hyp : 0 ≤ ((y.natAbs : Nat) : Int) := by omega
          rw [hgy] at hkj
          have HZ := Lib.hid (fun W => size_any y W (by omega))
          generalize tkI base r k j = o at *
          generalize ((y.natAbs : Nat) : Int) = z at *
          clear hcell3 hrb hrl ha ha1 hy hgy
          by_cases hq : k = j
          · rw [if_pos hq] at hkj
            have hqb : ((k : Int) != (j : Int)) = false := by simp; omega
            clear hq
            go_wp2_with fail
            go_round
            case rel => exact ⟨j + 1, by omega, by go_num, by rw [hkj.out]⟩
            case measure => simp [intOf]; omega
          · rw [if_neg hq] at hkj
            have hqb : ((k : Int) != (j : Int)) = true := by simp; omega
            clear hq
            go_wp2_with (first | (go_at_call 60; refine (HZ.out _).mono ?_; rintro e w' ⟨rfl, rfl⟩))
            go_round
            case rel => exact ⟨j + 1, by omega, by go_num, by rw [hkj.out]⟩
            case measure => simp [intOf]; omega
        · obtain rfl : j = N := by omega
          clear ha ha1
          go_wp2_with fail
          go_roundw
          case rel => exact ⟨k + 1, by omega, by go_num, by rw [HO1.out], hbel⟩
          case measure => simp [intOf]; omega
    · obtain rfl : k = N := by omega
      clear ha
      go_wp2_with fail
      go_ret2
      exact ⟨rfl, hbel⟩

end Go.Proofs.Ytnaoanmkepcinaa

/- Heat: heated; Phases and Off in the reference; their errors in both texts. -/
import Derived.Test.YtnaoanmkepcinaaHPhB
import Derived.Test.YtnaoanmkepcinaaHRefDet
namespace Go.Proofs.Ytnaoanmkepcinaa
open Go.RowKit

set_option maxRecDepth 100000 in
set_option maxHeartbeats 2000000 in
theorem heated_any {m : List (List Int)} {pw : List Int} {N : Nat} (hN : m.length = N) (hq1 : vB m = true) (hq2 : lstB pw N 0 1000 = true) (v pv : Value) (i : Nat) (hi : i < N) (w : World) (hv : RdM w v m) (hpv : Rd w pv (ints pw)) :
    Calls Try.prog 72 #[.agg #[v], .int .i64 i, pv] w fun e w' => e = .returned (.int .i64 (hs m pw i N)) ∧ Below w.heap.size w w' := by
  obtain ⟨h1, h2, h3⟩ := vB_bd hq1
  obtain ⟨g1, g2⟩ := lstB_bd hq2
  obtain ⟨vs, ⟨a, cap, rfl, hc, hcm, ha, _⟩, hr⟩ := hv
  obtain ⟨aw, capw, rfl, hcw, hcmw, haw, _⟩ := hpv
  have hE : vs.length = N := by rw [hr.1, hN]
  rw [hE] at hc ⊢
  rw [ints_length, g1] at hcw ⊢
  have HR := Lib.hid hr
  have HSB := Lib.hid (fun k hk => hs_bd hq1 g2 i k hk)
  have HSC : Hid (∀ k, hs m pw i (k + 1) = hs m pw i k + at2 m i k * pw.getD k 0) := Lib.hid fun k => rfl
  have HS0 : Hid (hs m pw i 0 = 0) := Lib.hid rfl
  have hi' : i < m.length := by omega
  obtain ⟨r, hrr⟩ : ∃ r, m[i]? = some r := ⟨_, List.getElem?_eq_getElem hi'⟩
  have hrl : r.length = N := by rw [(h3 r (List.mem_of_getElem? hrr)).1, hN]
  have HAT : Hid (∀ j, at2 m i j = r.getD j 0) := Lib.hid fun j => by
    unfold at2
    rw [show m.getD i [] = r by rw [List.getD_eq_getElem?_getD, hrr]; rfl]
  have HGW : Hid (∀ j, j < N → ∃ x, pw[j]? = some x ∧ pw.getD j 0 = x ∧ 0 ≤ x ∧ x ≤ 1000) := Lib.hid fun j hj =>
    have hj2 : j < pw.length := by omega
    ⟨_, List.getElem?_eq_getElem hj2, by rw [List.getD_eq_getElem?_getD, List.getElem?_eq_getElem hj2]; rfl, g2 _ (List.getElem_mem hj2)⟩
  have hwl := Lib.hid g1
  have HABD := Lib.hid (fun k => at2_bd hq1 i k)
  have hN5 : N ≤ 5 := by omega
  obtain ⟨b, off, rfl, hcell⟩ := ha.cell (j := i) (by rw [hE]; exact hi)
  obtain ⟨rv, hrv⟩ : ∃ rv, vs[i]? = some rv := ⟨_, List.getElem?_eq_getElem (by rw [hE]; exact hi)⟩
  have c5 := hcell i _ hrv
  have hR1 := HR.out.2 i rv r hrv hrr
  obtain ⟨a1, cap1, rfl, hc1, hcm1, ha1, _⟩ := hR1
  rw [ints_length, hrl] at hc1 c5
  have HRL := Lib.hid hrl
  have HC5 := Lib.hid c5
  clear hq1 hq2 h3 g2 hr g1 h1 h2 hcell hrr hrv hrl hi' c5 hN HR ha
  have hiN : (i : Int) < (N : Int) := by omega
  go_enter Try.func72, Try.ntmps72
  go_wp2_with fail
  go_loopw [7, 8] (fun s i wr => ∃ k : Nat, k ≤ N ∧ i = .int .i64 k ∧ s = .int .i64 (hs m pw _ k) ∧ wr.cell? ⟨w.heap.size, 0, none⟩ = some (.slice (some ⟨b, off, none⟩) N cap) ∧ Below w.heap.size w wr) (fun _ i _ => N - (intOf i).toNat)
  case atStart => exact ⟨0, Nat.zero_le _, rfl, by rw [HS0.out], World.cell?_alloc_at _ _ _ _ rfl, (Below.refl _ _).alloc (Nat.le_refl _) _⟩
  case round =>
    obtain ⟨j, hj, rfl, rfl, hcB, hbel⟩ := hrel
    by_cases hjt : j < N
    · obtain ⟨x, hx, hgx, hx1, hx2⟩ := HGW.out j hjt
      have c5 := cell_below HC5.out hbel
      obtain ⟨b1, off1, rfl, hcell1⟩ := (ha1.below hbel (Nat.le_refl _)).cell (j := j) (by rw [ints_length, HRL.out]; exact hjt)
      obtain ⟨b2, off2, rfl, hcell2⟩ := (haw.below hbel (Nat.le_refl _)).cell (j := j) (by rw [ints_length, hwl.out]; exact hjt)
      obtain ⟨y, hy2⟩ : ∃ y, r[j]? = some y := ⟨_, List.getElem?_eq_getElem (by rw [HRL.out]; exact hjt)⟩
      have c6 := hcell1 j _ (ints_get hy2)
      have c7 := hcell2 j _ (ints_get hx)
      have hyb := HABD.out j
      rw [HAT.out, show r.getD j 0 = y by rw [List.getD_eq_getElem?_getD, hy2]; rfl] at hyb
      have HK1 := HSC.out j
      rw [HAT.out, show r.getD j 0 = y by rw [List.getD_eq_getElem?_getD, hy2]; rfl, hgx] at HK1
      have hb1 := HSB.out j (by omega)
      have hb2 := HSB.out (j + 1) (by omega)
      have hxy := mul_bd (x := y) (y := x) (a := 200) (b := 1000) (by omega) (by omega) (by decide) (by decide)
      rw [HK1] at hb2
      have HK2 := Lib.hid HK1
      generalize hz : hs m pw i j = z at *
      have hjN : (j : Int) < (N : Int) := by omega
      clear hcell1 hcell2 hx hgx hy2 hz HK1 ha1 haw
      have hw1 : IntKind.i64.wrap (y * x) = y * x := IntWalk.i64_in _ ⟨by omega, by omega⟩
      have hw2 : IntKind.i64.wrap (z + y * x) = z + y * x := IntWalk.i64_in _ ⟨by omega, by omega⟩
      go_wp2_with fail
      go_quiet (fail)
      go_wp2_with fail
      go_roundw
      case rel => exact ⟨j + 1, by omega, by go_num, by rw [HK2.out], hcB, bel_drewN hbel _⟩
      case measure => simp [intOf]; omega
    · obtain rfl : j = N := by omega
      go_wp2_with fail
      go_ret
      exact ⟨rfl, hbel⟩

def phA (m : List (List Int)) (base pw : List Int) : List Int := if psE m base pw = 0 then phL m base pw m.length else []
def ofA (m : List (List Int)) (base pw : List Int) : List Int := if psE m base pw = 0 then ofL m base pw m.length else []
theorem phL_len (m : List (List Int)) (base pw : List Int) (k : Nat) : (phL m base pw k).length = k := by simp [phL]
theorem ofL_len (m : List (List Int)) (base pw : List Int) (k : Nat) : (ofL m base pw k).length = k := by simp [ofL]
theorem psE_ok {m : List (List Int)} {base pw : List Int} (h : psE m base pw = 0) : vB m = true ∧ lstB base m.length (-1000000) 1000000 = true ∧ lstB pw m.length 0 1000 = true := by
  unfold psE at h
  split at h
  · split at h
    · rename_i h1 h2
      rw [Bool.and_eq_true] at h2
      exact ⟨h1, h2.1, h2.2⟩
    · simp at h
  · simp at h

theorem ph_two (b n : Int) : (if (b + n).tmod 1000000 < 0 then (b + n).tmod 1000000 + 1000000 else (b + n).tmod 1000000) = ph b n := by
  unfold ph
  generalize b + n = x
  rcases Int.le_total 0 x with h | h
  · rw [Int.tmod_eq_emod_of_nonneg h, if_neg (by omega)]
  · have e : x.tmod 1000000 = -((-x) % 1000000) := by
      rw [← Int.tmod_eq_emod_of_nonneg (by omega), Int.neg_tmod, Int.neg_neg]
    rw [e]
    split <;> omega

set_option maxRecDepth 100000 in
set_option maxHeartbeats 2000000 in
theorem Phases_no (v bv pv : Value) (m : List (List Int)) (base pw : List Int) (w : World) (hv : RdM w v m) (hbv : Rd w bv (ints base)) (hpv : Rd w pv (ints pw))
    (hl : m.length ≤ 10) (hw : ∀ r ∈ m, r.length ≤ 10) (hlb : base.length ≤ 1000) (hlp : pw.length ≤ 1000) (he : psE m base pw ≠ 0) :
    Calls Try.prog 31 #[.agg #[v], bv, pv] w fun e w' => e = .returned (.tuple #[.slice none 0 0, .int .i64 (psE m base pw)]) ∧ Below w.heap.size w w' := by
  have HV := Lib.hid hv
  have HBV := Lib.hid hbv
  have HPV := Lib.hid hpv
  have HE : Hid (psE m base pw = if vB m then (if lstB base m.length (-1000000) 1000000 && lstB pw m.length 0 1000 then 0 else 2) else 60) := Lib.hid rfl
  have hcall := Lib.hid (fun W hb => opened_any _ m W (HV.out.below (w' := W) hb) hl hw)
  obtain ⟨vs, ⟨a, cap, rfl, hc, hcm, ha, _⟩, hr⟩ := hv
  obtain ⟨ab, capb, rfl, hcb, hcmb, hab, _⟩ := hbv
  obtain ⟨aw, capw, rfl, hcw, hcmw, haw, _⟩ := hpv
  rw [hr.1] at hc HV hcall ⊢
  rw [ints_length] at hcb HBV hcw HPV ⊢
  have HPH := Lib.hid (fun W hb => phases_any a m.length cap _ base W (HBV.out.below (w' := W) (B := w.heap.size) hb (Nat.le_refl _)) (by omega))
  have HPO := Lib.hid (fun W hb => powers_any a m.length cap _ pw W (HPV.out.below (w' := W) (B := w.heap.size) hb (Nat.le_refl _)) (by omega))
  rw [ints_length]
  generalize hEE : psE m base pw = E at *
  clear hEE ha hab haw hr
  have hb0 : Hid (Below w.heap.size w ((w.alloc (.cells #[.slice a m.length cap] 24)).alloc (.cells #[.slice ab base.length capb] 28))) := Lib.hid (((Below.refl _ _).alloc (Nat.le_refl _) _).alloc (by simp) _)
  have cb0 : Hid (((w.alloc (.cells #[.slice a m.length cap] 24)).alloc (.cells #[.slice ab base.length capb] 28)).cell? ⟨w.heap.size + 1, 0, none⟩ = some (.slice ab base.length capb)) := Lib.hid (World.cell?_alloc_at _ _ _ _ (by simp))
  cases hq1 : vB m with
  | false =>
    rw [hq1] at hcall HE
    simp only [Bool.false_eq_true, if_false] at hcall HE
    obtain rfl := HE.out
    clear hq1
    generalize m.length = N at *
    go_enter Try.func31, Try.ntmps31
    go_wp2_with (first
      | (go_at_call 48; refine (hcall.out _ hb0.out).mono ?_; rintro e w1 ⟨rfl, hb1⟩; have hb01 := hb0.out.trans (hb1.mono hb0.out.size)))
    go_ret2
    exact ⟨rfl, hb01.alloc hb01.size _⟩
  | true =>
    rw [hq1] at hcall HE
    simp only [if_true] at hcall HE
    cases hq2 : lstB base m.length (-1000000) 1000000 with
    | false =>
      rw [hq2] at HPH HE
      simp only [Bool.false_and, Bool.false_eq_true, if_false] at HE
      obtain rfl := HE.out
      clear hq1 hq2
      generalize m.length = N at *
      go_enter Try.func31, Try.ntmps31
      go_wp2_with (first
        | (go_at_call 48; refine (hcall.out _ hb0.out).mono ?_; rintro e w1 ⟨rfl, hb1⟩; have hb01 := hb0.out.trans (hb1.mono hb0.out.size); have cb1 := cell_below cb0.out hb1; have lb1 : w.heap.size + 1 < w1.heap.size := World.block_lt_of_cell? _ _ cb1)
        | (go_at_call 62; refine (HPH.out _ (hb01.alloc hb01.size _)).mono ?_; rintro e w2 ⟨rfl, hb2⟩; have hb02 := (hb01.alloc hb01.size _).trans (hb2.mono (by have := hb01.size; simp; omega))))
      go_ret2
      exact ⟨rfl, hb02⟩
    | true =>
      rw [hq2] at HPH HE
      simp only [Bool.true_and] at HE
      cases hq3 : lstB pw m.length 0 1000 with
      | false =>
        rw [hq3] at HPO HE
        simp only [Bool.false_eq_true, if_false] at HE
        obtain rfl := HE.out
        clear hq1 hq2 hq3
        generalize m.length = N at *
        go_enter Try.func31, Try.ntmps31
        go_wp2_with (first
          | (go_at_call 48; refine (hcall.out _ hb0.out).mono ?_; rintro e w1 ⟨rfl, hb1⟩; have hb01 := hb0.out.trans (hb1.mono hb0.out.size); have cb1 := cell_below cb0.out hb1; have lb1 : w.heap.size + 1 < w1.heap.size := World.block_lt_of_cell? _ _ cb1)
          | (go_at_call 62; refine (HPH.out _ (hb01.alloc hb01.size _)).mono ?_; rintro e w2 ⟨rfl, hb2⟩; have hb02 := (hb01.alloc hb01.size _).trans (hb2.mono (by have := hb01.size; simp; omega)); have cx2 : w2.cell? ⟨w1.heap.size, 0, none⟩ = some (.slice a N cap) := cell_below (World.cell?_alloc_at _ _ _ _ rfl) hb2)
          | (go_at_call 59; refine (HPO.out _ hb02).mono ?_; rintro e w3 ⟨rfl, hb3⟩; have hb03 := hb02.trans (hb3.mono hb02.size)))
        go_ret2
        exact ⟨rfl, hb03⟩
      | true =>
        rw [hq3] at HE
        simp only [if_true] at HE
        exact absurd HE.out (by simpa using he)

theorem Phases_any (v bv pv : Value) (m : List (List Int)) (base pw : List Int) (w : World) (hv : RdM w v m) (hbv : Rd w bv (ints base)) (hpv : Rd w pv (ints pw))
    (hl : m.length ≤ 10) (hw : ∀ r ∈ m, r.length ≤ 10) (hlb : base.length ≤ 1000) (hlp : pw.length ≤ 1000) :
    Calls Try.prog 31 #[.agg #[v], bv, pv] w fun e w' => ∃ u, e = .returned (.tuple #[u, .int .i64 (psE m base pw)]) ∧ w'.ownsRow w.heap.size 3 1 u (phA m base pw).length (ints (phA m base pw)) ∧ Below w.heap.size w w' := by
  by_cases he : psE m base pw = 0
  · obtain ⟨q1, q2, q3⟩ := psE_ok he
    rw [show phA m base pw = phL m base pw m.length by unfold phA; rw [if_pos he], he, phL_len]
    exact Phases_ok v bv pv m base pw w hv hbv hpv q1 q2 q3
  · rw [show phA m base pw = [] by unfold phA; rw [if_neg he]]
    refine (Phases_no v bv pv m base pw w hv hbv hpv hl hw hlb hlp he).mono ?_
    rintro e w' ⟨rfl, hb⟩
    exact ⟨_, rfl, World.ownsRow_nil _ _ _ _, hb⟩

set_option maxRecDepth 100000 in
set_option maxHeartbeats 2000000 in
theorem Off_no (v bv pv : Value) (m : List (List Int)) (base pw : List Int) (w : World) (hv : RdM w v m) (hbv : Rd w bv (ints base)) (hpv : Rd w pv (ints pw))
    (hl : m.length ≤ 10) (hw : ∀ r ∈ m, r.length ≤ 10) (hlb : base.length ≤ 1000) (hlp : pw.length ≤ 1000) (he : psE m base pw ≠ 0) :
    Calls Try.prog 33 #[.agg #[v], bv, pv] w fun e w' => e = .returned (.tuple #[.slice none 0 0, .int .i64 (psE m base pw)]) ∧ Below w.heap.size w w' := by
  have HV := Lib.hid hv
  have HBV := Lib.hid hbv
  have HPV := Lib.hid hpv
  have HE : Hid (psE m base pw = if vB m then (if lstB base m.length (-1000000) 1000000 && lstB pw m.length 0 1000 then 0 else 2) else 60) := Lib.hid rfl
  have hcall := Lib.hid (fun W hb => opened_any _ m W (HV.out.below (w' := W) hb) hl hw)
  obtain ⟨vs, ⟨a, cap, rfl, hc, hcm, ha, _⟩, hr⟩ := hv
  obtain ⟨ab, capb, rfl, hcb, hcmb, hab, _⟩ := hbv
  obtain ⟨aw, capw, rfl, hcw, hcmw, haw, _⟩ := hpv
  rw [hr.1] at hc HV hcall ⊢
  rw [ints_length] at hcb HBV hcw HPV ⊢
  have HPH := Lib.hid (fun W hb => phases_any a m.length cap _ base W (HBV.out.below (w' := W) (B := w.heap.size) hb (Nat.le_refl _)) (by omega))
  have HPO := Lib.hid (fun W hb => powers_any a m.length cap _ pw W (HPV.out.below (w' := W) (B := w.heap.size) hb (Nat.le_refl _)) (by omega))
  rw [ints_length]
  generalize hEE : psE m base pw = E at *
  clear hEE ha hab haw hr
  have hb0 : Hid (Below w.heap.size w ((w.alloc (.cells #[.slice a m.length cap] 24)).alloc (.cells #[.slice ab base.length capb] 28))) := Lib.hid (((Below.refl _ _).alloc (Nat.le_refl _) _).alloc (by simp) _)
  have cb0 : Hid (((w.alloc (.cells #[.slice a m.length cap] 24)).alloc (.cells #[.slice ab base.length capb] 28)).cell? ⟨w.heap.size + 1, 0, none⟩ = some (.slice ab base.length capb)) := Lib.hid (World.cell?_alloc_at _ _ _ _ (by simp))
  cases hq1 : vB m with
  | false =>
    rw [hq1] at hcall HE
    simp only [Bool.false_eq_true, if_false] at hcall HE
    obtain rfl := HE.out
    clear hq1
    generalize m.length = N at *
    go_enter Try.func33, Try.ntmps33
    go_wp2_with (first
      | (go_at_call 48; refine (hcall.out _ hb0.out).mono ?_; rintro e w1 ⟨rfl, hb1⟩; have hb01 := hb0.out.trans (hb1.mono hb0.out.size)))
    go_ret2
    exact ⟨rfl, hb01.alloc hb01.size _⟩
  | true =>
    rw [hq1] at hcall HE
    simp only [if_true] at hcall HE
    cases hq2 : lstB base m.length (-1000000) 1000000 with
    | false =>
      rw [hq2] at HPH HE
      simp only [Bool.false_and, Bool.false_eq_true, if_false] at HE
      obtain rfl := HE.out
      clear hq1 hq2
      generalize m.length = N at *
      go_enter Try.func33, Try.ntmps33
      go_wp2_with (first
        | (go_at_call 48; refine (hcall.out _ hb0.out).mono ?_; rintro e w1 ⟨rfl, hb1⟩; have hb01 := hb0.out.trans (hb1.mono hb0.out.size); have cb1 := cell_below cb0.out hb1; have lb1 : w.heap.size + 1 < w1.heap.size := World.block_lt_of_cell? _ _ cb1)
        | (go_at_call 62; refine (HPH.out _ (hb01.alloc hb01.size _)).mono ?_; rintro e w2 ⟨rfl, hb2⟩; have hb02 := (hb01.alloc hb01.size _).trans (hb2.mono (by have := hb01.size; simp; omega))))
      go_ret2
      exact ⟨rfl, hb02⟩
    | true =>
      rw [hq2] at HPH HE
      simp only [Bool.true_and] at HE
      cases hq3 : lstB pw m.length 0 1000 with
      | false =>
        rw [hq3] at HPO HE
        simp only [Bool.false_eq_true, if_false] at HE
        obtain rfl := HE.out
        clear hq1 hq2 hq3
        generalize m.length = N at *
        go_enter Try.func33, Try.ntmps33
        go_wp2_with (first
          | (go_at_call 48; refine (hcall.out _ hb0.out).mono ?_; rintro e w1 ⟨rfl, hb1⟩; have hb01 := hb0.out.trans (hb1.mono hb0.out.size); have cb1 := cell_below cb0.out hb1; have lb1 : w.heap.size + 1 < w1.heap.size := World.block_lt_of_cell? _ _ cb1)
          | (go_at_call 62; refine (HPH.out _ (hb01.alloc hb01.size _)).mono ?_; rintro e w2 ⟨rfl, hb2⟩; have hb02 := (hb01.alloc hb01.size _).trans (hb2.mono (by have := hb01.size; simp; omega)); have cx2 : w2.cell? ⟨w1.heap.size, 0, none⟩ = some (.slice a N cap) := cell_below (World.cell?_alloc_at _ _ _ _ rfl) hb2)
          | (go_at_call 59; refine (HPO.out _ hb02).mono ?_; rintro e w3 ⟨rfl, hb3⟩; have hb03 := hb02.trans (hb3.mono hb02.size)))
        go_ret2
        exact ⟨rfl, hb03⟩
      | true =>
        rw [hq3] at HE
        simp only [if_true] at HE
        exact absurd HE.out (by simpa using he)

theorem Off_any (v bv pv : Value) (m : List (List Int)) (base pw : List Int) (w : World) (hv : RdM w v m) (hbv : Rd w bv (ints base)) (hpv : Rd w pv (ints pw))
    (hl : m.length ≤ 10) (hw : ∀ r ∈ m, r.length ≤ 10) (hlb : base.length ≤ 1000) (hlp : pw.length ≤ 1000) :
    Calls Try.prog 33 #[.agg #[v], bv, pv] w fun e w' => ∃ u, e = .returned (.tuple #[u, .int .i64 (psE m base pw)]) ∧ w'.ownsRow w.heap.size 3 1 u (ofA m base pw).length (ints (ofA m base pw)) ∧ Below w.heap.size w w' := by
  by_cases he : psE m base pw = 0
  · obtain ⟨q1, q2, q3⟩ := psE_ok he
    rw [show ofA m base pw = ofL m base pw m.length by unfold ofA; rw [if_pos he], he, ofL_len]
    exact Off_ok v bv pv m base pw w hv hbv hpv q1 q2 q3
  · rw [show ofA m base pw = [] by unfold ofA; rw [if_neg he]]
    refine (Off_no v bv pv m base pw w hv hbv hpv hl hw hlb hlp he).mono ?_
    rintro e w' ⟨rfl, hb⟩
    exact ⟨_, rfl, World.ownsRow_nil _ _ _ _, hb⟩

set_option maxRecDepth 100000 in
set_option maxHeartbeats 4000000 in
theorem refPhases_any (v bv pv : Value) (m : List (List Int)) (base pw : List Int) (w : World) (hv : RdM w v m) (hbv : Rd w bv (ints base)) (hpv : Rd w pv (ints pw))
    (hw : ∀ r ∈ m, r.length ≤ 10) (hlb : base.length ≤ 1000) (hlp : pw.length ≤ 1000) :
    Calls Try.prog 32 #[.agg #[v], bv, pv] w fun e w' => ∃ u, e = .returned (.tuple #[u, .int .i64 (psE m base pw)]) ∧ w'.ownsRow w.heap.size 3 1 u (phA m base pw).length (ints (phA m base pw)) ∧ Below w.heap.size w w' := by
  have HV := Lib.hid hv
  have HBV := Lib.hid hbv
  have HPV := Lib.hid hpv
  have HE : Hid (psE m base pw = if vB m then (if lstB base m.length (-1000000) 1000000 && lstB pw m.length 0 1000 then 0 else 2) else 60) := Lib.hid rfl
  have HL : Hid (phA m base pw = if psE m base pw = 0 then phL m base pw m.length else []) := Lib.hid rfl
  have hcall := Lib.hid (fun W hb => refValid_any _ m W (HV.out.below (w' := W) hb) hw)
  obtain ⟨vs, ⟨a, cap, rfl, hc, hcm, ha, _⟩, hr⟩ := hv
  obtain ⟨ab, capb, rfl, hcb, hcmb, hab, _⟩ := hbv
  obtain ⟨aw, capw, rfl, hcw, hcmw, haw, _⟩ := hpv
  rw [hr.1] at hc HV hcall ⊢
  rw [ints_length] at hcb HBV hcw HPV ⊢
  rw [ints_length]
  have hb0 : Hid (Below w.heap.size w (w.alloc (.cells #[.slice a m.length cap] 24))) := Lib.hid ((Below.refl _ _).alloc (Nat.le_refl _) _)
  have hcB : Hid ((w.alloc (.cells #[.slice a m.length cap] 24)).cell? ⟨w.heap.size, 0, none⟩ = some (.slice a m.length cap)) := Lib.hid (World.cell?_alloc_at _ _ _ _ rfl)
  have HPH := Lib.hid (fun W hb => isPhases_any m.length _ base W (HBV.out.below (w' := W) (B := w.heap.size) hb (Nat.le_refl _)) (by omega))
  have HPO := Lib.hid (fun W hb => isPowers_any m.length _ pw W (HPV.out.below (w' := W) (B := w.heap.size) hb (Nat.le_refl _)) (by omega))
  clear ha haw hr
  generalize hE : psE m base pw = E at *
  clear hE
  cases hq1 : vB m with
  | false =>
    rw [hq1] at hcall HE
    simp only [Bool.false_eq_true, if_false] at HE
    obtain rfl := HE.out
    rw [if_neg (by decide)] at HL
    rw [HL.out]
    clear hq1 hab
    generalize m.length = N at *
    go_enter Try.func32, Try.ntmps32
    go_wp2_with (first
      | (go_at_call 15; refine (hcall.out _ hb0.out).mono ?_; rintro e w1 ⟨rfl, hb1⟩; have hb01 := hb0.out.trans (hb1.mono hb0.out.size)))
    go_ret2
    exact ⟨_, rfl, World.ownsRow_nil _ _ _ _, hb01⟩
  | true =>
    rw [hq1] at hcall HE
    simp only [if_true] at HE
    cases hq2 : lstB base m.length (-1000000) 1000000 with
    | false =>
      rw [hq2] at HPH HE
      simp only [Bool.false_and, Bool.false_eq_true, if_false] at HE
      obtain rfl := HE.out
      rw [if_neg (by decide)] at HL
      rw [HL.out]
      clear hq1 hq2 hab
      generalize m.length = N at *
      go_enter Try.func32, Try.ntmps32
      go_wp2_with (first
        | (go_at_call 15; refine (hcall.out _ hb0.out).mono ?_; rintro e w1 ⟨rfl, hb1⟩; have hb01 := hb0.out.trans (hb1.mono hb0.out.size); have c1 := cell_below hcB.out hb1)
        | (go_at_call 65; refine (HPH.out _ hb01).mono ?_; rintro e w' ⟨rfl, rfl⟩))
      go_ret2
      exact ⟨_, rfl, World.ownsRow_nil _ _ _ _, hb01⟩
    | true =>
      rw [hq2] at HPH HE
      simp only [Bool.true_and] at HE
      cases hq3 : lstB pw m.length 0 1000 with
      | false =>
        rw [hq3] at HPO HE
        simp only [Bool.false_eq_true, if_false] at HE
        obtain rfl := HE.out
        rw [if_neg (by decide)] at HL
        rw [HL.out]
        clear hq1 hq2 hq3 hab
        generalize m.length = N at *
        go_enter Try.func32, Try.ntmps32
        go_wp2_with (first
          | (go_at_call 15; refine (hcall.out _ hb0.out).mono ?_; rintro e w1 ⟨rfl, hb1⟩; have hb01 := hb0.out.trans (hb1.mono hb0.out.size); have c1 := cell_below hcB.out hb1)
          | (go_at_call 65; refine (HPH.out _ hb01).mono ?_; rintro e w' ⟨rfl, rfl⟩)
          | (go_at_call 57; refine (HPO.out _ hb01).mono ?_; rintro e w' ⟨rfl, rfl⟩))
        go_ret2
        exact ⟨_, rfl, World.ownsRow_nil _ _ _ _, hb01⟩
      | true =>
        rw [hq3] at HPO HE
        simp only [if_true] at HE
        obtain rfl := HE.out
        rw [if_pos rfl] at HL
        rw [HL.out, phL_len]
        obtain ⟨h1, h2, h3⟩ := vB_bd hq1
        obtain ⟨g1, g2⟩ := lstB_bd hq2
        obtain ⟨p1, p2⟩ := lstB_bd hq3
        have HHT : Hid (∀ i W, i < m.length → Below w.heap.size w W → Calls Try.prog 72 #[.agg #[.slice a m.length cap], .int .i64 i, .slice aw pw.length capw] W fun e w' => e = .returned (.int .i64 (hs m pw i m.length)) ∧ Below W.heap.size W w') := Lib.hid fun i W hi hb =>
          heated_any rfl hq1 hq3 _ _ i hi W (HV.out.below hb) (HPV.out.below hb (Nat.le_refl _))
        have HGB : Hid (∀ j, j < m.length → ∃ x, base[j]? = some x ∧ base.getD j 0 = x ∧ -1000000 ≤ x ∧ x ≤ 1000000) := Lib.hid fun j hj =>
          have hj2 : j < base.length := by omega
          ⟨_, List.getElem?_eq_getElem hj2, by rw [List.getD_eq_getElem?_getD, List.getElem?_eq_getElem hj2]; rfl, g2 _ (List.getElem_mem hj2)⟩
        have HHB : Hid (∀ i, -1000000 ≤ hs m pw i m.length ∧ hs m pw i m.length ≤ 1000000) := Lib.hid fun i => hs_bd hq1 p2 i _ h2
        have HLS : Hid (∀ k, phL m base pw (k + 1) = phL m base pw k ++ [ph (base.getD k 0) (hs m pw k m.length)]) := Lib.hid fun k => by unfold phL; rw [List.range_succ, List.map_append]; rfl
        have HL0 : Hid (phL m base pw 0 = []) := Lib.hid rfl
        have HLN : Hid (∀ k, (phL m base pw k).length = k) := Lib.hid (phL_len m base pw)
        rw [p1] at HPV HPO HHT ⊢
        rw [g1] at HBV HPH ⊢
        have hbl := Lib.hid g1
        clear hq1 hq2 hq3 h3 g2 p2 g1 p1 HL
        generalize hN : m.length = N at *
        clear hN
        go_enter Try.func32, Try.ntmps32
        go_wp2_with (first
          | (go_at_call 15; refine (hcall.out _ hb0.out).mono ?_; rintro e w1 ⟨rfl, hb1⟩; have hb01 := hb0.out.trans (hb1.mono hb0.out.size); have c1 := cell_below hcB.out hb1)
          | (go_at_call 65; refine (HPH.out _ hb01).mono ?_; rintro e w' ⟨rfl, rfl⟩)
          | (go_at_call 57; refine (HPO.out _ hb01).mono ?_; rintro e w' ⟨rfl, rfl⟩))
        have hz1 := hb01.size
        go_loopw [9, 10] (fun o i wr => ∃ k : Nat, k ≤ N ∧ i = .int .i64 k ∧ wr.ownsRow w1.heap.size 3 1 o k (ints (phL m base pw k)) ∧ Below w1.heap.size w1 wr) (fun _ i _ => N - (intOf i).toNat)
        case atStart => exact ⟨0, Nat.zero_le _, rfl, by rw [HL0.out]; exact World.ownsRow_nil _ _ _ _, Below.refl _ _⟩
        case round =>
          obtain ⟨k, hk, rfl, hown, hb1r⟩ := hrel
          have hbel := hb01.trans (hb1r.mono hz1)
          have cB : wr.cell? ⟨w.heap.size, 0, none⟩ = some (.slice a N cap) := cell_below c1 hb1r
          by_cases hlt : k < N
          · obtain ⟨y, hy, hgy, hy1, hy2⟩ := HGB.out k hlt
            obtain ⟨b, off, rfl, hcell⟩ := (hab.below hbel (Nat.le_refl _)).cell (j := k) (by rw [ints_length, hbl.out]; exact hlt)
            have c6 := hcell k _ (ints_get hy)
            have HT := Lib.hid (fun W (hb : Hid (Below wr.heap.size wr W)) => HHT.out k W hlt (hbel.trans (hb.out.mono hbel.size)))
            have hhb := HHB.out k
            have HLK := HLS.out k
            rw [hgy] at HLK
            generalize hz : hs m pw k N = z at *
            have HLK2 := Lib.hid HLK
            have HBR := Lib.hid hb1r
            have HOW := Lib.hid hown
            have HC1 := Lib.hid cB
            have HC2 := Lib.hid c6
            have hkN : (k : Int) < (N : Int) := by omega
            clear hcell hy hz HLK hgy
            have hw1 : IntKind.i64.wrap (y + z) = y + z := IntWalk.i64_in _ ⟨by omega, by omega⟩
            have HPE := Lib.hid (ph_two y z)
            obtain ⟨t, ht⟩ : ∃ t, (y + z).tmod 1000000 = t := ⟨_, rfl⟩
            have htm := tm_bd (y + z)
            rw [ht] at HPE htm
            have hw2 : IntKind.i64.wrap (t + 1000000) = t + 1000000 := IntWalk.i64_in _ ⟨by omega, by omega⟩
            clear hown hb1r hbel cB
            go_wp2_with fail
            go_region_held3 (fun w' => w'.cell? ⟨w.heap.size, 0, none⟩ = some (.slice a N cap) ∧ w'.cell? ⟨b, off + k, none⟩ = some (.int .i64 y) ∧ Hid (Below wr.heap.size wr w'))
              (first | exact keepS2 hbk (by assumption) | exact ⟨HC1.out, HC2.out, Lib.hid (Below.refl _ _).drew⟩)
              (first
                | (go_at_call 72; refine (HT.out _ (And.right (And.right (by assumption)))).mono ?_; rintro e wk ⟨rfl, hbk⟩))
            have hS : wk.cell? ⟨w.heap.size, 0, none⟩ = some (.slice a N cap) ∧ wk.cell? ⟨b, off + k, none⟩ = some (.int .i64 y) ∧ Hid (Below wr.heap.size wr wk) := by assumption
            have HB2 := Lib.hid (HBR.out.trans (hS.2.2.out.mono HBR.out.size))
            have HO2 := Lib.hid (own_below HOW.out hS.2.2.out)
            clear hS
            by_cases hneg : t < 0
            · rw [if_pos hneg] at HPE
              go_wp2_with (first
                | (at_builtin; refine app1 el_int rfl rfl (w0 := w1) rfl rfl (by exact HB2.out) (by exact HO2.out) rfl (by omega) ?_; intro v3 w5 ho5 hb5 hg5))
              go_roundw
              case rel => exact ⟨k + 1, by omega, by go_num, by rw [HLK2.out, ints_append, ints_one, ← HPE.out]; exact ho5, hb5⟩
              case measure => simp [intOf]; omega
            · rw [if_neg hneg] at HPE
              go_wp2_with (first
                | (at_builtin; refine app1 el_int rfl rfl (w0 := w1) rfl rfl (by exact HB2.out) (by exact HO2.out) rfl (by omega) ?_; intro v3 w5 ho5 hb5 hg5))
              go_roundw
              case rel => exact ⟨k + 1, by omega, by go_num, by rw [HLK2.out, ints_append, ints_one, ← HPE.out]; exact ho5, hb5⟩
              case measure => simp [intOf]; omega
          · obtain rfl : k = N := by omega
            go_wp2_with fail
            go_ret2
            exact ⟨_, rfl, own_le hown hz1, hbel⟩

set_option maxRecDepth 100000 in
set_option maxHeartbeats 4000000 in
theorem refOff_any (v bv pv : Value) (m : List (List Int)) (base pw : List Int) (w : World) (hv : RdM w v m) (hbv : Rd w bv (ints base)) (hpv : Rd w pv (ints pw))
    (hw : ∀ r ∈ m, r.length ≤ 10) (hlb : base.length ≤ 1000) (hlp : pw.length ≤ 1000) :
    Calls Try.prog 34 #[.agg #[v], bv, pv] w fun e w' => ∃ u, e = .returned (.tuple #[u, .int .i64 (psE m base pw)]) ∧ w'.ownsRow w.heap.size 3 1 u (ofA m base pw).length (ints (ofA m base pw)) ∧ Below w.heap.size w w' := by
  have HV := Lib.hid hv
  have HBV := Lib.hid hbv
  have HPV := Lib.hid hpv
  have HE : Hid (psE m base pw = if vB m then (if lstB base m.length (-1000000) 1000000 && lstB pw m.length 0 1000 then 0 else 2) else 60) := Lib.hid rfl
  have HL : Hid (ofA m base pw = if psE m base pw = 0 then ofL m base pw m.length else []) := Lib.hid rfl
  have hcall := Lib.hid (fun W hb => refValid_any _ m W (HV.out.below (w' := W) hb) hw)
  obtain ⟨vs, ⟨a, cap, rfl, hc, hcm, ha, _⟩, hr⟩ := hv
  obtain ⟨ab, capb, rfl, hcb, hcmb, hab, _⟩ := hbv
  obtain ⟨aw, capw, rfl, hcw, hcmw, haw, _⟩ := hpv
  rw [hr.1] at hc HV hcall ⊢
  rw [ints_length] at hcb HBV hcw HPV ⊢
  rw [ints_length]
  have hb0 : Hid (Below w.heap.size w (w.alloc (.cells #[.slice a m.length cap] 24))) := Lib.hid ((Below.refl _ _).alloc (Nat.le_refl _) _)
  have hcB : Hid ((w.alloc (.cells #[.slice a m.length cap] 24)).cell? ⟨w.heap.size, 0, none⟩ = some (.slice a m.length cap)) := Lib.hid (World.cell?_alloc_at _ _ _ _ rfl)
  have HPH := Lib.hid (fun W hb => isPhases_any m.length _ base W (HBV.out.below (w' := W) (B := w.heap.size) hb (Nat.le_refl _)) (by omega))
  have HPO := Lib.hid (fun W hb => isPowers_any m.length _ pw W (HPV.out.below (w' := W) (B := w.heap.size) hb (Nat.le_refl _)) (by omega))
  clear ha haw hr
  generalize hE : psE m base pw = E at *
  clear hE
  cases hq1 : vB m with
  | false =>
    rw [hq1] at hcall HE
    simp only [Bool.false_eq_true, if_false] at HE
    obtain rfl := HE.out
    rw [if_neg (by decide)] at HL
    rw [HL.out]
    clear hq1 hab
    generalize m.length = N at *
    go_enter Try.func34, Try.ntmps34
    go_wp2_with (first
      | (go_at_call 15; refine (hcall.out _ hb0.out).mono ?_; rintro e w1 ⟨rfl, hb1⟩; have hb01 := hb0.out.trans (hb1.mono hb0.out.size)))
    go_ret2
    exact ⟨_, rfl, World.ownsRow_nil _ _ _ _, hb01⟩
  | true =>
    rw [hq1] at hcall HE
    simp only [if_true] at HE
    cases hq2 : lstB base m.length (-1000000) 1000000 with
    | false =>
      rw [hq2] at HPH HE
      simp only [Bool.false_and, Bool.false_eq_true, if_false] at HE
      obtain rfl := HE.out
      rw [if_neg (by decide)] at HL
      rw [HL.out]
      clear hq1 hq2 hab
      generalize m.length = N at *
      go_enter Try.func34, Try.ntmps34
      go_wp2_with (first
        | (go_at_call 15; refine (hcall.out _ hb0.out).mono ?_; rintro e w1 ⟨rfl, hb1⟩; have hb01 := hb0.out.trans (hb1.mono hb0.out.size); have c1 := cell_below hcB.out hb1)
        | (go_at_call 65; refine (HPH.out _ hb01).mono ?_; rintro e w' ⟨rfl, rfl⟩))
      go_ret2
      exact ⟨_, rfl, World.ownsRow_nil _ _ _ _, hb01⟩
    | true =>
      rw [hq2] at HPH HE
      simp only [Bool.true_and] at HE
      cases hq3 : lstB pw m.length 0 1000 with
      | false =>
        rw [hq3] at HPO HE
        simp only [Bool.false_eq_true, if_false] at HE
        obtain rfl := HE.out
        rw [if_neg (by decide)] at HL
        rw [HL.out]
        clear hq1 hq2 hq3 hab
        generalize m.length = N at *
        go_enter Try.func34, Try.ntmps34
        go_wp2_with (first
          | (go_at_call 15; refine (hcall.out _ hb0.out).mono ?_; rintro e w1 ⟨rfl, hb1⟩; have hb01 := hb0.out.trans (hb1.mono hb0.out.size); have c1 := cell_below hcB.out hb1)
          | (go_at_call 65; refine (HPH.out _ hb01).mono ?_; rintro e w' ⟨rfl, rfl⟩)
          | (go_at_call 57; refine (HPO.out _ hb01).mono ?_; rintro e w' ⟨rfl, rfl⟩))
        go_ret2
        exact ⟨_, rfl, World.ownsRow_nil _ _ _ _, hb01⟩
      | true =>
        rw [hq3] at HPO HE
        simp only [if_true] at HE
        obtain rfl := HE.out
        rw [if_pos rfl] at HL
        rw [HL.out, ofL_len]
        obtain ⟨h1, h2, h3⟩ := vB_bd hq1
        obtain ⟨g1, g2⟩ := lstB_bd hq2
        obtain ⟨p1, p2⟩ := lstB_bd hq3
        have HHT : Hid (∀ i W, i < m.length → Below w.heap.size w W → Calls Try.prog 72 #[.agg #[.slice a m.length cap], .int .i64 i, .slice aw pw.length capw] W fun e w' => e = .returned (.int .i64 (hs m pw i m.length)) ∧ Below W.heap.size W w') := Lib.hid fun i W hi hb =>
          heated_any rfl hq1 hq3 _ _ i hi W (HV.out.below hb) (HPV.out.below hb (Nat.le_refl _))
        have HGB : Hid (∀ j, j < m.length → ∃ x, base[j]? = some x ∧ base.getD j 0 = x ∧ -1000000 ≤ x ∧ x ≤ 1000000) := Lib.hid fun j hj =>
          have hj2 : j < base.length := by omega
          ⟨_, List.getElem?_eq_getElem hj2, by rw [List.getD_eq_getElem?_getD, List.getElem?_eq_getElem hj2]; rfl, g2 _ (List.getElem_mem hj2)⟩
        have HHB : Hid (∀ i, -1000000 ≤ hs m pw i m.length ∧ hs m pw i m.length ≤ 1000000) := Lib.hid fun i => hs_bd hq1 p2 i _ h2
        have HLS : Hid (∀ k, ofL m base pw (k + 1) = ofL m base pw k ++ [(fun b n => n - b) (base.getD k 0) (hs m pw k m.length)]) := Lib.hid fun k => by unfold ofL; rw [List.range_succ, List.map_append]; rfl
        have HL0 : Hid (ofL m base pw 0 = []) := Lib.hid rfl
        have HLN : Hid (∀ k, (ofL m base pw k).length = k) := Lib.hid (ofL_len m base pw)
        rw [p1] at HPV HPO HHT ⊢
        rw [g1] at HBV HPH ⊢
        have hbl := Lib.hid g1
        clear hq1 hq2 hq3 h3 g2 p2 g1 p1 HL
        generalize hN : m.length = N at *
        clear hN
        go_enter Try.func34, Try.ntmps34
        go_wp2_with (first
          | (go_at_call 15; refine (hcall.out _ hb0.out).mono ?_; rintro e w1 ⟨rfl, hb1⟩; have hb01 := hb0.out.trans (hb1.mono hb0.out.size); have c1 := cell_below hcB.out hb1)
          | (go_at_call 65; refine (HPH.out _ hb01).mono ?_; rintro e w' ⟨rfl, rfl⟩)
          | (go_at_call 57; refine (HPO.out _ hb01).mono ?_; rintro e w' ⟨rfl, rfl⟩))
        have hz1 := hb01.size
        go_loopw [9, 10] (fun o i wr => ∃ k : Nat, k ≤ N ∧ i = .int .i64 k ∧ wr.ownsRow w1.heap.size 3 1 o k (ints (ofL m base pw k)) ∧ Below w1.heap.size w1 wr) (fun _ i _ => N - (intOf i).toNat)
        case atStart => exact ⟨0, Nat.zero_le _, rfl, by rw [HL0.out]; exact World.ownsRow_nil _ _ _ _, Below.refl _ _⟩
        case round =>
          obtain ⟨k, hk, rfl, hown, hb1r⟩ := hrel
          have hbel := hb01.trans (hb1r.mono hz1)
          have cB : wr.cell? ⟨w.heap.size, 0, none⟩ = some (.slice a N cap) := cell_below c1 hb1r
          by_cases hlt : k < N
          · obtain ⟨y, hy, hgy, hy1, hy2⟩ := HGB.out k hlt
            obtain ⟨b, off, rfl, hcell⟩ := (hab.below hbel (Nat.le_refl _)).cell (j := k) (by rw [ints_length, hbl.out]; exact hlt)
            have c6 := hcell k _ (ints_get hy)
            have HT := Lib.hid (fun W (hb : Hid (Below wr.heap.size wr W)) => HHT.out k W hlt (hbel.trans (hb.out.mono hbel.size)))
            have hhb := HHB.out k
            have HLK := HLS.out k
            rw [hgy] at HLK
            generalize hz : hs m pw k N = z at *
            have HLK2 := Lib.hid HLK
            have HBR := Lib.hid hb1r
            have HOW := Lib.hid hown
            have HC1 := Lib.hid cB
            have HC2 := Lib.hid c6
            have hkN : (k : Int) < (N : Int) := by omega
            clear hcell hy hz HLK hgy
            have hw1 : IntKind.i64.wrap (z - y) = z - y := IntWalk.i64_in _ ⟨by omega, by omega⟩
            clear hown hb1r hbel
            go_wp2_with fail
            go_region_law (first
              | (refine stepK el_int1' rfl rfl (w0 := w1) rfl rfl (heap_alloc_new _ _) (by exact HB2.out.alloc HB2.out.size _) (by exact HO2.out.alloc _) rfl (by simp [Value.oneCell']) (by omega) ?_; intro g' cap' w11 ho11 hg11 hat11 hlt11 hb11)
              | (go_simp; go_at_call 72; refine (HT.out _ (Lib.hid (Below.refl _ _).drew)).mono ?_; rintro e wk ⟨rfl, hbk⟩; have hbk2 : Below wr.heap.size wr wk := (Below.refl _ _).drew.trans hbk; have c9 := cell_below HC2.out hbk2; have HB2 := Lib.hid (HBR.out.trans (hbk2.mono HBR.out.size)); have HO2 := Lib.hid (own_below HOW.out hbk2)))
            all_goals (
              go_wp2_with fail
              go_roundw
              case rel => exact ⟨k + 1, by omega, by go_num, by rw [HLK2.out, ints_append, ints_one]; exact ho11, hb11⟩
              case measure => simp [intOf]; omega)
          · obtain rfl : k = N := by omega
            go_wp2_with fail
            go_ret2
            exact ⟨_, rfl, own_le hown hz1, hbel⟩

end Go.Proofs.Ytnaoanmkepcinaa

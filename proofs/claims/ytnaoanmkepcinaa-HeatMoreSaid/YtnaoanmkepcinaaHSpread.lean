/- Heat: Spread, the program's. -/
import Derived.Test.YtnaoanmkepcinaaHSame
import Derived.Test.YtnaoanmkepcinaaHSane
import Derived.Deep.RegionHeld3
namespace Go.Proofs.Ytnaoanmkepcinaa
open Go.RowKit

/-- the sum of a column -/
def col (m : List (List Int)) (k : Nat) (j : Nat) : Int := si j fun i => at2 m i k
def t1 (c p L : Int) : Int := 1000 * c * p - L * (c.natAbs : Nat) * p
def t2 (c p L : Int) : Int := 1000 * c * p + L * (c.natAbs : Nat) * p
def sp1 (m : List (List Int)) (pw : List Int) (L : Int) (k : Nat) : Int := si k fun j => t1 (col m j m.length) (pw.getD j 0) L
def sp2 (m : List (List Int)) (pw : List Int) (L : Int) (k : Nat) : Int := si k fun j => t2 (col m j m.length) (pw.getD j 0) L
def spE (m : List (List Int)) (pw : List Int) (L : Int) : Int := if vB m then (if lstB pw m.length 0 1000 && inB 0 L 1000 then 0 else 2) else 60
def spO (m : List (List Int)) (pw : List Int) (L : Int) : Int × Int := if spE m pw L = 0 then (sp1 m pw L m.length, sp2 m pw L m.length) else (0, 0)

theorem at2_bd {m : List (List Int)} (h : vB m = true) (i k : Nat) : (at2 m i k).natAbs ≤ 200 := by
  obtain ⟨h1, h2, h3⟩ := vB_bd h
  unfold at2
  rw [List.getD_eq_getElem?_getD, List.getD_eq_getElem?_getD]
  cases hr : m[i]? with
  | none => simp
  | some r =>
    simp only [Option.getD_some]
    cases hx : r[k]? with
    | none => simp
    | some x =>
      have := (h3 r (List.mem_of_getElem? hr)).2 x (List.mem_of_getElem? hx)
      simp only [Option.getD_some]
      omega
theorem col_bd {m : List (List Int)} (h : vB m = true) (k j : Nat) (hj : j ≤ m.length) : -1000 ≤ col m k j ∧ col m k j ≤ 1000 := by
  have h1 := si_bd j (fun i => at2 m i k) 200 fun i _ => at2_bd h i k
  have h2 := (vB_bd h).2.1
  unfold col
  omega
theorem mul_bd {x y a b : Int} (hx : -a ≤ x ∧ x ≤ a) (hy : -b ≤ y ∧ y ≤ b) (ha : 0 ≤ a) (_hb : 0 ≤ b) : -(a * b) ≤ x * y ∧ x * y ≤ a * b := by
  have h1 : (x * y).natAbs ≤ a.natAbs * b.natAbs := by rw [Int.natAbs_mul]; exact Nat.mul_le_mul (by omega) (by omega)
  have h2 : ((a.natAbs * b.natAbs : Nat) : Int) = a * b := by
    rw [Int.natCast_mul, Int.natAbs_of_nonneg ha, Int.natAbs_of_nonneg _hb]
  generalize a * b = u at *
  generalize x * y = v at *
  omega
theorem t_bd {c p L : Int} (hc : -1000 ≤ c ∧ c ≤ 1000) (hp : 0 ≤ p ∧ p ≤ 1000) (hL : 0 ≤ L ∧ L ≤ 1000) :
    (-1000000000 ≤ 1000 * c * p ∧ 1000 * c * p ≤ 1000000000) ∧ (-1000000 ≤ L * (c.natAbs : Nat) ∧ L * (c.natAbs : Nat) ≤ 1000000) ∧ (-1000000000 ≤ L * (c.natAbs : Nat) * p ∧ L * (c.natAbs : Nat) * p ≤ 1000000000) := by
  have h1 := mul_bd (x := 1000 * c) (y := p) (a := 1000000) (b := 1000) (by omega) (by omega) (by decide) (by decide)
  have h2 := mul_bd (x := L) (y := (c.natAbs : Nat)) (a := 1000) (b := 1000) (by omega) (by omega) (by decide) (by decide)
  have h3 := mul_bd (x := L * (c.natAbs : Nat)) (y := p) (a := 1000000) (b := 1000) (by omega) (by omega) (by decide) (by decide)
  exact ⟨by omega, by omega, by omega⟩
theorem sp_bd {m : List (List Int)} {pw : List Int} {L : Int} (h : vB m = true) (hp : ∀ x ∈ pw, 0 ≤ x ∧ x ≤ 1000) (hL : 0 ≤ L ∧ L ≤ 1000) (k : Nat) (hk : k ≤ 5) :
    (-10000000000 ≤ sp1 m pw L k ∧ sp1 m pw L k ≤ 10000000000) ∧ (-10000000000 ≤ sp2 m pw L k ∧ sp2 m pw L k ≤ 10000000000) := by
  have hg : ∀ j, 0 ≤ pw.getD j 0 ∧ pw.getD j 0 ≤ 1000 := fun j => by
    rw [List.getD_eq_getElem?_getD]
    cases hx : pw[j]? with
    | none => simp
    | some x => exact hp x (List.mem_of_getElem? hx)
  have h1 := si_bd k (fun j => t1 (col m j m.length) (pw.getD j 0) L) 2000000000 fun j _ => by
    have := t_bd (col_bd h j m.length (Nat.le_refl _)) (hg j) hL
    unfold t1; omega
  have h2 := si_bd k (fun j => t2 (col m j m.length) (pw.getD j 0) L) 2000000000 fun j _ => by
    have := t_bd (col_bd h j m.length (Nat.le_refl _)) (hg j) hL
    unfold t2; omega
  unfold sp1 sp2
  omega

/-- a cell of two numbers that may be stored to -/
def Two (w : World) (g : Nat) (x y : Int) : Prop := w.cell? ⟨g, 0, none⟩ = some (.int .i64 x) ∧ w.cell? ⟨g, 1, none⟩ = some (.int .i64 y) ∧ w.frozen? ⟨g, 0, none⟩ = false ∧ w.frozen? ⟨g, 1, none⟩ = false
theorem Two.below {w w' : World} {g : Nat} {x y : Int} (h : Two w g x y) (hb : Below w.heap.size w w') : Two w' g x y :=
  ⟨cell_below h.1 hb, cell_below h.2.1 hb, frozen_below h.2.2.1 (World.block_lt_of_cell? _ _ h.1) hb, frozen_below h.2.2.2 (World.block_lt_of_cell? _ _ h.2.1) hb⟩
theorem Two.stored {w : World} {g : Nat} {x y : Int} (h : Two w g x y) (x' y' : Int) : Two ((w.setCell ⟨g, 0, none⟩ (.int .i64 x')).setCell ⟨g, 1, none⟩ (.int .i64 y')) g x' y' := by
  obtain ⟨h1, h2, h3, h4⟩ := h
  refine ⟨?_, ?_, by simpa using h3, by simpa using h4⟩
  · rw [World.cell?_setCell_other _ _ _ _ (by simp)]
    exact World.cell?_setCell_same _ _ _ h1
  · exact World.cell?_setCell_same _ _ _ (by rw [World.cell?_setCell_other _ _ _ _ (by simp)]; exact h2)
theorem Two.made (w : World) (x y : Int) (t : TypeId) : Two (w.alloc (.cells #[.int .i64 x, .int .i64 y] t)) w.heap.size x y :=
  ⟨World.cell?_alloc_at _ _ _ _ rfl, World.cell?_alloc_at _ _ _ _ rfl, by simp, by simp⟩

set_option maxRecDepth 100000 in
set_option maxHeartbeats 2000000 in
theorem Spread_ok (v wv : Value) (m : List (List Int)) (pw : List Int) (L : Int) (w : World) (hv : RdM w v m) (hwv : Rd w wv (ints pw)) (hq1 : vB m = true) (hq2 : lstB pw m.length 0 1000 = true) (hq3 : inB 0 L 1000 = true) :
    Calls Try.prog 20 #[.agg #[v], wv, .int .i64 L] w fun e w' => e = .returned (.tuple #[.agg #[.int .i64 (sp1 m pw L m.length), .int .i64 (sp2 m pw L m.length)], .int .i64 0]) ∧ Below w.heap.size w w' := by
  have HV := Lib.hid hv
  have HWV := Lib.hid hwv
  obtain ⟨h1, h2, h3⟩ := vB_bd hq1
  obtain ⟨g1, g2⟩ := lstB_bd hq2
  have hL := (inB_iff _ _ _).1 hq3
  have HBW := Lib.hid (fun W => between_any 0 L 1000 W)
  rw [hq3] at HBW
  obtain ⟨vs, ⟨a, cap, rfl, hc, hcm, ha, _⟩, hr⟩ := hv
  obtain ⟨aw, capw, rfl, hcw, hcmw, haw, _⟩ := hwv
  rw [hr.1] at hc HV ⊢
  rw [ints_length, g1] at hcw HWV ⊢
  have hE := hr.1
  have HR := Lib.hid hr
  have hcall := Lib.hid (fun W hb => opened_any _ m W (HV.out.below (w' := W) hb) (by omega) (fun r hr => by rw [(h3 r hr).1]; omega))
  rw [hq1] at hcall
  simp only [if_true] at hcall
  have HPH := Lib.hid (fun W hb => powers_any a m.length cap _ pw W (HWV.out.below (w' := W) (B := w.heap.size) hb (Nat.le_refl _)) (by omega))
  rw [hq2] at HPH
  have HCB := Lib.hid (fun k j hj => col_bd hq1 k j hj)
  have HCS : Hid (∀ k j, col m k (j + 1) = col m k j + at2 m j k) := Lib.hid fun k j => rfl
  have HC0 : Hid (∀ k, col m k 0 = 0) := Lib.hid fun k => rfl
  have HSB := Lib.hid (sp_bd hq1 g2 hL)
  have HS1 : Hid (∀ k, sp1 m pw L (k + 1) = sp1 m pw L k + t1 (col m k m.length) (pw.getD k 0) L) := Lib.hid fun k => rfl
  have HS2 : Hid (∀ k, sp2 m pw L (k + 1) = sp2 m pw L k + t2 (col m k m.length) (pw.getD k 0) L) := Lib.hid fun k => rfl
  have HGM : Hid (∀ j, j < m.length → ∃ r, m[j]? = some r ∧ r.length = m.length) := Lib.hid fun j hj => ⟨_, List.getElem?_eq_getElem hj, (h3 _ (List.getElem_mem hj)).1⟩
  have HGW : Hid (∀ j, j < m.length → ∃ x, pw[j]? = some x ∧ pw.getD j 0 = x ∧ 0 ≤ x ∧ x ≤ 1000) := Lib.hid fun j hj =>
    have hj2 : j < pw.length := by omega
    ⟨_, List.getElem?_eq_getElem hj2, by rw [List.getD_eq_getElem?_getD, List.getElem?_eq_getElem hj2]; rfl, g2 _ (List.getElem_mem hj2)⟩
  have hwl := Lib.hid g1
  have HABD := Lib.hid (fun i k => at2_bd hq1 i k)
  clear hq1 hq2 hq3 h3 g2 hr g1
  generalize hN : m.length = N at *
  have HN := Lib.hid hN
  clear hN
  have hb0 : Hid (Below w.heap.size w ((w.alloc (.cells #[.slice a N cap] 24)).alloc (.cells #[.int .i64 0, .int .i64 0] 36))) := Lib.hid (((Below.refl _ _).alloc (Nat.le_refl _) _).alloc (by simp) _)
  have hz0 : Hid (((w.alloc (.cells #[.slice a N cap] 24)).alloc (.cells #[.int .i64 0, .int .i64 0] 36)).heap.size = w.heap.size + 1 + 1) := Lib.hid (by simp)
  have HTW : Hid (Two ((w.alloc (.cells #[.slice a N cap] 24)).alloc (.cells #[.int .i64 0, .int .i64 0] 36)) (w.heap.size + 1) 0 0) := Lib.hid (by have := Two.made (w.alloc (.cells #[.slice a N cap] 24)) 0 0 36; rwa [show (w.alloc (.cells #[.slice a N cap] 24)).heap.size = w.heap.size + 1 from by simp] at this)
  go_enter Try.func20, Try.ntmps20
  go_wp2_with (first
    | (go_at_call 48; refine (hcall.out _ hb0.out).mono ?_; rintro e w1 ⟨rfl, hb1⟩; have hb01 := hb0.out.trans (hb1.mono hb0.out.size); have HT0 := Lib.hid (HTW.out.below hb1))
    | (go_at_call 59; refine (HPH.out _ (hb01.alloc hb01.size _)).mono ?_; rintro e w2 ⟨rfl, hb2⟩; have hb02 := (hb01.alloc hb01.size _).trans (hb2.mono (by have := hb01.size; simp; omega)); have c1 : w2.cell? ⟨w1.heap.size, 0, none⟩ = some (.slice a N cap) := cell_below (World.cell?_alloc_at _ _ _ _ rfl) hb2; have hz1 := hb01.size; have HT3 := Lib.hid ((HT0.out.below ((Below.refl _ _).alloc (Nat.le_refl _) _)).below hb2))
    | (go_at_call 53; refine (HBW.out _).mono ?_; rintro e w' ⟨rfl, rfl⟩))
  have hz2 := hb02.size
  go_loopw [37] (fun i wr => ∃ k : Nat, k ≤ N ∧ i = .int .i64 k ∧ Hid (Two wr w2.heap.size (sp1 m pw L k) (sp2 m pw L k)) ∧ Below w2.heap.size w2 wr) (fun i _ => N - (intOf i).toNat)
  case atStart => exact ⟨0, Nat.zero_le _, rfl, Lib.hid (Two.made w2 0 0 _), (Below.refl _ _).alloc (Nat.le_refl _) _⟩
  case round =>
    obtain ⟨k, hk, rfl, HTK, hb2r⟩ := hrel
    obtain ⟨d1, d2, f1, f2⟩ := HTK.out
    have hbel := hb02.trans (hb2r.mono hz2)
    have cB : wr.cell? ⟨w1.heap.size, 0, none⟩ = some (.slice a N cap) := cell_below c1 hb2r
    by_cases hlt : k < N
    · obtain ⟨p, hp, hgp, hp1, hp2⟩ := HGW.out k hlt
      obtain ⟨b2, off2, rfl, hcell2⟩ := (haw.below hbel (Nat.le_refl _)).cell (j := k) (by rw [ints_length, hwl.out]; exact hlt)
      have c6 := hcell2 k _ (ints_get hp)
      have HK1 := Lib.hid (HS1.out k)
      have HK2 := Lib.hid (HS2.out k)
      rw [hgp] at HK1 HK2
      have hsb := HSB.out k (by omega)
      have hcb := HCB.out k N (Nat.le_refl _)
      clear hcell2 hp hgp
      go_wp2_with fail
      go_loop [13, 46] (fun c i => ∃ j : Nat, j ≤ N ∧ i = .int .i64 j ∧ c = .int .i64 (col m k j)) (fun _ i => N - (intOf i).toNat)
      case atStart => exact ⟨0, Nat.zero_le _, rfl, by rw [HC0.out]⟩
      case round =>
        obtain ⟨j, hj, rfl, rfl⟩ := hrel
        by_cases hjt : j < N
        · obtain ⟨r, hrr, hrl⟩ := HGM.out j hjt
          obtain ⟨b, off, rfl, hcell⟩ := (ha.below hbel (Nat.le_refl _)).cell (j := j) (by rw [hE]; exact hjt)
          obtain ⟨rv, hrv⟩ : ∃ rv, vs[j]? = some rv := ⟨_, List.getElem?_eq_getElem (by rw [hE]; exact hjt)⟩
          have c5 := hcell j _ hrv
          obtain ⟨a1, cap1, rfl, hc1, hcm1, ha1, _⟩ := HR.out.2 j rv r hrv hrr
          rw [ints_length, hrl] at hc1 c5
          obtain ⟨b3, off3, rfl, hcell3⟩ := (ha1.below hbel (Nat.le_refl _)).cell (j := k) (by rw [ints_length, hrl]; exact hlt)
          obtain ⟨y, hy⟩ : ∃ y, r[k]? = some y := ⟨_, List.getElem?_eq_getElem (by omega)⟩
          have c7 := hcell3 k _ (ints_get hy)
          have HCK := Lib.hid (HCS.out k j)
          rw [at2_get hrr hy] at HCK
          have hcb1 := HCB.out k j hj
          have hyb : y.natAbs ≤ 200 := by have := HABD.out j k; rwa [at2_get hrr hy] at this
          generalize col m k j = z at *
          clear hcell hcell3 hrr hrv hy hrl ha haw ha1 hcb
          go_wp2_with fail
          go_round
          case rel => exact ⟨j + 1, by omega, by go_num, by rw [HCK.out]⟩
          case measure => simp [intOf]; omega
        · obtain rfl : j = N := by omega
          generalize col m k j = c at *
          obtain ⟨⟨hA1, hA2⟩, ⟨hB1, hB2⟩, ⟨hC1, hC2⟩⟩ := t_bd hcb ⟨hp1, hp2⟩ hL
          have HT1 : Hid (t1 c p L = 1000 * c * p - L * (c.natAbs : Nat) * p) := Lib.hid rfl
          have HT2 : Hid (t2 c p L = 1000 * c * p + L * (c.natAbs : Nat) * p) := Lib.hid rfl
          have HSZ := Lib.hid (fun W => size_any c W (by omega))
          generalize hs : ((c.natAbs : Nat) : Int) = s at *
          clear hs
          generalize hB : L * s = B at *
          generalize hC : B * p = C at *
          generalize hA : 1000 * c * p = A at *
          generalize t1 c p L = T1 at *
          generalize t2 c p L = T2 at *
          generalize sp1 m pw L k = S1 at *
          generalize sp2 m pw L k = S2 at *
          obtain ⟨hS1, hS2⟩ := hsb
          clear ha haw
          have hw1 : IntKind.i64.wrap (1000 * c) = 1000 * c := IntWalk.i64_in _ ⟨by omega, by omega⟩
          have hw2 : IntKind.i64.wrap A = A := IntWalk.i64_in _ ⟨by omega, by omega⟩
          have hw3 : IntKind.i64.wrap B = B := IntWalk.i64_in _ ⟨by omega, by omega⟩
          have hw4 : IntKind.i64.wrap C = C := IntWalk.i64_in _ ⟨by omega, by omega⟩
          have hw5 : IntKind.i64.wrap (A - C) = A - C := IntWalk.i64_in _ ⟨by omega, by omega⟩
          have hw6 : IntKind.i64.wrap (S1 + (A - C)) = S1 + (A - C) := IntWalk.i64_in _ ⟨by omega, by omega⟩
          have hw7 : IntKind.i64.wrap (A + C) = A + C := IntWalk.i64_in _ ⟨by omega, by omega⟩
          have hw8 : IntKind.i64.wrap (S2 + (A + C)) = S2 + (A + C) := IntWalk.i64_in _ ⟨by omega, by omega⟩
          go_wp2_with fail
          go_region_with (first | (go_at_call 60; refine (HSZ.out _).mono ?_; rintro e w' ⟨rfl, rfl⟩))
          all_goals go_wp2_with fail
          all_goals go_region_with (first | (go_at_call 60; refine (HSZ.out _).mono ?_; rintro e w' ⟨rfl, rfl⟩))
          all_goals go_wp2_with fail
          all_goals (
            go_roundw
            case rel => exact ⟨k + 1, by omega, by go_num, by rw [HK1.out, HK2.out, HT1.out, HT2.out]; exact Lib.hid (HTK.out.stored _ _), ((hb2r.setCell (p := ⟨w2.heap.size, 0, none⟩) (Nat.le_refl _) _).setCell (p := ⟨w2.heap.size, 1, none⟩) (Nat.le_refl _) _).drew.drew⟩
            case measure => simp [intOf]; omega)
    · obtain rfl : k = N := by omega
      obtain ⟨r1, r2, r3, r4⟩ := HT3.out.below hb2r
      have c8 := (Two.stored ⟨r1, r2, r3, r4⟩ (sp1 m pw L k) (sp2 m pw L k)).1
      have c9 := (Two.stored ⟨r1, r2, r3, r4⟩ (sp1 m pw L k) (sp2 m pw L k)).2.1
      clear ha haw
      go_wp2_with fail
      refine bodyPost_ret (v := .tuple #[.agg #[.int .i64 (sp1 m pw L k), .int .i64 (sp2 m pw L k)], .int .i64 0]) (by simp [results, Try.results20, go_sem, c8, c9]) rfl ?_
      exact ⟨rfl, (hbel.setCell (p := ⟨w.heap.size + 1, 0, none⟩) (by simp) _).setCell (p := ⟨w.heap.size + 1, 1, none⟩) (by simp) _⟩

set_option maxRecDepth 100000 in
set_option maxHeartbeats 2000000 in
/-- Spread: its errors. -/
theorem Spread_no (v wv : Value) (m : List (List Int)) (pw : List Int) (L : Int) (w : World) (hv : RdM w v m) (hwv : Rd w wv (ints pw)) (hl : m.length ≤ 10) (hw : ∀ r ∈ m, r.length ≤ 10) (hq : pw.length ≤ 1000) (he : spE m pw L ≠ 0) :
    Calls Try.prog 20 #[.agg #[v], wv, .int .i64 L] w fun e w' => e = .returned (.tuple #[.agg #[.int .i64 0, .int .i64 0], .int .i64 (spE m pw L)]) ∧ Below w.heap.size w w' := by
  have HV := Lib.hid hv
  have HWV := Lib.hid hwv
  have HE : Hid (spE m pw L = if vB m then (if lstB pw m.length 0 1000 && inB 0 L 1000 then 0 else 2) else 60) := Lib.hid rfl
  have hcall := Lib.hid (fun W hb => opened_any _ m W (HV.out.below (w' := W) hb) hl hw)
  have hb0 : Hid (Below w.heap.size w ((w.alloc (.cells #[v] 24)).alloc (.cells #[.int .i64 0, .int .i64 0] 36))) := Lib.hid (((Below.refl _ _).alloc (Nat.le_refl _) _).alloc (by simp) _)
  have HTW : Hid (Two ((w.alloc (.cells #[v] 24)).alloc (.cells #[.int .i64 0, .int .i64 0] 36)) (w.heap.size + 1) 0 0) := Lib.hid (by have := Two.made (w.alloc (.cells #[v] 24)) 0 0 36; rwa [show (w.alloc (.cells #[v] 24)).heap.size = w.heap.size + 1 from by simp] at this)
  have HBW := Lib.hid (fun W => between_any 0 L 1000 W)
  obtain ⟨vs, ⟨a, cap, rfl, hc, hcm, ha, _⟩, hr⟩ := hv
  obtain ⟨aw, capw, rfl, hcw, hcmw, haw, _⟩ := hwv
  rw [hr.1] at hc HV hcall hb0 HTW ⊢
  rw [ints_length] at hcw HWV ⊢
  have HPH := Lib.hid (fun W hb => powers_any a m.length cap _ pw W (HWV.out.below (w' := W) (B := w.heap.size) hb (Nat.le_refl _)) (by omega))
  generalize hE : spE m pw L = E at *
  clear hE ha haw hr
  cases hq1 : vB m with
  | false =>
    rw [hq1] at hcall HE
    simp only [Bool.false_eq_true, if_false] at hcall HE
    obtain rfl := HE.out
    clear hq1 HPH
    generalize hN : m.length = N at *
    clear hN
    go_enter Try.func20, Try.ntmps20
    go_wp2_with (first
      | (go_at_call 48; refine (hcall.out _ hb0.out).mono ?_; rintro e w1 ⟨rfl, hb1⟩; have hb01 := hb0.out.trans (hb1.mono hb0.out.size); obtain ⟨r1, r2, r3, r4⟩ := (HTW.out.below hb1).below ((Below.refl _ _).alloc (Nat.le_refl _) (.cells #[.slice none 0 0] 71))))
    obtain ⟨c8, c9, _, _⟩ := Two.stored ⟨r1, r2, r3, r4⟩ 0 0
    refine bodyPost_ret (v := .tuple #[.agg #[.int .i64 0, .int .i64 0], .int .i64 60]) (by simp [results, Try.results20, go_sem, c8, c9]) rfl ?_
    exact ⟨rfl, ((hb01.alloc hb01.size _).setCell (p := ⟨w.heap.size + 1, 0, none⟩) (by simp) _).setCell (p := ⟨w.heap.size + 1, 1, none⟩) (by simp) _⟩
  | true =>
    rw [hq1] at hcall HE
    simp only [if_true] at hcall HE
    cases hq2 : lstB pw m.length 0 1000 with
    | false =>
      rw [hq2] at HPH HE
      simp only [Bool.false_and, Bool.false_eq_true, if_false] at HE
      obtain rfl := HE.out
      clear hq1 hq2
      generalize hN : m.length = N at *
      clear hN
      go_enter Try.func20, Try.ntmps20
      go_wp2_with (first
        | (go_at_call 48; refine (hcall.out _ hb0.out).mono ?_; rintro e w1 ⟨rfl, hb1⟩; have hb01 := hb0.out.trans (hb1.mono hb0.out.size); have HT0 := Lib.hid (HTW.out.below hb1))
        | (go_at_call 59; refine (HPH.out _ (hb01.alloc hb01.size _)).mono ?_; rintro e w2 ⟨rfl, hb2⟩; have hb02 := (hb01.alloc hb01.size _).trans (hb2.mono (by have := hb01.size; simp; omega)); have c1 : w2.cell? ⟨w1.heap.size, 0, none⟩ = some (.slice a N cap) := cell_below (World.cell?_alloc_at _ _ _ _ rfl) hb2; obtain ⟨r1, r2, r3, r4⟩ := (HT0.out.below ((Below.refl _ _).alloc (Nat.le_refl _) _)).below hb2))
      obtain ⟨c8, c9, _, _⟩ := Two.stored ⟨r1, r2, r3, r4⟩ 0 0
      refine bodyPost_ret (v := .tuple #[.agg #[.int .i64 0, .int .i64 0], .int .i64 2]) (by simp [results, Try.results20, go_sem, c8, c9]) rfl ?_
      exact ⟨rfl, (hb02.setCell (p := ⟨w.heap.size + 1, 0, none⟩) (by simp) _).setCell (p := ⟨w.heap.size + 1, 1, none⟩) (by simp) _⟩
    | true =>
      rw [hq2] at HPH HE
      simp only [Bool.true_and] at HE
      cases hq3 : inB 0 L 1000 with
      | true =>
        rw [hq3] at HE
        exact absurd HE.out (by simpa using he)
      | false =>
        rw [hq3] at HBW HE
        simp only [Bool.false_eq_true, if_false] at HE
        obtain rfl := HE.out
        clear hq1 hq2 hq3
        generalize hN : m.length = N at *
        clear hN
        go_enter Try.func20, Try.ntmps20
        go_wp2_with (first
          | (go_at_call 48; refine (hcall.out _ hb0.out).mono ?_; rintro e w1 ⟨rfl, hb1⟩; have hb01 := hb0.out.trans (hb1.mono hb0.out.size); have HT0 := Lib.hid (HTW.out.below hb1))
          | (go_at_call 59; refine (HPH.out _ (hb01.alloc hb01.size _)).mono ?_; rintro e w2 ⟨rfl, hb2⟩; have hb02 := (hb01.alloc hb01.size _).trans (hb2.mono (by have := hb01.size; simp; omega)); have c1 : w2.cell? ⟨w1.heap.size, 0, none⟩ = some (.slice a N cap) := cell_below (World.cell?_alloc_at _ _ _ _ rfl) hb2; obtain ⟨r1, r2, r3, r4⟩ := (HT0.out.below ((Below.refl _ _).alloc (Nat.le_refl _) _)).below hb2)
          | (go_at_call 53; refine (HBW.out _).mono ?_; rintro e w' ⟨rfl, rfl⟩))
        obtain ⟨c8, c9, _, _⟩ := Two.stored ⟨r1, r2, r3, r4⟩ 0 0
        refine bodyPost_ret (v := .tuple #[.agg #[.int .i64 0, .int .i64 0], .int .i64 2]) (by simp [results, Try.results20, go_sem, c8, c9]) rfl ?_
        exact ⟨rfl, (hb02.setCell (p := ⟨w.heap.size + 1, 0, none⟩) (by simp) _).setCell (p := ⟨w.heap.size + 1, 1, none⟩) (by simp) _⟩

theorem Spread_any (v wv : Value) (m : List (List Int)) (pw : List Int) (L : Int) (w : World) (hv : RdM w v m) (hwv : Rd w wv (ints pw)) (hl : m.length ≤ 10) (hw : ∀ r ∈ m, r.length ≤ 10) (hq : pw.length ≤ 1000) :
    Calls Try.prog 20 #[.agg #[v], wv, .int .i64 L] w fun e w' => e = .returned (.tuple #[.agg #[.int .i64 (spO m pw L).1, .int .i64 (spO m pw L).2], .int .i64 (spE m pw L)]) ∧ Below w.heap.size w w' := by
  by_cases he : spE m pw L = 0
  · have : vB m = true ∧ lstB pw m.length 0 1000 = true ∧ inB 0 L 1000 = true := by
      unfold spE at he
      split at he
      · split at he
        · rename_i h1 h2; rw [Bool.and_eq_true] at h2; exact ⟨h1, h2.1, h2.2⟩
        · simp at he
      · simp at he
    have e : spO m pw L = (sp1 m pw L m.length, sp2 m pw L m.length) := by unfold spO; rw [if_pos he]
    rw [e, he]
    exact Spread_ok v wv m pw L w hv hwv this.1 this.2.1 this.2.2
  · have e : spO m pw L = (0, 0) := by unfold spO; rw [if_neg he]
    rw [e]
    exact Spread_no v wv m pw L w hv hwv hl hw hq he

end Go.Proofs.Ytnaoanmkepcinaa

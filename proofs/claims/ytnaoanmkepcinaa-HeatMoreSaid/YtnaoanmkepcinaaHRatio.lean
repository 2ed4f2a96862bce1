/- Heat: Det; ratios in lowest terms, in both texts. -/
import Derived.Test.YtnaoanmkepcinaaHDet
namespace Go.Proofs.Ytnaoanmkepcinaa
open Go.RowKit

def rep (n : Nat) : List Nat := List.replicate n 200
theorem rep_bd {m : List (List Int)} (h : vB m = true) : m.length ≤ 5 ∧ (rep m.length).length = m.length ∧ Bd m (rep m.length) ∧ (∀ c ∈ rep m.length, 1 ≤ c ∧ c ≤ 1000000) ∧ fac m.length * pr (rep m.length) ≤ 1000000000000000000 := by
  obtain ⟨h1, h2, h3⟩ := vB_bd h
  refine ⟨h2, by simp [rep], fun r hr => ⟨by rw [(h3 r hr).1]; simp [rep], fun k x c hx hc => ?_⟩, fun c hc => ?_, ?_⟩
  · have := (h3 r hr).2 x (List.mem_of_getElem? hx)
    have hc2 := List.mem_of_getElem? hc
    obtain rfl := List.eq_of_mem_replicate hc2
    omega
  · obtain rfl := List.eq_of_mem_replicate hc
    omega
  · generalize m.length = n at *
    match n, h2 with
    | 0, _ | 1, _ | 2, _ | 3, _ | 4, _ | 5, _ => decide

/-- what Det gives -/
def detN (m : List (List Int)) : Int := if vB m then dt m.length m else 0
def heatE (m : List (List Int)) : Int := if vB m then 0 else 60

theorem Det_any (v : Value) (m : List (List Int)) (w : World) (hv : RdM w v m) (hl : m.length ≤ 10) (hw : ∀ r ∈ m, r.length ≤ 10) :
    Calls Try.prog 17 #[.agg #[v]] w fun e w' => e = .returned (.tuple #[.int .i64 (detN m), .int .i64 (heatE m)]) ∧ Below w.heap.size w w' := by
  have HV := Lib.hid hv
  obtain ⟨vs, ⟨a, cap, rfl, hc, hcm, ha, _⟩, hr⟩ := hv
  rw [hr.1] at hc HV ⊢
  clear hr ha
  have hb0 : Hid (Below w.heap.size w (w.alloc (.cells #[.slice a m.length cap] 24))) := Lib.hid ((Below.refl _ _).alloc (Nat.le_refl _) _)
  have hcall := Lib.hid (fun W hb => opened_any _ m W (HV.out.below (w' := W) hb) hl hw)
  have hbd := Lib.hid (@rep_bd m)
  cases hq : vB m with
  | true =>
    have h1 : detN m = dt m.length m := by simp [detN, hq]
    have h2 : heatE m = 0 := by simp [heatE, hq]
    rw [h1, h2]
    rw [hq] at hcall
    simp only [if_true] at hcall
    have HQ := Lib.hid hq
    have HD : Hid (∀ W, Below w.heap.size w W → Calls Try.prog 49 #[.slice a m.length cap] W fun e w' => e = .returned (.int .i64 (dt m.length m)) ∧ Below W.heap.size W w') := Lib.hid fun W hb => by
      obtain ⟨b1, b2, b3, b4, b5⟩ := hbd.out HQ.out
      exact det_any m.length m _ _ W b1 (HV.out.below hb) rfl b2 b3 b4 b5
    clear hq h1 h2 hw
    generalize dt m.length m = d at *
    generalize m.length = n at *
    go_enter Try.func17, Try.ntmps17
    go_wp2_with (first
      | (go_at_call 48; refine (hcall.out _ hb0.out).mono ?_; rintro e w1 ⟨rfl, hb1⟩; have hb01 := hb0.out.trans (hb1.mono hb0.out.size))
      | (go_at_call 49; refine (HD.out _ (hb01.alloc hb01.size _)).mono ?_; rintro e w2 ⟨rfl, hb2⟩; have hb02 := (hb01.alloc hb01.size _).trans (hb2.mono (by have := hb01.size; simp; omega))))
    go_ret2
    exact ⟨rfl, hb02⟩
  | false =>
    have h1 : detN m = 0 := by simp [detN, hq]
    have h2 : heatE m = 60 := by simp [heatE, hq]
    rw [h1, h2]
    rw [hq] at hcall
    simp only [Bool.false_eq_true, if_false] at hcall
    clear hq h1 h2 hw
    generalize m.length = n at *
    go_enter Try.func17, Try.ntmps17
    go_wp2_with (first
      | (go_at_call 48; refine (hcall.out _ hb0.out).mono ?_; rintro e w1 ⟨rfl, hb1⟩; have hb01 := hb0.out.trans (hb1.mono hb0.out.size)))
    go_ret2
    exact ⟨rfl, hb01.alloc hb01.size _⟩

/-- a ratio in lowest terms -/
def rN (n d : Int) : Int := if d < 0 then -(n.tdiv (Int.gcd n d)) else n.tdiv (Int.gcd n d)
def rD (n d : Int) : Int := if d < 0 then -(d.tdiv (Int.gcd n d)) else d.tdiv (Int.gcd n d)

theorem ratio_any (n d : Int) (w : World) (hn : -1000000000000000000 ≤ n ∧ n ≤ 1000000000000000000) (hd : -1000000000000000000 ≤ d ∧ d ≤ 1000000000000000000) (h0 : d ≠ 0) :
    Calls Try.prog 64 #[.int .i64 n, .int .i64 d] w fun e w' => e = .returned (.agg #[.int .i64 (rN n d), .int .i64 (rD n d)]) ∧ Below w.heap.size w w' := by
  have hb0 : Hid (Below w.heap.size w (w.alloc (.cells #[.int .i64 0, .int .i64 0] 69))) := Lib.hid ((Below.refl _ _).alloc (Nat.le_refl _) _)
  have HG : Hid (Nat.gcd n.natAbs d.natAbs = Int.gcd n d) := Lib.hid rfl
  have HN : Hid (rN n d = if d < 0 then -(n.tdiv (Int.gcd n d)) else n.tdiv (Int.gcd n d)) := Lib.hid rfl
  have HDD : Hid (rD n d = if d < 0 then -(d.tdiv (Int.gcd n d)) else d.tdiv (Int.gcd n d)) := Lib.hid rfl
  have hgp : 0 < Int.gcd n d := Int.gcd_pos_of_ne_zero_right n h0
  have hgl : Int.gcd n d ≤ 1000000000000000000 := by
    have := Int.gcd_le_natAbs_right n h0
    omega
  obtain ⟨g, hg⟩ : ∃ g, g = Int.gcd n d := ⟨_, rfl⟩
  rw [← hg] at HG HN HDD hgp hgl
  have HA : Hid (n.natAbs ≤ 1000000000000000000 ∧ d.natAbs ≤ 1000000000000000000) := Lib.hid (by omega)
  clear hg
  go_enter Try.func64, Try.ntmps64
  go_wp2_with (first
    | (go_at_call 60; (with_reducible refine (size_any _ _ (by omega)).mono ?_); rintro e w' ⟨rfl, rfl⟩))
  go_loopw [5, 6] (fun x y wr => ∃ a b q : Nat, wr = (w.alloc (.cells #[.int .i64 0, .int .i64 0] 69)).drewN q ∧ x = .int .i64 a ∧ y = .int .i64 b ∧ Hid (Nat.gcd a b = g) ∧ a ≤ 1000000000000000000 ∧ b ≤ 1000000000000000000) (fun _ y _ => (intOf y).toNat)
  case atStart => exact ⟨n.natAbs, d.natAbs, 0, rfl, rfl, rfl, HG, HA.out⟩
  case round =>
    obtain ⟨a, b, q, rfl, rfl, rfl, HAB, ha, hb⟩ := hrel
    by_cases hq : b = 0
    · subst hq
      have HA2 : Hid (a = g) := Lib.hid (by have := HAB.out; rwa [Nat.gcd_zero_right] at this)
      obtain rfl := HA2.out
      have hnb : -1000000000000000000 ≤ n.tdiv a ∧ n.tdiv a ≤ 1000000000000000000 := by
        have := Int.natAbs_tdiv_le_natAbs n a; omega
      have hdb : -1000000000000000000 ≤ d.tdiv a ∧ d.tdiv a ≤ 1000000000000000000 := by
        have := Int.natAbs_tdiv_le_natAbs d a; omega
      by_cases hneg : d < 0
      · rw [if_pos hneg] at HN HDD
        go_wp2_with fail
        go_region
        go_wp2_with fail
        refine bodyPost_ret (v := .agg #[.int .i64 (-n.tdiv a), .int .i64 (-d.tdiv a)]) (by simp [results, Try.results64, go_sem]) rfl ?_
        exact ⟨by rw [HN.out, HDD.out], ((bel_drewN hb0.out _).setCell (p := ⟨w.heap.size, 0, none⟩) (Nat.le_refl _) _).setCell (p := ⟨w.heap.size, 1, none⟩) (Nat.le_refl _) _⟩
      · rw [if_neg hneg] at HN HDD
        go_wp2_with fail
        go_region
        go_wp2_with fail
        refine bodyPost_ret (v := .agg #[.int .i64 (n.tdiv a), .int .i64 (d.tdiv a)]) (by simp [results, Try.results64, go_sem]) rfl ?_
        exact ⟨by rw [HN.out, HDD.out], ((bel_drewN hb0.out _).setCell (p := ⟨w.heap.size, 0, none⟩) (Nat.le_refl _) _).setCell (p := ⟨w.heap.size, 1, none⟩) (Nat.le_refl _) _⟩
    · have hb1 : ((b : Int) != 0) = true := by simp [hq]
      have hbp : 0 < b := by omega
      have HAB2 : Hid (Nat.gcd b (a % b) = g) := Lib.hid (by rw [← HAB.out, Nat.gcd_comm a b, Nat.gcd_rec b a, Nat.gcd_comm])
      have hml : a % b < b := Nat.mod_lt _ hbp
      have hrm : ((a : Int)).tmod (b : Int) = ((a % b : Nat) : Int) := rfl
      clear hq
      go_wp2_with fail
      go_quiet (fail)
      try go_wp2_with fail
      go_roundw
      case rel => exact ⟨b, a % b, q + nq, by simp, rfl, by go_num, HAB2, by omega, by omega⟩
      case measure => simp [intOf]; omega

end Go.Proofs.Ytnaoanmkepcinaa

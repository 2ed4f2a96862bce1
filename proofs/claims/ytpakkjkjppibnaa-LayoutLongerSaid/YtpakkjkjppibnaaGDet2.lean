/- Layout: Detour, walked. -/
import Derived.Test.YtpakkjkjppibnaaGDet
namespace Go.Proofs.Ytpakkjkjppibnaa
open Go.RowKit

/-- what Detour gives -/
def DetP (op : Ce → Bool) (p : List Ce) (mo : Int) (w' : World) (u : Value) (E : Int) : Prop :=
  (E = 0 ∧ ∃ k q, k ≤ 100 ∧ mo = ((2 * k : Nat) : Int) ∧ longP op p k = some q ∧ RdP w' u q) ∨ (E ≠ 0 ∧ u = .slice none 0 0)
/-- what Detour gives, with its error -/
def DetQ (op : Ce → Bool) (p : List Ce) (mo : Int) (w' : World) (u : Value) (E : Int) : Prop :=
  (E = 0 ∧ ∃ k q, k ≤ 100 ∧ mo = ((2 * k : Nat) : Int) ∧ longP op p k = some q ∧ RdP w' u q) ∨ (E ≠ 0 ∧ u = .slice none 0 0 ∧ (E = 5 ∨ ¬ (Int.tmod mo 2 = 0 ∧ 0 ≤ mo ∧ mo ≤ 200)))
theorem RdP.form {w : World} {v : Value} {l : List Ce} (h : RdP w v l) : ∃ a c, v = .slice a l.length c := by obtain ⟨a, c, e, _⟩ := h; exact ⟨a, c, e⟩

set_option maxRecDepth 100000 in
set_option maxHeartbeats 2000000 in
theorem Detour_q (gw gh : Nat) (mv bd : Int) (bv : Value) (bl p : List Ce) (v : Value) (mo : Int) (W : World) (hb : RdP W bv bl) (hv : RdP W v p) (hval : validP gw gh mv bd bl = true) (hlen : p.length ≤ 1000) (hp : Path (openP (grK gw gh mv bd bl bl.length)) p) :
    Calls Try.prog 30 #[.agg #[.int .i64 gw, .int .i64 gh, .int .i64 mv, .int .i64 bd, bv], v, .int .i64 mo] W fun e w' => (∃ u E, e = .returned (.tuple #[u, .int .i64 E]) ∧ DetQ (openP (grK gw gh mv bd bl bl.length)) p mo w' u E) ∧ Below W.heap.size W w' := by
  have HBW := Lib.hid ((Below.refl W.heap.size W).alloc (Nat.le_refl _) (.cells #[.int .i64 gw, .int .i64 gh, .int .i64 mv, .int .i64 bd, bv] 24))
  have HVA := Lib.hid (fun V (hV : Below W.heap.size W V) => opened_ok gw gh mv bd bv bl V (hb.below hV) hval)
  obtain ⟨g, hg⟩ : ∃ g, grK gw gh mv bd bl bl.length = g := ⟨_, rfl⟩
  rw [hg] at HVA hp ⊢
  have hcc : ∀ (V : World) Bg sb, GridAt V Bg g bv sb (gw * gh) → checkC (openP g) p = 0 := fun V Bg sb hV => by
    unfold checkC
    rw [if_pos ⟨hp.pos, hlen⟩, if_pos ⟨hp.adj, hp.nd⟩, if_pos hp.all]
  have HCK := Lib.hid (fun V Bg sb (hG : GridAt V Bg g bv sb (gw * gh)) (hV : RdP V v p) => check_any Bg g bv sb (gw * gh) p v V hG hV (Path.small hG hp).wf)
  have HC0 := Lib.hid hcc
  have HCL := Lib.hid (fun V (hr : RdP V v p) => clone_xy v p V hr (by omega) hp.pos)
  have HBT := Lib.hid (fun V => between_any 0 mo 200 V)
  have HLO := Lib.hid (fun (q : List Ce) (u : Value) V Bg sb (hG : GridAt V Bg g bv sb (gw * gh)) (hV : RdP V u q) (h1 : q.length ≤ 10000) (h2 : Path (openP g) q) => longer_any Bg g bv sb (gw * gh) q u V hG hV h1 h2)
  have HLP := Lib.hid (fun k q (e : longP (openP g) p k = some q) => longP_ok hp k q e)
  have HLEN := Lib.hid hlen
  have HV := Lib.hid hv
  obtain ⟨ba, bc, rfl, _, _, _, _⟩ := hb
  obtain ⟨va, vc, rfl, _, _, _, _⟩ := hv
  obtain ⟨r, hr⟩ : ∃ r, Int.tmod mo 2 = r := ⟨_, rfl⟩
  clear hval hlen hp hg hcc
  by_cases hr0 : r = 0
  · subst hr0
    by_cases hm : 0 ≤ mo ∧ mo ≤ 200
    · obtain ⟨k, hk⟩ : ∃ k : Nat, mo = ((2 * k : Nat) : Int) := ⟨(mo / 2).toNat, by
        rw [Int.tmod_eq_emod_of_nonneg hm.1] at hr
        omega⟩
      have hk100 : k ≤ 100 := by omega
      have hq : Int.tdiv mo 2 = (k : Int) := by rw [Int.tdiv_eq_ediv_of_nonneg hm.1]; omega
      have hwk : IntKind.i64.wrap (k : Int) = (k : Int) := IntWalk.i64_in _ ⟨by omega, by omega⟩
      rw [show (decide (0 ≤ mo) && decide (mo ≤ 200)) = true by rw [decide_eq_true hm.1, decide_eq_true hm.2]; rfl] at HBT
      have HMO := Lib.hid hk
      clear hm hk
      go_enter Try.func30, Try.ntmps30
      go_wp2_with (first
        | (go_at_call 38; (with_reducible refine (HVA.out _ HBW.out).mono ?_); rintro e w1 ⟨Bg, sb, rfl, hg1, hb1⟩; have HG1 := Lib.hid hg1; have HB1 := Lib.hid (HBW.out.trans (hb1.mono (by simp))); clear hg1 hb1)
        | (go_at_call 65; (with_reducible refine (HCK.out _ _ _ HG1.out (HV.out.below HB1.out)).mono ?_); rw [HC0.out _ _ _ HG1.out]; rintro e w2 ⟨rfl, hb2⟩; have HG2 := Lib.hid (HG1.out.below hb2); have HB2 := Lib.hid (HB1.out.trans (hb2.mono HB1.out.size)); clear hb2)
        | (go_at_call 52; (with_reducible refine (HBT.out _).mono ?_); rintro e w3 ⟨rfl, rfl⟩)
        | (go_at_call 66; (with_reducible refine (HCL.out _ (HV.out.below HB2.out)).mono ?_); rintro e w4 ⟨u4, rfl, ho4, hb4⟩; have HR4 := Lib.hid (RdP.own ho4 rfl); have HG4 := Lib.hid (HG2.out.below hb4); have HB4 := Lib.hid (HB2.out.trans (hb4.mono HB2.out.size)); clear ho4 hb4))
      have HK := Lib.hid hk100
      go_loopw [11, 40] (fun u i wr => ∃ j : Nat, j ≤ k ∧ i = .int .i64 j ∧ Hid (∃ q, longP (openP g) p j = some q ∧ RdP wr u q) ∧ Hid (Below w4.heap.size w4 wr)) (fun _ i _ => k - (intOf i).toNat)
      case atStart => exact ⟨0, by omega, rfl, Lib.hid ⟨p, rfl, HR4.out⟩, Lib.hid (Below.refl _ _)⟩
      case round =>
        obtain ⟨j, hj, rfl, HQ, HBL⟩ := hrel
        have hQ := HQ.out
        obtain ⟨q, hq1, hq2⟩ := hQ
        have HBW' := Lib.hid (HB4.out.trans (HBL.out.mono HB4.out.size))
        by_cases hjk : j < k
        · have hjk' : decide ((j : Int) < (k : Int)) = true := by simp; omega
          have hL := HLP.out j q hq1
          have HG5 := Lib.hid (HG4.out.below HBL.out)
          have HLA := Lib.hid (HLO.out q u11 wr _ _ HG5.out hq2 (by have := HLEN.out; have := hL.len; omega) hL.path)
          have HNX : Hid (longP (openP g) p (j + 1) = longerP (openP g) q) := Lib.hid (by conv => lhs; unfold longP; rw [hq1])
          obtain ⟨a11, c11, rfl⟩ := hq2.form
          obtain ⟨o, ho⟩ : ∃ o, longerP (openP g) q = o := ⟨_, rfl⟩
          rw [ho] at HLA HNX
          clear hq1 hq2 hL ho
          cases o with
          | none =>
            go_wp2_with (go_at_call 67; (with_reducible refine HLA.out.mono ?_); rintro e w5 ⟨⟨u, rfl, _, hu⟩, hb5⟩; obtain rfl := hu rfl)
            go_ret2
            exact ⟨⟨_, _, rfl, .inr ⟨by decide, rfl, .inl rfl⟩⟩, HBW'.out.trans (hb5.mono HBW'.out.size)⟩
          | some q2 =>
            go_wp2_with (go_at_call 67; (with_reducible refine HLA.out.mono ?_); rintro e w5 ⟨⟨u, rfl, hu, _⟩, hb5⟩; have HU := Lib.hid (hu q2 rfl); have HB5 := Lib.hid hb5; obtain ⟨au, cu, rfl⟩ := HU.out.form; clear hu hb5)
            go_roundw
            case rel => exact ⟨j + 1, by omega, by go_num, Lib.hid ⟨q2, HNX.out, HU.out⟩, Lib.hid (HBL.out.trans (HB5.out.mono HBL.out.size))⟩
            case measure => simp [intOf]; omega
        · obtain rfl : j = k := by omega
          have hjk' : decide ((j : Int) < (j : Int)) = false := by simp
          have HQ1 := Lib.hid hq1
          have HQ2 := Lib.hid hq2
          clear hq1 hq2
          go_wp2_with fail
          go_ret2
          exact ⟨⟨_, _, rfl, .inl ⟨rfl, j, q, HK.out, HMO.out, HQ1.out, HQ2.out⟩⟩, HBW'.out⟩
    · rw [show (decide (0 ≤ mo) && decide (mo ≤ 200)) = false by
        by_cases h1 : 0 ≤ mo
        · rw [decide_eq_true h1, decide_eq_false (fun h2 => hm ⟨h1, h2⟩)]; rfl
        · rw [decide_eq_false h1]; rfl] at HBT
      have HMX := Lib.hid hm
      clear hm
      go_enter Try.func30, Try.ntmps30
      go_wp2_with (first
        | (go_at_call 38; (with_reducible refine (HVA.out _ HBW.out).mono ?_); rintro e w1 ⟨Bg, sb, rfl, hg1, hb1⟩; have HG1 := Lib.hid hg1; have HB1 := Lib.hid (HBW.out.trans (hb1.mono (by simp))); clear hg1 hb1)
        | (go_at_call 65; (with_reducible refine (HCK.out _ _ _ HG1.out (HV.out.below HB1.out)).mono ?_); rw [HC0.out _ _ _ HG1.out]; rintro e w2 ⟨rfl, hb2⟩; have HB2 := Lib.hid (HB1.out.trans (hb2.mono HB1.out.size)); clear hb2)
        | (go_at_call 52; (with_reducible refine (HBT.out _).mono ?_); rintro e w3 ⟨rfl, rfl⟩))
      go_ret2
      exact ⟨⟨_, _, rfl, .inr ⟨by decide, rfl, .inr (fun hh => HMX.out hh.2)⟩⟩, HB2.out⟩
  · have HRX := Lib.hid hr
    have HR0 := Lib.hid hr0
    have hr1 : (r != 0) = true := by simpa using hr0
    have hr2 : (r == 0) = false := by simpa using hr0
    clear hr0
    go_enter Try.func30, Try.ntmps30
    go_wp2_with (first
      | (go_at_call 38; (with_reducible refine (HVA.out _ HBW.out).mono ?_); rintro e w1 ⟨Bg, sb, rfl, hg1, hb1⟩; have HG1 := Lib.hid hg1; have HB1 := Lib.hid (HBW.out.trans (hb1.mono (by simp))); clear hg1 hb1)
      | (go_at_call 65; (with_reducible refine (HCK.out _ _ _ HG1.out (HV.out.below HB1.out)).mono ?_); rw [HC0.out _ _ _ HG1.out]; rintro e w2 ⟨rfl, hb2⟩; have HB2 := Lib.hid (HB1.out.trans (hb2.mono HB1.out.size)); clear hb2))
    go_ret2
    exact ⟨⟨_, _, rfl, .inr ⟨by decide, rfl, .inr (fun hh => HR0.out (HRX.out.symm.trans hh.1))⟩⟩, HB2.out⟩
theorem Detour_any (gw gh : Nat) (mv bd : Int) (bv : Value) (bl p : List Ce) (v : Value) (mo : Int) (W : World) (hb : RdP W bv bl) (hv : RdP W v p) (hval : validP gw gh mv bd bl = true) (hlen : p.length ≤ 1000) (hp : Path (openP (grK gw gh mv bd bl bl.length)) p) :
    Calls Try.prog 30 #[.agg #[.int .i64 gw, .int .i64 gh, .int .i64 mv, .int .i64 bd, bv], v, .int .i64 mo] W fun e w' => (∃ u E, e = .returned (.tuple #[u, .int .i64 E]) ∧ DetP (openP (grK gw gh mv bd bl bl.length)) p mo w' u E) ∧ Below W.heap.size W w' :=
  (Detour_q gw gh mv bd bv bl p v mo W hb hv hval hlen hp).mono fun _ _ ⟨⟨u, E, h1, h2⟩, h3⟩ => ⟨⟨u, E, h1, h2.imp id fun h => ⟨h.1, h.2.1⟩⟩, h3⟩
end Go.Proofs.Ytpakkjkjppibnaa

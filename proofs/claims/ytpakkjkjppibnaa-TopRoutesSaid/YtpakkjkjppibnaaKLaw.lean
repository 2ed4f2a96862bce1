/- Top: a list of routes that a call lays, each in a slice of its own; pairs of cells as they come in.
   Top: the law TopRoutes, walked.
   Top: the law TopRoutes, walked: its long way. -/
import Derived.Test.YtpakkjkjppibnaaKBun
namespace Go.Proofs.Ytpakkjkjppibnaa
open Go.RowKit

/-- a pair of cells -/
abbrev Qd := Int × Int × Int × Int
def RdQ (W : World) (v : Value) (l : List Qd) : Prop := ∃ a cap, v = .slice a l.length cap ∧ ∀ i x, l[i]? = some x → ∃ b o, a = some ⟨b, o, none⟩ ∧
  W.cell? ⟨b, o + i * 4, none⟩ = some (.int .i64 x.1) ∧ W.cell? ⟨b, o + i * 4 + 1, none⟩ = some (.int .i64 x.2.1) ∧ W.cell? ⟨b, o + i * 4 + 2, none⟩ = some (.int .i64 x.2.2.1) ∧ W.cell? ⟨b, o + i * 4 + 3, none⟩ = some (.int .i64 x.2.2.2)

/-- the slices of vs hold the routes of ps -/
def ElP (w : World) (B : Nat) (vs : List Value) (ps : List (List Ce)) : Prop := vs.length = ps.length ∧ ∀ (i : Nat) (u : Value) (p : List Ce), vs[i]? = some u → ps[i]? = some p → w.ownsRow B 26 2 u p.length (pairs p)
theorem ElP.below {w w' : World} {B : Nat} {vs : List Value} {ps : List (List Ce)} (h : ElP w B vs ps) (hb : Below w.heap.size w w') : ElP w' B vs ps := ⟨h.1, fun i u p hu hp => own_below (h.2 i u p hu hp) hb⟩
theorem ElP.grow {w w' : World} {B n : Nat} {v : Value} {vs ws : List Value} {ps : List (List Ce)} (h : ElP w B vs ps) (ho : w.ownsRow B 22 1 v n ws) (hg : w.grownBy w' v.ownBlock) : ElP w' B vs ps :=
  ⟨h.1, fun i u p hu hp => (h.2 i u p hu hp).kept hg (own_other (h.2 i u p hu hp) ho (by decide))⟩
theorem ElP.snoc {w : World} {B : Nat} {vs : List Value} {ps : List (List Ce)} (h : ElP w B vs ps) {u : Value} {p : List Ce} (ho : w.ownsRow B 26 2 u p.length (pairs p)) : ElP w B (vs ++ [u]) (ps ++ [p]) := by
  refine ⟨by simp [h.1], fun i x r hx hr => ?_⟩
  rw [List.getElem?_append] at hx hr
  by_cases hi : i < vs.length
  · rw [if_pos hi] at hx
    rw [if_pos (by rw [← h.1]; exact hi)] at hr
    exact h.2 i x r hx hr
  · rw [if_neg hi] at hx
    rw [if_neg (by rw [← h.1]; exact hi)] at hr
    have : i - vs.length = 0 := by
      have := (List.getElem?_eq_some_iff.1 hx).1
      simp at this
      omega
    rw [this] at hx
    rw [← h.1, this] at hr
    simp at hx hr
    subst hx hr
    exact ho
theorem ElP.push {w6 w7 : World} {B m : Nat} {v : Value} {ws : List Value} {ps : List (List Ce)} {u : Value} {q : List Ce} (h : ElP w6 B ws ps) (hv : w6.ownsRow B 22 1 v m ws) (hq : w6.ownsRow B 26 2 u q.length (pairs q)) (o : Obj)
    (hg : (w6.alloc o).grownBy w7 v.ownBlock) : ElP w7 B (ws ++ [u]) (ps ++ [q]) := ((h.snoc hq).below ((Below.refl _ _).alloc (Nat.le_refl _) o)).grow (hv.alloc o) hg
theorem ElP.nil (w : World) (B : Nat) : ElP w B [] [] := ⟨rfl, fun i u p hu _ => by simp at hu⟩
theorem ElP.rd {w : World} {B n : Nat} {v : Value} {vs : List Value} {ps : List (List Ce)} (ho : w.ownsRow B 22 1 v n vs) (h : ElP w B vs ps) : RdPP w v ps :=
  ⟨vs, Rd.own ho, h.1, fun i u p hu hp => RdP.own (h.2 i u p hu hp) rfl⟩
theorem el_xys : ElemK Try.prog 54 22 (.slice none 0 0) 1 24 :=
  ⟨by kernel_rfl, info_parts (by kernel_rfl), by rfl, by decide, by decide⟩
/-- the routes that are laid -/
def GoodR (w h : Nat) (mv bd : Int) (bl : List Ce) (ps : List (List Ce)) : Prop := ∀ p ∈ ps, checkF w h mv bd bl p = 0 ∧ p.length ≤ 100
theorem GoodR.snoc {w h : Nat} {mv bd : Int} {bl : List Ce} {ps : List (List Ce)} (hg : GoodR w h mv bd bl ps) (hwh : w * h ≤ 100) {x1 y1 x2 y2 : Int} {q : List Ce} {n : Int} (hR : RGood w h mv bd bl x1 y1 x2 y2 q n) : GoodR w h mv bd bl (ps ++ [q]) := fun p hp => by
  rcases List.mem_append.1 hp with hp | hp
  · exact hg p hp
  · simp at hp
    subst hp
    obtain ⟨hv, _, _, _, hn, ha⟩ := checkF_ok hR.chk
    refine ⟨hR.chk, ?_⟩
    have := cells_few (grK_ok hv bl.length) hn (fun x hx => (open_eq hv x).trans (List.all_eq_true.1 ha x hx))
    have h2 : (grK w h mv bd bl bl.length).w * (grK w h mv bd bl bl.length).h = w * h := rfl
    omega
theorem isProof_facts {w h : Nat} {mv bd : Int} {bl : List Ce} {tz : Ce} {pf : List Int} {fe : Int} (hp : isProofP w h mv bd bl tz pf = (true, fe)) : fe = 0 ∧ pf.length = w * h ∧ proofB (grK w h mv bd bl bl.length) tz pf = true := by
  unfold isProofP at hp
  split at hp
  · split at hp
    · split at hp
      · rename_i hl
        have h1 := Prod.mk.inj hp
        refine ⟨h1.2.symm, ?_, h1.1⟩
        have := hl.1
        rw [← Int.natCast_mul] at this
        omega
      · exact absurd (Prod.mk.inj hp).1 (by decide)
    · exact absurd (Prod.mk.inj hp).1 (by decide)
  · exact absurd (Prod.mk.inj hp).1 (by decide)
theorem rt_cases {w h : Nat} {mv bd : Int} {bl : List Ce} (hb : validP w h mv bd bl = true) {x1 y1 x2 y2 : Int} {q : List Ce} {n e : Int} (hr : RtIs w h mv bd bl (x1, y1) (x2, y2) q n e) : e = 72 ∨ e = 5 ∨ e = 0 := by
  cases hr with
  | bad hb' => rw [hb] at hb'; cases hb'
  | block => exact .inl rfl
  | none => exact .inr (.inl rfl)
  | same => exact .inr (.inr rfl)
  | some => exact .inr (.inr rfl)
theorem wrap_cells {w h : Nat} (hw : 1 ≤ w ∧ w ≤ 30) (hh : 1 ≤ h ∧ h ≤ 30) : wrap64 ((w : Int) * (h : Int)) = ((w * h : Nat) : Int) := by
  have h1 : w * h ≤ 30 * 30 := Nat.mul_le_mul hw.2 hh.2
  rw [← Int.natCast_mul]
  unfold wrap64
  omega
end Go.Proofs.Ytpakkjkjppibnaa

namespace Go.Proofs.Ytpakkjkjppibnaa
open Go.RowKit

set_option maxRecDepth 100000 in
set_option maxHeartbeats 2000000 in
theorem routes_skip (w h mv bd : Int) (bv : Value) (bl : List Ce) (v : Value) (l : List Qd) (fv : Value) (W : World) (hv : RdP W bv bl) (hp : RdQ W v l) (hs : (validP w h mv bd bl && decide (w * h ≤ 100) && decide (l.length ≤ 5)) = false) :
    Calls Try.prog 11 #[.agg #[.int .i64 w, .int .i64 h, .int .i64 mv, .int .i64 bd, bv], v, fv] W fun e w' => e = .returned (.bool true) ∧ Below W.heap.size W w' := by
  have HBW := Lib.hid ((Below.refl W.heap.size W).alloc (Nat.le_refl _) (.cells #[.int .i64 w, .int .i64 h, .int .i64 mv, .int .i64 bd, bv] 24))
  have HGX := Lib.hid (GBx.new1 W w h mv bd bv 24)
  have HVA := Lib.hid (fun V (hV : Below W.heap.size W V) => refValid_any w h mv bd bv bl V (hv.below hV))
  have HGU := Lib.hid (fun V => guided_any V)
  obtain ⟨a, cap, rfl⟩ := RdP.form hv
  obtain ⟨av, cv, rfl, _⟩ := hp
  obtain ⟨N, hN⟩ : ∃ N, l.length = N := ⟨_, rfl⟩
  rw [hN] at hs ⊢
  clear hv hN
  cases hb : validP w h mv bd bl with
  | false =>
    rw [hb] at HVA
    clear hs hb
    go_enter Try.func11, Try.ntmps11
    go_wp2_with (first
      | (go_at_call 22; (with_reducible refine (HVA.out _ HBW.out).mono ?_); rintro e w1 ⟨rfl, hb1⟩; have HB1 := Lib.hid (HBW.out.trans (hb1.mono HBW.out.size)); clear hb1)
      | (go_at_call 34; refine (HGU.out _).mono ?_; rintro e w2 ⟨rfl, hb2⟩))
    go_ret
    exact ⟨rfl, HB1.out.trans (hb2.mono HB1.out.size)⟩
  | true =>
    rw [hb] at HVA hs
    obtain ⟨w, h, rfl, rfl⟩ := valid_nat hb
    have hr := ((validP_iff _ _ _ _ _).1 hb).1
    have hwh := wrap_cells (w := w) (h := h) (by omega) (by omega)
    have hwc : (w : Int) * (h : Int) = ((w * h : Nat) : Int) := by rw [Int.natCast_mul]
    rw [hwc] at hs
    obtain ⟨K, hK⟩ : ∃ K, w * h = K := ⟨_, rfl⟩
    rw [hK] at hs hwh
    have hK9 : K ≤ 30 * 30 := by rw [← hK]; exact Nat.mul_le_mul (by omega) (by omega)
    have hwh2 : IntKind.i64.wrap ((w : Int) * (h : Int)) = (K : Int) := by rw [hwc, hK]; exact IntWalk.i64_in _ (by omega)
    by_cases h1 : K ≤ 100
    · have g1 : decide ((100 : Int) < (K : Int)) = false := decide_eq_false (by omega)
      have g2 : decide ((5 : Int) < (N : Int)) = true := by
        apply decide_eq_true
        rw [decide_eq_true (show (K : Int) ≤ 100 by omega), Bool.true_and, Bool.true_and, decide_eq_false_iff_not] at hs
        omega
      clear hs hb hr hwc hK h1
      go_enter Try.func11, Try.ntmps11
      go_wp2_with (first
        | (go_at_call 22; (with_reducible refine (HVA.out _ HBW.out).mono ?_); rintro e w1 ⟨rfl, hb1⟩; have HB1 := Lib.hid (HBW.out.trans (hb1.mono HBW.out.size)); have HG1 := Lib.hid (HGX.out.below hb1); obtain ⟨c0, c1, c2, c3, c4⟩ := HG1.out; clear hb1)
        | (go_at_call 34; refine (HGU.out _).mono ?_; rintro e w2 ⟨rfl, hb2⟩))
      go_ret
      exact ⟨rfl, HB1.out.trans (hb2.mono HB1.out.size)⟩
    · have g1 : decide ((100 : Int) < (K : Int)) = true := decide_eq_true (by omega)
      clear hs hb hr hwc hK h1
      go_enter Try.func11, Try.ntmps11
      go_wp2_with (first
        | (go_at_call 22; (with_reducible refine (HVA.out _ HBW.out).mono ?_); rintro e w1 ⟨rfl, hb1⟩; have HB1 := Lib.hid (HBW.out.trans (hb1.mono HBW.out.size)); have HG1 := Lib.hid (HGX.out.below hb1); obtain ⟨c0, c1, c2, c3, c4⟩ := HG1.out; clear hb1)
        | (go_at_call 34; refine (HGU.out _).mono ?_; rintro e w2 ⟨rfl, hb2⟩))
      go_ret
      exact ⟨rfl, HB1.out.trans (hb2.mono HB1.out.size)⟩
end Go.Proofs.Ytpakkjkjppibnaa

namespace Go.Proofs.Ytpakkjkjppibnaa
open Go.RowKit

/-- the grid's and the pair's cells -/
def TAt (V : World) (B B9 : Nat) (w h mv bd : Int) (bv : Value) (x1 y1 x2 y2 : Int) : Prop := GBx V B w h mv bd bv ∧ PrAt V B9 x1 y1 x2 y2
theorem TAt.below {V V' : World} {B B9 : Nat} {w h mv bd : Int} {bv : Value} {x1 y1 x2 y2 : Int} (hT : TAt V B B9 w h mv bd bv x1 y1 x2 y2) (hb : Below V.heap.size V V') : TAt V' B B9 w h mv bd bv x1 y1 x2 y2 := ⟨hT.1.below hb, hT.2.below hb⟩

set_option maxRecDepth 100000 in
set_option maxHeartbeats 8000000 in
theorem routes_run (w h : Nat) (mv bd : Int) (bv : Value) (bl : List Ce) (v : Value) (l : List Qd) (fv : Value) (pf : List Int) (W : World) (hv : RdP W bv bl) (hp : RdQ W v l) (hf : Rd W fv (ints pf)) (hb : validP w h mv bd bl = true) (hwh : w * h ≤ 100) (hl5 : l.length ≤ 5) :
    Calls Try.prog 11 #[.agg #[.int .i64 w, .int .i64 h, .int .i64 mv, .int .i64 bd, bv], v, fv] W fun e w' => e = .returned (.bool true) ∧ Below W.heap.size W w' := by
  have HBW := Lib.hid ((Below.refl W.heap.size W).alloc (Nat.le_refl _) (.cells #[.int .i64 w, .int .i64 h, .int .i64 mv, .int .i64 bd, bv] 24))
  have HGX := Lib.hid (GBx.new1 W w h mv bd bv 24)
  have hVA := fun V (hV : Below W.heap.size W V) => refValid_any w h mv bd bv bl V (hv.below hV)
  rw [hb] at hVA
  have HVA := Lib.hid hVA
  have HGU := Lib.hid (fun V => guided_any V)
  have HON := Lib.hid (fun x y V (hV : Below W.heap.size W V) => topOn_any w h mv bd bv bl x y V (hv.below hV))
  have HRTA := Lib.hid (fun fr tz q n e V (hV : Below W.heap.size W V) (hr : RtIs w h mv bd bl fr tz q n e) => route_any w h mv bd bv bl fr tz V (hv.below hV) hr)
  have HFRA := Lib.hid (fun tz V (hV : Below W.heap.size W V) => far_any w h mv bd bv bl tz V (hv.below hV))
  have HCHA := Lib.hid (fun x1 y1 x2 y2 qv q n gv V (hV : Below W.heap.size W V) (hq : RdP V qv q) (hR : RGood w h mv bd bl x1 y1 x2 y2 q n) hg => cheapest_any w h mv bd bv bl x1 y1 x2 y2 qv q n gv V (hv.below hV) hq hR hg)
  have HIPA := Lib.hid (fun tz V (hV : Below W.heap.size W V) => isProof_any w h mv bd bv bl tz fv pf V (hv.below hV) (hf.below hV (Nat.le_refl _)))
  have HBU := Lib.hid (fun ps u V (hV : Below W.heap.size W V) (hr : RdPP V u ps) (h5 : ps.length ≤ 5) (hg : GoodR w h mv bd bl ps) => bundled_any w h mv bd bv bl ps u V (hv.below hV) hr h5 hb (fun p hp => (hg p hp).1) (fun p hp => (hg p hp).2))
  have HVB := Lib.hid hb
  have HWH := Lib.hid hwh
  have hr := ((validP_iff _ _ _ _ _).1 hb).1
  have hwc : (w : Int) * (h : Int) = ((w * h : Nat) : Int) := by rw [Int.natCast_mul]
  obtain ⟨K, hK⟩ : ∃ K, w * h = K := ⟨_, rfl⟩
  have hK9 : K ≤ 100 := by rw [← hK]; exact hwh
  have hwh2 : IntKind.i64.wrap ((w : Int) * (h : Int)) = (K : Int) := by rw [hwc, hK]; exact IntWalk.i64_in _ (by omega)
  have hwh3 : wrap64 ((w : Int) * (h : Int)) = (K : Int) := by have := wrap_cells (w := w) (h := h) (by omega) (by omega); rw [this, hK]
  have HKK := Lib.hid hK
  have HPFR := Lib.hid hf
  obtain ⟨fpa, fpc, rfl, _, _, _, _⟩ := Rd.parts hf (show (ints pf).length = pf.length by simp [ints])
  obtain ⟨a, cap, rfl⟩ := RdP.form hv
  obtain ⟨av, cv, rfl, hall⟩ := hp
  obtain ⟨N, hN⟩ : ∃ N, l.length = N := ⟨_, rfl⟩
  rw [hN] at hl5 ⊢
  have HALL := Lib.hid hall
  have HNN := Lib.hid hN
  obtain ⟨LP, hLP⟩ : ∃ LP, pf.length = LP := ⟨_, rfl⟩
  have HLP := Lib.hid hLP
  rw [hLP] at HIPA HPFR ⊢
  have g1 : decide ((100 : Int) < (K : Int)) = false := decide_eq_false (by omega)
  have g2 : decide ((5 : Int) < (N : Int)) = false := decide_eq_false (by omega)
  obtain ⟨wb, hwb⟩ : ∃ wb, W.alloc (.cells #[.int .i64 w, .int .i64 h, .int .i64 mv, .int .i64 bd, .slice a bl.length cap] 24) = wb := ⟨_, rfl⟩
  rw [hwb] at HBW HGX
  have HWB := Lib.hid hwb
  clear hv hall hN hf hb hwh hr hwc hK hLP hVA hwb
  go_enter Try.func11, Try.ntmps11
  go_wp2_with (go_at_call 22; rw [HWB.out]; (with_reducible refine (HVA.out _ HBW.out).mono ?_); rintro e w1 ⟨rfl, hb1⟩; have HB1 := Lib.hid hb1; have HG1 := Lib.hid (HGX.out.below hb1); obtain ⟨c0, c1, c2, c3, c4⟩ := HG1.out; clear hb1)
  obtain ⟨wc, rfl⟩ : ∃ wc, wc = w1 := ⟨_, rfl⟩
  have HWC := Lib.hid (HBW.out.trans (HB1.out.mono HBW.out.size))
  clear c0 c1 c2 c3 c4
  go_loopw [7, 35] (fun p7 p35 wr => ∃ (k m : Nat) (a' : Option Addr) (c' : Nat), k ≤ N ∧ p7 = .slice a' m c' ∧ p35 = .int .i64 k ∧ Hid (Below wc.heap.size wc wr) ∧
    Hid (∃ (ws : List Value) (ps : List (List Ce)), m = ps.length ∧ wr.ownsRow wc.heap.size 22 1 (.slice a' m c') m ws ∧ ElP wr wc.heap.size ws ps ∧ m ≤ k ∧ GoodR w h mv bd bl ps)) (fun _ p35 _ => N - (intOf p35).toNat)
  case atStart => exact ⟨0, 0, none, 0, Nat.zero_le _, rfl, rfl, Lib.hid (Below.refl _ _), Lib.hid ⟨[], [], rfl, World.ownsRow_nil _ _ _ _, ElP.nil _ _, Nat.le_refl _, fun p hp => by cases hp⟩⟩
  case round =>
    obtain ⟨k, m, a', c', hk, rfl, rfl, HB, HPS⟩ := hrel
    by_cases hkN : k < N
    · have hkN' : (k : Int) < (N : Int) := by omega
      obtain ⟨⟨x1, y1, x2, y2⟩, hx⟩ : ∃ x, l[k]? = some x := ⟨_, List.getElem?_eq_getElem (by rw [HNN.out]; exact hkN)⟩
      obtain ⟨bs, os, rfl, q0, q1, q2, q3⟩ := HALL.out k _ hx
      have HWR := Lib.hid (HWC.out.trans (HB.out.mono HWC.out.size))
      replace q0 := cell_below q0 HWR.out
      replace q1 := cell_below q1 HWR.out
      replace q2 := cell_below q2 HWR.out
      replace q3 := cell_below q3 HWR.out
      dsimp only at q0 q1 q2 q3
      have HUP := Lib.hid (fun V (hV : Below wr.heap.size wr V) => HWR.out.trans (hV.mono HWR.out.size))
      have HON1 := Lib.hid (HON.out x1 y1)
      have HON2 := Lib.hid (HON.out x2 y2)
      have HW0 := Lib.hid (bel1 wr (.cells #[.int .i64 x1, .int .i64 y1, .int .i64 x2, .int .i64 y2] 61))
      have HT0 : Hid (TAt (wr.alloc (.cells #[.int .i64 x1, .int .i64 y1, .int .i64 x2, .int .i64 y2] 61)) W.heap.size wr.heap.size w h mv bd (.slice a bl.length cap) x1 y1 x2 y2) := Lib.hid ⟨(HG1.out.below HB.out).below (bel1 _ _), PrAt.new _ _ _ _ _ _ _ rfl⟩
      clear hx
      obtain ⟨⟨c0, c1, c2, c3, c4⟩, p0, p1, p2, p3⟩ := HT0.out
      cases ho1 : onP w h (x1, y1) with
      | false =>
        rw [ho1] at HON1
        clear ho1
        go_wp2_with (go_at_call_of 35 (Value.agg #[.int .i64 x1, .int .i64 y1]); refine (HON1.out _ (by exact HUP.out _ HW0.out)).mono ?_; rintro e w1 ⟨rfl, hb1⟩; have HW1 := Lib.hid (HW0.out.trans (hb1.mono HW0.out.size)); have HT1 := Lib.hid (HT0.out.below hb1); clear c0 c1 c2 c3 c4 p0 p1 p2 p3; obtain ⟨⟨c0, c1, c2, c3, c4⟩, p0, p1, p2, p3⟩ := HT1.out)
        go_roundw
        case rel => exact ⟨k + 1, m, a', c', by omega, rfl, by go_num, Lib.hid (HB.out.trans ((HW1.out).mono HB.out.size)), Lib.hid (by
          obtain ⟨ws, ps, z1, z2, z3, z4, z5⟩ := HPS.out
          exact ⟨ws, ps, z1, own_below z2 HW1.out, z3.below HW1.out, Nat.le_succ_of_le z4, z5⟩)⟩
        case measure => simp [intOf]; omega
      | true =>
        rw [ho1] at HON1
        clear ho1
        cases ho2 : onP w h (x2, y2) with
        | false =>
          rw [ho2] at HON2
          clear ho2
          go_wp2_with (first
            | (go_at_call_of 35 (Value.agg #[.int .i64 x1, .int .i64 y1]); refine (HON1.out _ (by exact HUP.out _ HW0.out)).mono ?_; rintro e w1 ⟨rfl, hb1⟩; have HW1 := Lib.hid (HW0.out.trans (hb1.mono HW0.out.size)); have HT1 := Lib.hid (HT0.out.below hb1); clear c0 c1 c2 c3 c4 p0 p1 p2 p3; obtain ⟨⟨c0, c1, c2, c3, c4⟩, p0, p1, p2, p3⟩ := HT1.out)
            | (go_at_call_of 35 (Value.agg #[.int .i64 x2, .int .i64 y2]); refine (HON2.out _ (by exact HUP.out _ HW1.out)).mono ?_; rintro e w2 ⟨rfl, hb2⟩; have HW2 := Lib.hid (HW1.out.trans (hb2.mono HW1.out.size)); have HT2 := Lib.hid (HT1.out.below hb2); clear c0 c1 c2 c3 c4 p0 p1 p2 p3; obtain ⟨⟨c0, c1, c2, c3, c4⟩, p0, p1, p2, p3⟩ := HT2.out))
          go_roundw
          case rel => exact ⟨k + 1, m, a', c', by omega, rfl, by go_num, Lib.hid (HB.out.trans ((HW2.out).mono HB.out.size)), Lib.hid (by
            obtain ⟨ws, ps, z1, z2, z3, z4, z5⟩ := HPS.out
            exact ⟨ws, ps, z1, own_below z2 HW2.out, z3.below HW2.out, Nat.le_succ_of_le z4, z5⟩)⟩
          case measure => simp [intOf]; omega
        | true =>
          rw [ho2] at HON2
          clear ho2
          obtain ⟨q, n, e, hrt⟩ := rt_exists w h mv bd bl (x1, y1) (x2, y2)
          have HRT := Lib.hid (fun V hV => HRTA.out (x1, y1) (x2, y2) q n e V hV hrt)
          have HFR := Lib.hid (HFRA.out (x2, y2))
          dsimp only at HRT HFR
          rcases rt_cases HVB.out hrt with rfl | rfl | rfl
          · obtain ⟨⟨FL, FE⟩, hfe⟩ : ∃ r, farF w h mv bd bl (x2, y2) = r := ⟨_, rfl⟩
            rw [hfe] at HFR
            dsimp only at HFR
            clear hrt hfe
            go_wp2_with (first
              | (go_at_call_of 35 (Value.agg #[.int .i64 x1, .int .i64 y1]); refine (HON1.out _ (by exact HUP.out _ HW0.out)).mono ?_; rintro e w1 ⟨rfl, hb1⟩; have HW1 := Lib.hid (HW0.out.trans (hb1.mono HW0.out.size)); have HT1 := Lib.hid (HT0.out.below hb1); clear c0 c1 c2 c3 c4 p0 p1 p2 p3; obtain ⟨⟨c0, c1, c2, c3, c4⟩, p0, p1, p2, p3⟩ := HT1.out)
              | (go_at_call_of 35 (Value.agg #[.int .i64 x2, .int .i64 y2]); refine (HON2.out _ (by exact HUP.out _ HW1.out)).mono ?_; rintro e w2 ⟨rfl, hb2⟩; have HW2 := Lib.hid (HW1.out.trans (hb2.mono HW1.out.size)); have HT2 := Lib.hid (HT1.out.below hb2); clear c0 c1 c2 c3 c4 p0 p1 p2 p3; obtain ⟨⟨c0, c1, c2, c3, c4⟩, p0, p1, p2, p3⟩ := HT2.out)
              | (go_at_call 17; refine (HRT.out _ (HUP.out _ HW2.out)).mono ?_; rintro e w3 ⟨⟨qv, rfl, hqo⟩, hb3⟩; have HB23 := Lib.hid (Nat.le_trans HB.out.size HW2.out.size); have HW3 := Lib.hid (HW2.out.trans (hb3.mono HW2.out.size)); have HT3 := Lib.hid (HT2.out.below hb3); clear c0 c1 c2 c3 c4 p0 p1 p2 p3; obtain ⟨⟨c0, c1, c2, c3, c4⟩, p0, p1, p2, p3⟩ := HT3.out; (obtain ⟨qa, qc, rfl⟩ := own_form hqo); have HQ3 := Lib.hid (own_le hqo HB23.out); clear hqo hb3)
              | (go_at_call 14; refine (HFR.out _ (HUP.out _ HW3.out)).mono ?_; rintro e w4 ⟨⟨fv, rfl, hfo⟩, hb4⟩; have HW4 := Lib.hid (HW3.out.trans (hb4.mono HW3.out.size)); have HT4 := Lib.hid (HT3.out.below hb4); clear c0 c1 c2 c3 c4 p0 p1 p2 p3; obtain ⟨⟨c0, c1, c2, c3, c4⟩, p0, p1, p2, p3⟩ := HT4.out; (obtain ⟨fa, fc, rfl⟩ := own_form hfo); have HF4 := Lib.hid (Rd.own hfo); have HQ4 := Lib.hid (own_below HQ3.out hb4); clear hfo hb4))
            go_roundw
            case rel => exact ⟨k + 1, m, a', c', by omega, rfl, by go_num, Lib.hid (HB.out.trans ((HW4.out).mono HB.out.size)), Lib.hid (by
              obtain ⟨ws, ps, z1, z2, z3, z4, z5⟩ := HPS.out
              exact ⟨ws, ps, z1, own_below z2 HW4.out, z3.below HW4.out, Nat.le_succ_of_le z4, z5⟩)⟩
            case measure => simp [intOf]; omega
          · obtain ⟨rfl, rfl, h1, h2, i, hfi, hiK, hi3, hi4⟩ := none_far hrt
            rw [farF_eq HVB.out h2] at HFR
            dsimp only at HFR
            have hFL : (farP (grK w h mv bd bl bl.length) (x2, y2)).length = K := by rw [farP_lenC]; exact HKK.out
            obtain ⟨FL, hFLe⟩ : ∃ FL, farP (grK w h mv bd bl bl.length) (x2, y2) = FL := ⟨_, rfl⟩
            rw [hFLe] at hFL HFR hfi
            rw [hFL] at HFR
            have HFI := Lib.hid hfi
            have HFL := Lib.hid hFL
            have hiK' : i < K := by rw [← HKK.out]; exact hiK
            have i3 : (0 : Int) ≤ (i : Int) := by omega
            have i4 : (i : Int) < (K : Int) := by omega
            clear hrt h1 h2 hfi hiK hFL hFLe
            go_wp2_with (first
              | (go_at_call_of 35 (Value.agg #[.int .i64 x1, .int .i64 y1]); refine (HON1.out _ (by exact HUP.out _ HW0.out)).mono ?_; rintro e w1 ⟨rfl, hb1⟩; have HW1 := Lib.hid (HW0.out.trans (hb1.mono HW0.out.size)); have HT1 := Lib.hid (HT0.out.below hb1); clear c0 c1 c2 c3 c4 p0 p1 p2 p3; obtain ⟨⟨c0, c1, c2, c3, c4⟩, p0, p1, p2, p3⟩ := HT1.out)
              | (go_at_call_of 35 (Value.agg #[.int .i64 x2, .int .i64 y2]); refine (HON2.out _ (by exact HUP.out _ HW1.out)).mono ?_; rintro e w2 ⟨rfl, hb2⟩; have HW2 := Lib.hid (HW1.out.trans (hb2.mono HW1.out.size)); have HT2 := Lib.hid (HT1.out.below hb2); clear c0 c1 c2 c3 c4 p0 p1 p2 p3; obtain ⟨⟨c0, c1, c2, c3, c4⟩, p0, p1, p2, p3⟩ := HT2.out)
              | (go_at_call 17; refine (HRT.out _ (HUP.out _ HW2.out)).mono ?_; rintro e w3 ⟨⟨qv, rfl, hqo⟩, hb3⟩; have HB23 := Lib.hid (Nat.le_trans HB.out.size HW2.out.size); have HW3 := Lib.hid (HW2.out.trans (hb3.mono HW2.out.size)); have HT3 := Lib.hid (HT2.out.below hb3); clear c0 c1 c2 c3 c4 p0 p1 p2 p3; obtain ⟨⟨c0, c1, c2, c3, c4⟩, p0, p1, p2, p3⟩ := HT3.out; (obtain ⟨qa, qc, rfl⟩ := own_form hqo); have HQ3 := Lib.hid (own_le hqo HB23.out); clear hqo hb3)
              | (go_at_call 14; refine (HFR.out _ (HUP.out _ HW3.out)).mono ?_; rintro e w4 ⟨⟨fv, rfl, hfo⟩, hb4⟩; have HW4 := Lib.hid (HW3.out.trans (hb4.mono HW3.out.size)); have HT4 := Lib.hid (HT3.out.below hb4); clear c0 c1 c2 c3 c4 p0 p1 p2 p3; obtain ⟨⟨c0, c1, c2, c3, c4⟩, p0, p1, p2, p3⟩ := HT4.out; (obtain ⟨fa, fc, rfl⟩ := own_form hfo); have HF4 := Lib.hid (Rd.own hfo); have HQ4 := Lib.hid (own_below HQ3.out hb4); clear hfo hb4; (obtain ⟨fb, fo, fcc, efa, fcell⟩ := num_at HF4.out (i := i) (by rw [HFL.out]; exact hiK') HFI.out); (injection efa with ea1 ea2 ea3); subst ea1 ea3; clear ea2))
            go_roundw
            case rel => exact ⟨k + 1, m, a', c', by omega, rfl, by go_num, Lib.hid (HB.out.trans ((HW4.out).mono HB.out.size)), Lib.hid (by
              obtain ⟨ws, ps, z1, z2, z3, z4, z5⟩ := HPS.out
              exact ⟨ws, ps, z1, own_below z2 HW4.out, z3.below HW4.out, Nat.le_succ_of_le z4, z5⟩)⟩
            case measure => simp [intOf]; omega
          · have hR := rgood_rt hrt
            obtain ⟨i, hfi, hiK, hi3, hi4, hpfi⟩ := hR.far
            rw [farF_eq HVB.out hR.ot] at HFR
            dsimp only at HFR
            have HCH := Lib.hid (fun qv gv V hV hq hg => HCHA.out x1 y1 x2 y2 qv q n gv V hV hq hR hg)
            have hFL : (farP (grK w h mv bd bl bl.length) (x2, y2)).length = K := by rw [farP_lenC]; exact HKK.out
            obtain ⟨FL, hFLe⟩ : ∃ FL, farP (grK w h mv bd bl bl.length) (x2, y2) = FL := ⟨_, rfl⟩
            rw [hFLe] at hFL HFR hfi HCH
            rw [hFL] at HFR
            have HIP := Lib.hid (HIPA.out (x2, y2))
            dsimp only at HIP
            obtain ⟨⟨is, fe⟩, hip⟩ : ∃ r, isProofP w h mv bd bl (x2, y2) pf = r := ⟨_, rfl⟩
            rw [hip] at HIP
            dsimp only at HIP
            have hiK' : i < K := by rw [← HKK.out]; exact hiK
            have i3 : (0 : Int) ≤ (i : Int) := by omega
            have i4 : (i : Int) < (K : Int) := by omega
            obtain ⟨ws, ps, z1, z2, z3, z4, z5⟩ := HPS.out
            have HZ2 := Lib.hid z2
            have HZ3 := Lib.hid z3
            have HGR := Lib.hid (z5.snoc HWH.out hR)
            have hm5 : m ≤ 5 := by omega
            have HZ1 := Lib.hid z1
            have HM5 : Hid (m ≤ 4000000) := Lib.hid (by omega)
            cases is with
            | false =>
              clear hrt hfi hiK hFL hFLe hR hpfi hip z1 z2 z3 z5
              go_wp2_with (first
                | (go_at_call_of 35 (Value.agg #[.int .i64 x1, .int .i64 y1]); refine (HON1.out _ (by exact HUP.out _ HW0.out)).mono ?_; rintro e w1 ⟨rfl, hb1⟩; have HW1 := Lib.hid (HW0.out.trans (hb1.mono HW0.out.size)); have HT1 := Lib.hid (HT0.out.below hb1); clear c0 c1 c2 c3 c4 p0 p1 p2 p3; obtain ⟨⟨c0, c1, c2, c3, c4⟩, p0, p1, p2, p3⟩ := HT1.out)
                | (go_at_call_of 35 (Value.agg #[.int .i64 x2, .int .i64 y2]); refine (HON2.out _ (by exact HUP.out _ HW1.out)).mono ?_; rintro e w2 ⟨rfl, hb2⟩; have HW2 := Lib.hid (HW1.out.trans (hb2.mono HW1.out.size)); have HT2 := Lib.hid (HT1.out.below hb2); clear c0 c1 c2 c3 c4 p0 p1 p2 p3; obtain ⟨⟨c0, c1, c2, c3, c4⟩, p0, p1, p2, p3⟩ := HT2.out)
                | (go_at_call 17; refine (HRT.out _ (HUP.out _ HW2.out)).mono ?_; rintro e w3 ⟨⟨qv, rfl, hqo⟩, hb3⟩; have HB23 := Lib.hid (Nat.le_trans HB.out.size HW2.out.size); have HW3 := Lib.hid (HW2.out.trans (hb3.mono HW2.out.size)); have HT3 := Lib.hid (HT2.out.below hb3); clear c0 c1 c2 c3 c4 p0 p1 p2 p3; obtain ⟨⟨c0, c1, c2, c3, c4⟩, p0, p1, p2, p3⟩ := HT3.out; (obtain ⟨qa, qc, rfl⟩ := own_form hqo); have HQ3 := Lib.hid (own_le hqo HB23.out); clear hqo hb3)
                | (go_at_call 14; refine (HFR.out _ (HUP.out _ HW3.out)).mono ?_; rintro e w4 ⟨⟨fv, rfl, hfo⟩, hb4⟩; have HW4 := Lib.hid (HW3.out.trans (hb4.mono HW3.out.size)); have HT4 := Lib.hid (HT3.out.below hb4); clear c0 c1 c2 c3 c4 p0 p1 p2 p3; obtain ⟨⟨c0, c1, c2, c3, c4⟩, p0, p1, p2, p3⟩ := HT4.out; (obtain ⟨fa, fc, rfl⟩ := own_form hfo); have HF4 := Lib.hid (Rd.own hfo); have HQ4 := Lib.hid (own_below HQ3.out hb4); clear hfo hb4)
                | (go_at_call 36; refine (HCH.out _ _ _ (HUP.out _ HW4.out) (RdP.own HQ4.out rfl) HF4.out).mono ?_; rintro e w5 ⟨rfl, hb5⟩; have HW5 := Lib.hid (HW4.out.trans (hb5.mono HW4.out.size)); have HT5 := Lib.hid (HT4.out.below hb5); clear c0 c1 c2 c3 c4 p0 p1 p2 p3; obtain ⟨⟨c0, c1, c2, c3, c4⟩, p0, p1, p2, p3⟩ := HT5.out; have HQ5 := Lib.hid (own_below HQ4.out hb5); clear hb5)
                | (go_at_call 20; refine (HIP.out _ (HUP.out _ HW5.out)).mono ?_; rintro e w6 ⟨rfl, hb6⟩; have HW6 := Lib.hid (HW5.out.trans (hb6.mono HW5.out.size)); have HT6 := Lib.hid (HT5.out.below hb6); clear c0 c1 c2 c3 c4 p0 p1 p2 p3; obtain ⟨⟨c0, c1, c2, c3, c4⟩, p0, p1, p2, p3⟩ := HT6.out; have HQ6 := Lib.hid (own_below HQ5.out hb6); have HB6 := Lib.hid (HB.out.trans (HW6.out.mono HB.out.size)); have HZ6 := Lib.hid (own_below HZ2.out HW6.out); clear hb6)
                | (at_builtin; (refine appK el_xys rfl rfl (w0 := wc) rfl rfl (by exact HB6.out) (by exact HZ6.out) rfl (by simp [Value.oneCell']) HM5.out ?_); intro v7 w7 ho7 hb7 hg7; have HE7 := Lib.hid ((HZ3.out.below HW6.out).push HZ6.out HQ6.out _ hg7); (obtain ⟨a7, c7, rfl⟩ := own_form ho7); have HO7 := Lib.hid ho7; have HB7 := Lib.hid hb7; clear ho7 hb7 hg7))
              go_roundw
              case rel => exact ⟨k + 1, m + 1, a7, c7, by omega, rfl, by go_num, HB7, Lib.hid ⟨_, _, by rw [HZ1.out, List.length_append]; rfl, HO7.out, HE7.out, by omega, HGR.out⟩⟩
              case measure => simp [intOf]; omega
            | true =>
              obtain ⟨rfl, hlp, hpb⟩ := isProof_facts hip
              obtain rfl : LP = K := by rw [← HLP.out, hlp, HKK.out]
              obtain ⟨pi, hpi⟩ : ∃ pi, pf.getD i 0 = pi := ⟨_, rfl⟩
              have hpn := hpfi pf hpb
              rw [hpi] at hpn
              have g3 : decide (n < pi) = false := decide_eq_false (by omega)
              obtain ⟨pb, po, pc, epa, pcell⟩ := num_at HPFR.out (i := i) (by rw [HLP.out]; exact hiK') hpi
              injection epa with ep1 ep2 ep3
              subst ep1 ep3
              have HPC := Lib.hid pcell
              clear hrt hfi hiK hFL hFLe hR hpfi hip z1 z2 z3 z5 hlp hpb hpi hpn pcell ep2
              go_wp2_with (first
                | (go_at_call_of 35 (Value.agg #[.int .i64 x1, .int .i64 y1]); refine (HON1.out _ (by exact HUP.out _ HW0.out)).mono ?_; rintro e w1 ⟨rfl, hb1⟩; have HW1 := Lib.hid (HW0.out.trans (hb1.mono HW0.out.size)); have HT1 := Lib.hid (HT0.out.below hb1); clear c0 c1 c2 c3 c4 p0 p1 p2 p3; obtain ⟨⟨c0, c1, c2, c3, c4⟩, p0, p1, p2, p3⟩ := HT1.out)
                | (go_at_call_of 35 (Value.agg #[.int .i64 x2, .int .i64 y2]); refine (HON2.out _ (by exact HUP.out _ HW1.out)).mono ?_; rintro e w2 ⟨rfl, hb2⟩; have HW2 := Lib.hid (HW1.out.trans (hb2.mono HW1.out.size)); have HT2 := Lib.hid (HT1.out.below hb2); clear c0 c1 c2 c3 c4 p0 p1 p2 p3; obtain ⟨⟨c0, c1, c2, c3, c4⟩, p0, p1, p2, p3⟩ := HT2.out)
                | (go_at_call 17; refine (HRT.out _ (HUP.out _ HW2.out)).mono ?_; rintro e w3 ⟨⟨qv, rfl, hqo⟩, hb3⟩; have HB23 := Lib.hid (Nat.le_trans HB.out.size HW2.out.size); have HW3 := Lib.hid (HW2.out.trans (hb3.mono HW2.out.size)); have HT3 := Lib.hid (HT2.out.below hb3); clear c0 c1 c2 c3 c4 p0 p1 p2 p3; obtain ⟨⟨c0, c1, c2, c3, c4⟩, p0, p1, p2, p3⟩ := HT3.out; (obtain ⟨qa, qc, rfl⟩ := own_form hqo); have HQ3 := Lib.hid (own_le hqo HB23.out); clear hqo hb3)
                | (go_at_call 14; refine (HFR.out _ (HUP.out _ HW3.out)).mono ?_; rintro e w4 ⟨⟨fv, rfl, hfo⟩, hb4⟩; have HW4 := Lib.hid (HW3.out.trans (hb4.mono HW3.out.size)); have HT4 := Lib.hid (HT3.out.below hb4); clear c0 c1 c2 c3 c4 p0 p1 p2 p3; obtain ⟨⟨c0, c1, c2, c3, c4⟩, p0, p1, p2, p3⟩ := HT4.out; (obtain ⟨fa, fc, rfl⟩ := own_form hfo); have HF4 := Lib.hid (Rd.own hfo); have HQ4 := Lib.hid (own_below HQ3.out hb4); clear hfo hb4)
                | (go_at_call 36; refine (HCH.out _ _ _ (HUP.out _ HW4.out) (RdP.own HQ4.out rfl) HF4.out).mono ?_; rintro e w5 ⟨rfl, hb5⟩; have HW5 := Lib.hid (HW4.out.trans (hb5.mono HW4.out.size)); have HT5 := Lib.hid (HT4.out.below hb5); clear c0 c1 c2 c3 c4 p0 p1 p2 p3; obtain ⟨⟨c0, c1, c2, c3, c4⟩, p0, p1, p2, p3⟩ := HT5.out; have HQ5 := Lib.hid (own_below HQ4.out hb5); clear hb5)
                | (go_at_call 20; refine (HIP.out _ (HUP.out _ HW5.out)).mono ?_; rintro e w6 ⟨rfl, hb6⟩; have HW6 := Lib.hid (HW5.out.trans (hb6.mono HW5.out.size)); have HT6 := Lib.hid (HT5.out.below hb6); clear c0 c1 c2 c3 c4 p0 p1 p2 p3; obtain ⟨⟨c0, c1, c2, c3, c4⟩, p0, p1, p2, p3⟩ := HT6.out; have HQ6 := Lib.hid (own_below HQ5.out hb6); have HB6 := Lib.hid (HB.out.trans (HW6.out.mono HB.out.size)); have HZ6 := Lib.hid (own_below HZ2.out HW6.out); clear hb6; have pc6 := cell_below HPC.out (HUP.out _ HW6.out))
                | (at_builtin; (refine appK el_xys rfl rfl (w0 := wc) rfl rfl (by exact HB6.out) (by exact HZ6.out) rfl (by simp [Value.oneCell']) HM5.out ?_); intro v7 w7 ho7 hb7 hg7; have HE7 := Lib.hid ((HZ3.out.below HW6.out).push HZ6.out HQ6.out _ hg7); (obtain ⟨a7, c7, rfl⟩ := own_form ho7); have HO7 := Lib.hid ho7; have HB7 := Lib.hid hb7; clear ho7 hb7 hg7))
              go_roundw
              case rel => exact ⟨k + 1, m + 1, a7, c7, by omega, rfl, by go_num, HB7, Lib.hid ⟨_, _, by rw [HZ1.out, List.length_append]; rfl, HO7.out, HE7.out, by omega, HGR.out⟩⟩
              case measure => simp [intOf]; omega
    · obtain rfl : k = N := by omega
      have HWR := Lib.hid (HWC.out.trans (HB.out.mono HWC.out.size))
      obtain ⟨ws, ps, z1, z2, z3, z4, z5⟩ := HPS.out
      have HBN := Lib.hid (HBU.out ps _ wr HWR.out (ElP.rd z2 z3) (by omega) z5)
      have HG2 := Lib.hid (HG1.out.below HB.out)
      obtain ⟨c0, c1, c2, c3, c4⟩ := HG2.out
      clear z1 z2 z3 z4 z5
      go_wp2_with (first
        | (go_at_call 37; (with_reducible refine HBN.out.mono ?_); rintro e w2 ⟨rfl, hb2⟩; have HB2 := Lib.hid (HWR.out.trans (hb2.mono HWR.out.size)); clear hb2)
        | (go_at_call 34; refine (HGU.out _).mono ?_; rintro e w3 ⟨rfl, hb3⟩))
      go_ret
      exact ⟨rfl, HB2.out.trans (hb3.mono HB2.out.size)⟩

theorem law_routes (w h mv bd : Int) (bv : Value) (bl : List Ce) (v : Value) (l : List Qd) (fv : Value) (pf : List Int) (W : World) (hv : RdP W bv bl) (hp : RdQ W v l) (hf : Rd W fv (ints pf)) :
    Calls Try.prog 11 #[.agg #[.int .i64 w, .int .i64 h, .int .i64 mv, .int .i64 bd, bv], v, fv] W fun e w' => e = .returned (.bool true) ∧ Below W.heap.size W w' := by
  cases hs : (validP w h mv bd bl && decide (w * h ≤ 100) && decide (l.length ≤ 5)) with
  | false => exact routes_skip w h mv bd bv bl v l fv W hv hp hs
  | true =>
    simp only [Bool.and_eq_true, decide_eq_true_eq] at hs
    obtain ⟨⟨hb, h1⟩, h2⟩ := hs
    obtain ⟨x, y, rfl, rfl⟩ := valid_nat hb
    exact routes_run x y mv bd bv bl v l fv pf W hv hp hf hb (by rw [← Int.natCast_mul] at h1; omega) h2
end Go.Proofs.Ytpakkjkjppibnaa

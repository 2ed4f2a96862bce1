/- Heat: what is wanted for loops over functions: a region of a round whose order is drawn; the sums of a bank. -/
import Derived.RangeFuncNested
import Derived.RangeFuncBound
import Derived.RangeFuncCalls
import Derived.RangeFuncLeaves
import Derived.Shelf.Abstract
import Derived.Shelf.RegionOpen
import Derived.OwnWalkIn
import Derived.TacticsInMore
import Derived.LoopNIn
import Derived.LoopIn
import Derived.Maps.AppendAt
import Derived.Test.YtnaoanmkepcinaaHSpread
namespace Go.Proofs.Ytnaoanmkepcinaa
open Go.RowKit Go.Shelf
attribute [local go_sem] Oper.semAt_some

/-! ### A region that draws its order, in a round -/
theorem opIn_of_op {l n : Nat} {P : Program} {o : Oper} {a : Act} {w : World} {K : Act → World → Prop} {Q : Exit → Act → World → Prop} (hnd : ∀ c, o.op ≠ .defer c) (h : o.wp P a w K Q) :
    o.wpIn (Fence.wide.inRound l) n P a w K Q := by
  refine ⟨fun _ _ => trivial, ?_⟩
  rw [Oper.semAt_eq _ _ _ hnd]
  unfold Oper.wp at h
  generalize (execOp a.eval o).run P w = r at *
  cases r with
  | ok x w' =>
    cases x <;> first
      | exact h
      | exact ⟨fun hd => by simp [Fence.inRound, Fence.wide] at hd, CallsIn.inRound l (callsIn_wide.2 h)⟩
      | exact ⟨fun hd => by simp [Fence.inRound, Fence.wide] at hd, fun c cs _ => let ⟨v, w'', hr, s⟩ := h c cs; ⟨v, w'', hr, stepsIn_wide.2 s⟩⟩
      | exact h.elim
  | halt x w' => cases x <;> exact h

def noDefer (l : List Oper) : Bool := l.all fun o => match o.op with | .defer _ => false | _ => true
theorem noDefer_spec {l : List Oper} (h : noDefer l = true) (i : Nat) (o : Oper) (ho : l.toArray[i]? = some o) : ∀ c, o.op ≠ .defer c := fun c e => by
  unfold noDefer at h
  rw [List.all_eq_true] at h
  have := h o (List.mem_of_getElem? (by simpa using ho))
  rw [e] at this
  cases this

theorem anyIn_of_any {l n : Nat} {P : Program} {ops : List Oper} {Q : Exit → Act → World → Prop} {md : Region.Mode} (hnd : noDefer ops = true) (hno : ¬ LetsOut Q) :
    ∀ (fuel : Nat) (listed : Array Bool) (a : Act) (w : World), wpAny P md ops.toArray Q fuel listed a w → wpAnyIn (Fence.wide.inRound l) n P md ops.toArray Q fuel listed a w
  | 0, _, _, _, h => h
  | fuel + 1, listed, a, w, h => by
    refine ⟨h.1, fun i hi => ?_⟩
    refine wpOpIn_mono (fun a' w' h' => anyIn_of_any hnd hno fuel _ a' w' h') ?_
    have h2 := h.2 i hi
    unfold wpOp at h2
    unfold wpOpIn
    cases ho : ops.toArray[i]? with
    | none => rw [ho] at h2; exact h2
    | some o =>
      rw [ho] at h2
      simp only at h2 ⊢
      split
      · rename_i hw
        rw [if_pos hw] at h2
        rcases h2 with h2 | ⟨_, h2⟩
        · exact opIn_of_op (noDefer_spec hnd i o ho) h2
        · exact absurd h2 hno
      · rename_i hw
        rw [if_neg hw] at h2
        exact ⟨fun _ _ => trivial, h2⟩

theorem region_round {l n id : Nat} {P : Program} {ops : List Oper} {Q : Exit → Act → World → Prop} {a : Act} {w : World} (hm : P.follows .mixedOrders = true) (hnd : noDefer ops = true) (hno : ¬ LetsOut Q)
    (h : wpAny P .any ops.toArray Q ops.toArray.size (Array.replicate ops.toArray.size false) a w.drew) : (Code.region id ops.toArray true).wpIn (Fence.wide.inRound l) n P Q a w :=
  wpIn_region_any hm (anyIn_of_any hnd hno _ _ _ _ h)

/-! ### The sums -/
/-- the sum of the gains of guide i, over k heaters -/
def hs (m : List (List Int)) (pw : List Int) (i k : Nat) : Int := si k fun j => at2 m i j * pw.getD j 0
theorem hs_bd {m : List (List Int)} {pw : List Int} (h : vB m = true) (hp : ∀ x ∈ pw, 0 ≤ x ∧ x ≤ 1000) (i k : Nat) (hk : k ≤ 5) : -1000000 ≤ hs m pw i k ∧ hs m pw i k ≤ 1000000 := by
  have hg : ∀ j, 0 ≤ pw.getD j 0 ∧ pw.getD j 0 ≤ 1000 := fun j => by
    rw [List.getD_eq_getElem?_getD]
    cases hx : pw[j]? with
    | none => simp
    | some x => exact hp x (List.mem_of_getElem? hx)
  have h1 := si_bd k (fun j => at2 m i j * pw.getD j 0) 200000 fun j _ => by
    have h2 := at2_bd h i j
    have h3 := mul_bd (x := at2 m i j) (y := pw.getD j 0) (a := 200) (b := 1000) (by omega) (by have := hg j; omega) (by decide) (by decide)
    omega
  unfold hs
  omega

/-- what a round of a loop over the sums must keep -/
def KpS (n₀ Bp : Nat) (W W' : World) : Prop := Below n₀ W W' ∧ W'.cell? ⟨Bp, 0, none⟩ = W.cell? ⟨Bp, 0, none⟩

theorem fin_take {N k : Nat} (h : k < N) : (List.finRange N).take (k + 1) = (List.finRange N).take k ++ [⟨k, h⟩] := by
  rw [List.take_add_one]
  congr 1
  simp [h]

set_option maxRecDepth 100000 in
set_option maxHeartbeats 2000000 in
/-- the closure of sums -/
theorem sums1_in {m : List (List Int)} {pw : List Int} {N : Nat} (hN : m.length = N) (hq1 : vB m = true) (hq2 : lstB pw N 0 1000 = true) (w0 : World) (l Bb Bp : Nat) (v pv : Value) (hv : RdM w0 v m) (hpv : Rd w0 pv (ints pw))
    (J Jx : List (Fin N) → World → Prop)
    (hY : ∀ pre x W, J pre W → pre.length < N → YieldAt Fence.wide 2 Try.prog l #[.int .i64 (x.1 : Int), .int .i64 (hs m pw x.1 N)] W fun e W' =>
      (e = .returned (.bool true) ∧ J (pre ++ [x]) W' ∧ KpS w0.heap.size Bp W W') ∨ (e = .returned (.bool false) ∧ Jx (pre ++ [x]) W'))
    (W : World) (hb0 : Below w0.heap.size w0 W) (hB1 : W.cell? ⟨Bb, 0, none⟩ = some v) (hB2 : W.cell? ⟨Bp, 0, none⟩ = some pv) (h0 : J [] W) :
    CallsIn Fence.wide 3 Try.prog 86 #[.func (.yield l) #[] #[], .pointer (some ⟨Bb, 0, none⟩), .pointer (some ⟨Bp, 0, none⟩)] W fun e W' => (∃ v, e = .returned v) ∧
      ((∃ xs, xs = List.finRange N ∧ J xs W') ∨ (∃ pre, True ∧ Jx pre W')) := by
  obtain ⟨h1, h2, h3⟩ := vB_bd hq1
  obtain ⟨g1, g2⟩ := lstB_bd hq2
  obtain ⟨vs, ⟨a, cap, rfl, hc, hcm, ha, _⟩, hr⟩ := hv
  obtain ⟨aw, capw, rfl, hcw, hcmw, haw, _⟩ := hpv
  rw [hr.1] at hB1
  rw [ints_length, g1] at hB2
  rw [hN] at hB1
  have HR := Lib.hid hr
  have hE : vs.length = N := by rw [hr.1, hN]
  have HSB := Lib.hid (fun i k hk => hs_bd hq1 g2 i k hk)
  have HSC : Hid (∀ i k, hs m pw i (k + 1) = hs m pw i k + at2 m i k * pw.getD k 0) := Lib.hid fun i k => rfl
  have HS0 : Hid (∀ i, hs m pw i 0 = 0) := Lib.hid fun i => rfl
  have HGM : Hid (∀ i, i < N → ∃ r, m[i]? = some r ∧ r.length = N ∧ ∀ j, at2 m i j = r.getD j 0) := Lib.hid fun i hi => by
    have hi' : i < m.length := by omega
    refine ⟨_, List.getElem?_eq_getElem hi', by rw [(h3 _ (List.getElem_mem hi')).1, hN], fun j => ?_⟩
    unfold at2
    rw [show m.getD i [] = m[i] by rw [List.getD_eq_getElem?_getD, List.getElem?_eq_getElem hi']; rfl]
  have HGW : Hid (∀ j, j < N → ∃ x, pw[j]? = some x ∧ pw.getD j 0 = x ∧ 0 ≤ x ∧ x ≤ 1000) := Lib.hid fun j hj =>
    have hj2 : j < pw.length := by omega
    ⟨_, List.getElem?_eq_getElem hj2, by rw [List.getD_eq_getElem?_getD, List.getElem?_eq_getElem hj2]; rfl, g2 _ (List.getElem_mem hj2)⟩
  have hwl := Lib.hid g1
  have HABD := Lib.hid (fun i k => at2_bd hq1 i k)
  have hN5 : N ≤ 5 := by omega
  clear hq1 hq2 h3 g2 hr g1 h1 h2 hN
  refine callsIn_of_wp Try.func86 rfl trivial ?_ rfl
  simp only [Try.ntmps86, List.size_toArray, List.length_cons, List.length_nil, Nat.reduceAdd, Nat.reduceSub, Array.replicate_succ, Array.replicate_zero, List.push_toArray, List.append_toArray, List.nil_append, List.cons_append]
  gi_wp2
  gi_loopw [13] (fun i wr => ∃ k : Nat, k ≤ N ∧ i = .int .i64 k ∧ J ((List.finRange N).take k) wr ∧ Below w0.heap.size w0 wr ∧ wr.cell? ⟨Bp, 0, none⟩ = some (.slice aw N capw)) (fun i _ => N - (intOf i).toNat)
  case atStart => exact ⟨0, Nat.zero_le _, rfl, h0, hb0, hB2⟩
  case round =>
    obtain ⟨k, hk, rfl, hJs, hbel, hcp⟩ := hrel
    by_cases hlt : k < N
    · obtain ⟨fn, tmps, assign, body, hy, hR⟩ := hY _ ⟨k, hlt⟩ wr hJs (by rw [List.length_take, List.length_finRange]; omega)
      dsimp only at hy
      obtain ⟨r, hrr, hrl, hat⟩ := HGM.out k hlt
      obtain ⟨b, off, rfl, hcell⟩ := (ha.below hbel (Nat.le_refl _)).cell (j := k) (by rw [hE]; exact hlt)
      obtain ⟨rv, hrv⟩ : ∃ rv, vs[k]? = some rv := ⟨_, List.getElem?_eq_getElem (by rw [hE]; exact hlt)⟩
      have c5 := hcell k _ hrv
      have hR1 := HR.out.2 k rv r hrv hrr
      obtain ⟨a1, cap1, rfl, hc1, hcm1, ha1, _⟩ := hR1
      rw [ints_length, hrl] at hc1 c5
      have HAT := Lib.hid hat
      have HRL := Lib.hid hrl
      have HRR := Lib.hid hR
      have ha1' := ha1.below hbel (Nat.le_refl _)
      clear hcell hrr hrv hat hrl ha1 hR
      gi_wp2
      gi_loop [6, 20] (fun c i => ∃ j : Nat, j ≤ N ∧ i = .int .i64 j ∧ c = .int .i64 (hs m pw k j)) (fun _ i => N - (intOf i).toNat)
      case atStart => exact ⟨0, Nat.zero_le _, rfl, by rw [HS0.out]⟩
      case round =>
        obtain ⟨j, hj, rfl, rfl⟩ := hrel
        by_cases hjt : j < N
        · obtain ⟨x, hx, hgx, hx1, hx2⟩ := HGW.out j hjt
          obtain ⟨b1, off1, rfl, hcell1⟩ := ha1'.cell (j := j) (by rw [ints_length, HRL.out]; exact hjt)
          obtain ⟨b2, off2, rfl, hcell2⟩ := (haw.below hbel (Nat.le_refl _)).cell (j := j) (by rw [ints_length, hwl.out]; exact hjt)
          obtain ⟨y, hy2⟩ : ∃ y, r[j]? = some y := ⟨_, List.getElem?_eq_getElem (by rw [HRL.out]; exact hjt)⟩
          have c6 := hcell1 j _ (ints_get hy2)
          have c7 := hcell2 j _ (ints_get hx)
          have hyb := HABD.out k j
          rw [HAT.out, show r.getD j 0 = y by rw [List.getD_eq_getElem?_getD, hy2]; rfl] at hyb
          have HK1 := HSC.out k j
          rw [HAT.out, show r.getD j 0 = y by rw [List.getD_eq_getElem?_getD, hy2]; rfl, hgx] at HK1
          have hb1 := HSB.out k j (by omega)
          have hb2 := HSB.out k (j + 1) (by omega)
          have hxy := mul_bd (x := y) (y := x) (a := 200) (b := 1000) (by omega) (by omega) (by decide) (by decide)
          rw [HK1] at hb2
          have HK2 := Lib.hid HK1
          generalize hz : hs m pw k j = z at *
          clear hcell1 hcell2 hx hgx hy2 hz HK1
          have hw1 : IntKind.i64.wrap (y * x) = y * x := IntWalk.i64_in _ ⟨by omega, by omega⟩
          have hw2 : IntKind.i64.wrap (z + y * x) = z + y * x := IntWalk.i64_in _ ⟨by omega, by omega⟩
          gi_wp2
          go_round
          case rel => exact ⟨j + 1, by omega, by go_num, by rw [HK2.out]⟩
          case measure => simp [intOf]; omega
        · obtain rfl : j = N := by omega
          gi_wp2
          refine HRR.out.mono ?_
          rintro e W3 (⟨rfl, hJ3, hk3⟩ | ⟨rfl, hJx3⟩)
          · gi_wp2
            go_roundw
            case rel => exact ⟨k + 1, by omega, by go_num, by rw [fin_take hlt]; exact hJ3, hbel.trans hk3.1, hk3.2.trans hcp⟩
            case measure => simp [intOf]; omega
          · gi_wp2
            refine bodyPost_ret (results_none rfl _ _ _) rfl ?_
            exact ⟨⟨_, rfl⟩, .inr ⟨_, trivial, hJx3⟩⟩
    · obtain rfl : k = N := by omega
      gi_wp2
      go_end0
      exact ⟨⟨_, rfl⟩, .inl ⟨_, rfl, by rwa [List.take_of_length_le (by simp)] at hJs⟩⟩

/-- sums: the bank and the powers are boxed; the function value captures the boxes. -/
theorem sums_any (a aw : Option Addr) (n cap nw capw : Nat) (w : World) :
    Calls Try.prog 71 #[.agg #[.slice a n cap], .slice aw nw capw] w fun e w' => e = .returned (.func (.func 86) #[] #[.pointer (some ⟨w.heap.size, 0, none⟩), .pointer (some ⟨w.heap.size + 1, 0, none⟩)]) ∧ w' = (w.alloc (.cells #[.slice a n cap] 71)).alloc (.cells #[.slice aw nw capw] 28) := by
  go_enter Try.func71, Try.ntmps71
  go_wp2
  go_ret
  exact ⟨rfl, rfl⟩

theorem sums_stops {m : List (List Int)} {pw : List Int} {N : Nat} (hN : m.length = N) (hq1 : vB m = true) (hq2 : lstB pw N 0 1000 = true) (w0 w : World) (Bb Bp : Nat) (v pv : Value) (hv : RdM w0 v m) (hpv : Rd w0 pv (ints pw))
    (hb0 : Below w0.heap.size w0 w) (hB1 : w.cell? ⟨Bb, 0, none⟩ = some v) (hB2 : w.cell? ⟨Bp, 0, none⟩ = some pv) :
    SeqStopsK Fence.wide 3 Try.prog 86 #[.pointer (some ⟨Bb, 0, none⟩), .pointer (some ⟨Bp, 0, none⟩)] (fun x : Fin N => #[Value.int .i64 (x.1 : Int), Value.int .i64 (hs m pw x.1 N)]) (KpS w0.heap.size Bp)
      (fun xs => xs = List.finRange N) (fun _ => True) N w := fun l J Jx W hW _ _ hY h0 => by
  exact (sums1_in hN hq1 hq2 w0 l Bb Bp v pv hv hpv J Jx hY W (hb0.trans (hW.mono hb0.size)) (cell_below hB1 hW) (cell_below hB2 hW) h0)

end Go.Proofs.Ytnaoanmkepcinaa

/- Layout: longer and Detour, walked. -/
import Derived.Test.YtpakkjkjppibnaaGRoom
namespace Go.Proofs.Ytpakkjkjppibnaa
open Go.RowKit

/-- what is small -/
def SmallL (p : List Ce) : Prop := ∀ c ∈ p, -1000 ≤ c.1 ∧ c.1 ≤ 1000 ∧ -1000 ≤ c.2 ∧ c.2 ≤ 1000
theorem SmallL.wf {p : List Ce} (h : SmallL p) : WfL p := fun c hc => by
  have := h c hc
  have key : ∀ x : Int, -1000 ≤ x → x ≤ 1000 → (Lit.int .i64 x).wf = true := fun x h1 h2 => by
    simp [Lit.wf]
    have e1 : IntKind.i64.min = -9223372036854775808 := by decide
    have e2 : IntKind.i64.max = 9223372036854775807 := by decide
    omega
  exact ⟨key _ this.1 this.2.1, key _ this.2.2.1 this.2.2.2⟩
theorem Path.small {W : World} {Bg : Nat} {g : Gr} {bl : Value} {sa : Option Addr} {sc : Nat} (hg : GridAt W Bg g bl sa sc) {p : List Ce} (h : Path (openP g) p) : SmallL p := fun c hc => by
  have := Gr.small hg (openP_on (List.all_eq_true.1 h.all c hc))
  omega
theorem first_hit {α : Type} {f : Nat → Option α} {N T : Nat} {x : α} (hT : T < N) (h : ∀ t, t < T → f t = none) (e : f T = some x) : (List.range N).findSome? f = some x := by
  have hr : List.range N = List.range T ++ T :: List.range' (T + 1) (N - T - 1) := by
    rw [List.range_eq_range', List.range_eq_range', show N = T + ((N - T - 1) + 1) by omega, ← List.range'_append_1, List.range'_succ]
    simp
  rw [hr, List.findSome?_append, List.findSome?_cons, e]
  have : (List.range T).findSome? f = none := by rw [List.findSome?_eq_none_iff]; exact fun t ht => h t (List.mem_range.1 ht)
  rw [this]; rfl
theorem first_miss {α : Type} {f : Nat → Option α} {N : Nat} (h : ∀ t, t < N → f t = none) : (List.range N).findSome? f = none := by
  rw [List.findSome?_eq_none_iff]; exact fun t ht => h t (List.mem_range.1 ht)
theorem tryP_at (op : Ce → Bool) (p : List Ce) (k j s : Nat) (hj : (j = 0 ∧ s = 1) ∨ (j = 1 ∧ s = 3)) :
    tryP op p (2 * k + j) = if roomP op p k (towD (p.getD k (0, 0)) (p.getD (k + 1) (0, 0)) + s) then some (ins2 p k (besideP (p.getD k (0, 0)) (towD (p.getD k (0, 0)) (p.getD (k + 1) (0, 0)) + s)) (besideP (p.getD (k + 1) (0, 0)) (towD (p.getD k (0, 0)) (p.getD (k + 1) (0, 0)) + s))) else none := by
  have h1 : (2 * k + j) / 2 = k := by omega
  have h2 : sideT p (2 * k + j) = towD (p.getD k (0, 0)) (p.getD (k + 1) (0, 0)) + s := by
    unfold sideT
    rw [h1]
    rcases hj with ⟨rfl, rfl⟩ | ⟨rfl, rfl⟩
    · rw [if_pos (by omega)]
    · rw [if_neg (by omega)]
  unfold tryP
  rw [h1, h2]

theorem way13 (W : World) : (Instr.index 105 (.agg #[.int .i64 1, .int .i64 3]) (.int .i64 0)).run Try.prog W = .ok (.int .i64 1) W ∧ (Instr.index 105 (.agg #[.int .i64 1, .int .i64 3]) (.int .i64 1)).run Try.prog W = .ok (.int .i64 3) W := by
  have hi0 : ∃ i, Try.prog.info? 3 = some i ∧ i.zero = some (.int .i64 0) ∧ i.size = 1 ∧ i.bytes = 8 := info_parts (by kernel_rfl)
  obtain ⟨i, hi, _, hs, _⟩ := hi0
  have hu := Try.underlying3
  have hc : Try.prog.cellsOf 3 = 1 := by kernel_rfl
  constructor
  · simp [Instr.index, run_underlying Try.underlying105, asIntOf, go_sem, run_sizeOf W hi, part, isAgg, run_underlying hu]
  · simp [Instr.index, run_underlying Try.underlying105, asIntOf, go_sem, run_sizeOf W hi, part, isAgg, run_underlying hu, hc]
set_option maxRecDepth 100000 in
set_option maxHeartbeats 2000000 in
theorem longer_any (Bg : Nat) (g : Gr) (bl : Value) (sa : Option Addr) (sc : Nat) (p : List Ce) (v : Value) (w : World) (hg : GridAt w Bg g bl sa sc) (hv : RdP w v p) (hn : p.length ≤ 10000) (hp : Path (openP g) p) :
    Calls Try.prog 67 #[.pointer (some ⟨Bg, 0, none⟩), v] w fun e w' => (∃ u, e = .returned (.tuple #[u, .bool (longerP (openP g) p).isSome]) ∧ (∀ q, longerP (openP g) p = some q → RdP w' u q) ∧ (longerP (openP g) p = none → u = .slice none 0 0)) ∧ Below w.heap.size w w' := by
  have hsm := Path.small hg hp
  have hadj := (adjL_iff p).1 hp.adj
  have hpos := hp.pos
  have HHIT := Lib.hid (fun T q (hT : T < 2 * (p.length - 1)) h e => show longerP (openP g) p = some q from first_hit (f := tryP (openP g) p) hT h e)
  have HMISS := Lib.hid (fun (h : ∀ t, t < 2 * (p.length - 1) → tryP (openP g) p t = none) => show longerP (openP g) p = none from first_miss h)
  have HTRY := Lib.hid (fun k j s hj => tryP_at (openP g) p k j s hj)
  have HRM := Lib.hid (fun (i s : Nat) W hW (hi : i + 1 < p.length) (hs : s = 1 ∨ s = 3) => room_any Bg g bl sa sc p v i s W (hg.below hW) (hv.below hW) hsm.wf (by omega) hi hs (hadj i hi) (fun c hc => hsm c hc))
  have HCL := Lib.hid (fun W (hr : RdP W v p) => clone_xy v p W hr (by omega) (by omega))
  have HV := Lib.hid hv
  obtain ⟨a, cap, rfl, hc, hcm, ha, _⟩ := hv
  obtain ⟨n, hnn⟩ : ∃ n, p.length = n := ⟨_, rfl⟩
  have HN := Lib.hid hnn
  rw [hnn] at HHIT HMISS HRM HCL hn hpos hc HV ⊢
  have hn1 : IntKind.i64.wrap ((n : Int) - 1) = ((n - 1 : Nat) : Int) := by rw [show (n : Int) - 1 = ((n - 1 : Nat) : Int) by omega]; exact IntWalk.i64_in _ ⟨by omega, by omega⟩
  obtain ⟨N, hN1⟩ : ∃ N, n - 1 = N := ⟨_, rfl⟩
  have hNn : N + 1 = n := by omega
  rw [hN1] at hn1 HHIT HMISS
  have hwy1 := fun W => (way13 W).1
  have hwy2 := fun W => (way13 W).2
  clear hsm hadj hnn hg hp ha hN1
  go_enter Try.func67, Try.ntmps67
  go_wp2_with fail
  go_loopw [14] (fun i wr => ∃ k : Nat, k ≤ N ∧ i = .int .i64 k ∧ Below w.heap.size w wr ∧ Hid (∀ t, t < 2 * k → tryP (openP g) p t = none)) (fun i _ => N - (intOf i).toNat)
  case atStart => exact ⟨0, by omega, rfl, Below.refl _ _, Lib.hid fun t ht => absurd ht (Nat.not_lt_zero _)⟩
  case round =>
    obtain ⟨k, hk, rfl, hbel, HT⟩ := hrel
    by_cases hkN : k < N
    · have hkN' : decide ((k : Int) < (N : Int)) = true := by simp; omega
      have hw1 : IntKind.i64.wrap ((k : Int) + 1) = ((k + 1 : Nat) : Int) := by rw [show (k : Int) + 1 = ((k + 1 : Nat) : Int) by omega]; exact IntWalk.i64_in _ ⟨by omega, by omega⟩
      go_wp2_with fail
      obtain ⟨wo, rfl⟩ : ∃ wo, wo = wr := ⟨_, rfl⟩
      have HBO := Lib.hid hbel
      clear hbel
      go_loopw [18] (fun i wr => ∃ j : Nat, j ≤ 2 ∧ i = .int .i64 j ∧ Below w.heap.size w wr ∧ Hid (∀ t, t < 2 * k + j → tryP (openP g) p t = none)) (fun i _ => 2 - (intOf i).toNat)
      case atStart => exact ⟨0, by omega, rfl, HBO.out, Lib.hid fun t ht => HT.out t (by omega)⟩
      case round =>
        obtain ⟨j, hj, rfl, hbel, HTJ⟩ := hrel
        by_cases hj2 : j < 2
        · obtain ⟨s, hjs⟩ : ∃ s, (j = 0 ∧ s = 1) ∨ (j = 1 ∧ s = 3) := by
            rcases (by omega : j = 0 ∨ j = 1) with rfl | rfl
            · exact ⟨1, .inl ⟨rfl, rfl⟩⟩
            · exact ⟨3, .inr ⟨rfl, rfl⟩⟩
          have HTA := Lib.hid (HTRY.out k j s hjs)
          have HR := Lib.hid (HRM.out k s wr hbel (by omega) (by rcases hjs with ⟨_, rfl⟩ | ⟨_, rfl⟩ <;> simp))
          obtain ⟨x, hx⟩ : ∃ x, besideP (p.getD k (0, 0)) (towD (p.getD k (0, 0)) (p.getD (k + 1) (0, 0)) + s) = x := ⟨_, rfl⟩
          obtain ⟨y, hy⟩ : ∃ y, besideP (p.getD (k + 1) (0, 0)) (towD (p.getD k (0, 0)) (p.getD (k + 1) (0, 0)) + s) = y := ⟨_, rfl⟩
          obtain ⟨t, ht⟩ : ∃ t, roomP (openP g) p k (towD (p.getD k (0, 0)) (p.getD (k + 1) (0, 0)) + s) = t := ⟨_, rfl⟩
          rw [ht, hx, hy] at HTA HR
          have HBL := Lib.hid hbel
          clear hx hy ht hbel
          have HVR := Lib.hid (HV.out.below HBL.out)
          cases t with
          | true =>
            rw [if_pos rfl] at HTA
            have HLP := Lib.hid (HHIT.out (2 * k + j) _ (by omega) HTJ.out HTA.out)
            have HIN := Lib.hid (fun B (u : Value) vb W ho hh hne => ins_any p B (k + 1) x y u vb 2 26 W ho (by rw [HN.out]; omega) (by rw [HN.out]; omega) hh hne)
            rw [HN.out] at HIN
            rcases hjs with ⟨rfl, rfl⟩ | ⟨rfl, rfl⟩
            all_goals
              go_wp2_with (first
                | (go_at_call 89; refine HR.out.mono ?_; rintro e w2 ⟨vb, rfl, hvb, hh, hb2⟩; have HB2 := Lib.hid hb2; have HH := Lib.hid hh; have HVB := Lib.hid hvb; clear hb2 hh hvb)
                | (go_at_call 66; refine (HCL.out _ (HVR.out.below HB2.out)).mono ?_; rintro e w3 ⟨u3, rfl, ho3, hb3⟩; have HO3 := Lib.hid ho3; have HB3 := Lib.hid hb3; clear ho3 hb3)
                | (go_at_call 90; refine (HIN.out w2.heap.size _ vb w3 HO3.out ((HB3.out.block _ (Array.getElem?_eq_some_iff.1 HH.out).1).trans HH.out) (fun e => by have h1 := (HO3.out.lt _ e).1; have h2 := (Array.getElem?_eq_some_iff.1 HH.out).1; omega)).mono ?_; rintro e w4 ⟨u4, rfl, hr4, ⟨a4, n4, c4, rfl⟩, hg4⟩; have HR4 := Lib.hid hr4; have HG4 := Lib.hid hg4; clear hr4 hg4))
              go_ret2
              have b3 := HBL.out.trans ((HB2.out.trans (HB3.out.mono HB2.out.size)).mono HBL.out.size)
              refine ⟨⟨_, by rw [HLP.out]; rfl, fun q e => ?_, fun e => by rw [HLP.out] at e; cases e⟩, b3.grown HG4.out b3.size (fun j e => by have := (HO3.out.lt _ e).1; have h1 := HB2.out.size; have h2 := HBL.out.size; omega)⟩
              rw [HLP.out] at e
              cases e
              exact HR4.out
          | false =>
            rw [if_neg (by decide)] at HTA
            have HT' : Hid (∀ t, t < 2 * k + (j + 1) → tryP (openP g) p t = none) := Lib.hid fun t ht => by
              rcases (by omega : t < 2 * k + j ∨ t = 2 * k + j) with h1 | rfl
              · exact HTJ.out t h1
              · exact HTA.out
            rcases hjs with ⟨rfl, rfl⟩ | ⟨rfl, rfl⟩
            all_goals
              go_wp2_with (go_at_call 89; refine HR.out.mono ?_; rintro e w2 ⟨vb, rfl, _, _, hb2⟩)
              go_roundw
              case rel => first | exact ⟨1, by omega, rfl, HBL.out.trans (hb2.mono HBL.out.size), HT'⟩ | exact ⟨2, by omega, rfl, HBL.out.trans (hb2.mono HBL.out.size), HT'⟩
              case measure => simp [intOf]
        · obtain rfl : j = 2 := by omega
          go_wp2_with fail
          go_roundw
          case rel => exact ⟨k + 1, by omega, by go_num, hbel, Lib.hid fun t ht => HTJ.out t (by omega)⟩
          case measure => simp [intOf]; omega
    · obtain rfl : k = N := by omega
      have hkN' : decide ((k : Int) < (k : Int)) = false := by simp
      have HLP := Lib.hid (HMISS.out HT.out)
      go_wp2_with fail
      go_ret2
      exact ⟨⟨_, by rw [HLP.out]; rfl, fun q e => by (rw [HLP.out] at e; cases e), fun _ => rfl⟩, hbel⟩
end Go.Proofs.Ytpakkjkjppibnaa

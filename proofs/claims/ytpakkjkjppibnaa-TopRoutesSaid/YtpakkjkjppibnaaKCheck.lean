/- Layout: the direction from a cell to a neighbour, both texts.
   Layout: the directions of a path.
   Layout: the error of a path.
   Layout: Check and Cost. -/
import Derived.Test.YtpakkjkjppibnaaGMap
import Derived.Test.YtpakkjkjppibnaaGCostP
import Derived.Test.YtpakkjkjppibnaaGRoutes
namespace Go.Proofs.Ytpakkjkjppibnaa
open Go.RowKit

theorem wrapDec {a x : Int} (ha : (Lit.int .i64 a).wf = true) (hx : (Lit.int .i64 x).wf = true) (h : a < x) : wrap64 (x - 1) = x - 1 := by
  simp [Lit.wf, IntKind.min, IntKind.max, IntKind.signed, IntKind.bits] at ha hx
  unfold wrap64; omega
theorem wrapInc {a x : Int} (ha : (Lit.int .i64 a).wf = true) (hx : (Lit.int .i64 x).wf = true) (h : x < a) : wrap64 (x + 1) = x + 1 := by
  simp [Lit.wf, IntKind.min, IntKind.max, IntKind.signed, IntKind.bits] at ha hx
  unfold wrap64; omega
/-- what toward answers -/
def towA (a b : Ce) : Int × Bool := if adjB a b then ((towD a b : Int), true) else (0, false)
theorem tow_e (x1 y x2 : Int) : (x1 < x2 → adjB (x1, y) (x2, y) = (x1 == x2 - 1)) ∧ (x2 < x1 → adjB (x1, y) (x2, y) = (x1 - 1 == x2)) ∧ (x1 < x2 → towD (x1, y) (x2, y) = 0) ∧ (x2 < x1 → towD (x1, y) (x2, y) = 2) ∧ (x1 = x2 → adjB (x1, y) (x2, y) = false) := by
  unfold adjB towD besideP
  refine ⟨fun h => ?_, fun h => ?_, fun h => by simp [h], fun h => ?_, fun h => ?_⟩
  · simp [h]
    rw [Bool.eq_iff_iff]; simp; omega
  · have : ¬ x1 < x2 := by omega
    simp [this]
    rw [Bool.eq_iff_iff]; simp; omega
  · have : ¬ x1 < x2 := by omega
    simp [this]
  · subst h
    simp
    omega
theorem tow_v (x y1 y2 : Int) (hne : y1 ≠ y2) : (y1 < y2 → adjB (x, y1) (x, y2) = (y1 == y2 - 1)) ∧ (y2 < y1 → adjB (x, y1) (x, y2) = (y1 - 1 == y2)) ∧ (y1 < y2 → towD (x, y1) (x, y2) = 1) ∧ (y2 < y1 → towD (x, y1) (x, y2) = 3) := by
  unfold adjB towD besideP
  refine ⟨fun h => ?_, fun h => ?_, fun h => by simp [h, hne], fun h => ?_⟩
  · simp [h, hne]
    rw [Bool.eq_iff_iff]; simp; omega
  · have : ¬ y1 < y2 := by omega
    simp [this, hne]
    rw [Bool.eq_iff_iff]; simp; omega
  · have : ¬ y1 < y2 := by omega
    simp [this, hne]
theorem tow_far (x1 y1 x2 y2 : Int) (h1 : x1 ≠ x2) (h2 : y1 ≠ y2) : adjB (x1, y1) (x2, y2) = false := by
  unfold adjB towD besideP
  simp only [h2, if_false]
  split <;> simp <;> omega

set_option maxRecDepth 100000 in
set_option maxHeartbeats 1000000 in
theorem toward_any (x1 y1 x2 y2 : Int) (w : World) (k1 : (Lit.int .i64 x1).wf = true) (k2 : (Lit.int .i64 y1).wf = true) (k3 : (Lit.int .i64 x2).wf = true) (k4 : (Lit.int .i64 y2).wf = true) :
    Calls Try.prog 87 #[.agg #[.int .i64 x1, .int .i64 y1], .agg #[.int .i64 x2, .int .i64 y2]] w fun e w' => e = .returned (.tuple #[.int .i64 (towA (x1, y1) (x2, y2)).1, .bool (towA (x1, y1) (x2, y2)).2]) ∧ Below w.heap.size w w' := by
  have hb := Lib.hid (((Below.refl w.heap.size w).alloc (Nat.le_refl _) (.cells #[.int .i64 x1, .int .i64 y1] 26)).alloc (by simp) (.cells #[.int .i64 x2, .int .i64 y2] 26))
  obtain ⟨t, ht⟩ : ∃ t, towA (x1, y1) (x2, y2) = t := ⟨_, rfl⟩
  have HT := Lib.hid ht
  rw [ht]
  clear ht
  by_cases hy : y1 = y2
  · subst hy
    have he := tow_e x1 y1 x2
    by_cases hx : x1 = x2
    · subst hx
      have HA : Hid (t = (0, false)) := Lib.hid (by rw [← HT.out]; unfold towA; rw [he.2.2.2.2 rfl]; rfl)
      clear he k1 k2 k3 k4 HT
      go_enter Try.func87, Try.ntmps87
      go_wp2_with fail
      go_ret2
      exact ⟨by rw [HA.out]; rfl, hb.out⟩
    · have hxb : (x1 == x2) = false := by simpa using hx
      rcases (by omega : x1 < x2 ∨ x2 < x1) with h | h
      · have hw := wrapDec k1 k3 h
        cases hq : (x1 == x2 - 1) with
        | true =>
          have HA : Hid (t = (0, true)) := Lib.hid (by rw [← HT.out]; unfold towA; rw [he.1 h, hq, he.2.2.1 h]; rfl)
          clear he k1 k2 k3 k4 HT hx
          go_enter Try.func87, Try.ntmps87
          go_wp2_with fail
          go_ret2
          exact ⟨by rw [HA.out]; rfl, hb.out⟩
        | false =>
          have HA : Hid (t = (0, false)) := Lib.hid (by rw [← HT.out]; unfold towA; rw [he.1 h, hq]; rfl)
          have h' : ¬ x2 < x1 := by omega
          clear he k1 k2 k3 k4 HT hx
          go_enter Try.func87, Try.ntmps87
          go_wp2_with fail
          go_ret2
          exact ⟨by rw [HA.out]; rfl, hb.out⟩
      · have hw := wrapDec k3 k1 h
        have h' : ¬ x1 < x2 := by omega
        cases hq : (x1 - 1 == x2) with
        | true =>
          have HA : Hid (t = (2, true)) := Lib.hid (by rw [← HT.out]; unfold towA; rw [he.2.1 h, hq, he.2.2.2.1 h]; rfl)
          clear he k1 k2 k3 k4 HT hx
          go_enter Try.func87, Try.ntmps87
          go_wp2_with fail
          go_ret2
          exact ⟨by rw [HA.out]; rfl, hb.out⟩
        | false =>
          have HA : Hid (t = (0, false)) := Lib.hid (by rw [← HT.out]; unfold towA; rw [he.2.1 h, hq]; rfl)
          clear he k1 k2 k3 k4 HT hx
          go_enter Try.func87, Try.ntmps87
          go_wp2_with fail
          go_ret2
          exact ⟨by rw [HA.out]; rfl, hb.out⟩
  · have hyb : (y1 == y2) = false := by simpa using hy
    by_cases hx : x1 = x2
    · subst hx
      have he := tow_v x1 y1 y2 hy
      rcases (by omega : y1 < y2 ∨ y2 < y1) with h | h
      · have hw := wrapDec k2 k4 h
        cases hq : (y1 == y2 - 1) with
        | true =>
          have HA : Hid (t = (1, true)) := Lib.hid (by rw [← HT.out]; unfold towA; rw [he.1 h, hq, he.2.2.1 h]; rfl)
          clear he k1 k2 k3 k4 HT hy
          go_enter Try.func87, Try.ntmps87
          go_wp2_with fail
          go_ret2
          exact ⟨by rw [HA.out]; rfl, hb.out⟩
        | false =>
          have HA : Hid (t = (0, false)) := Lib.hid (by rw [← HT.out]; unfold towA; rw [he.1 h, hq]; rfl)
          have h' : ¬ y2 < y1 := by omega
          clear he k1 k2 k3 k4 HT hy
          go_enter Try.func87, Try.ntmps87
          go_wp2_with fail
          go_ret2
          exact ⟨by rw [HA.out]; rfl, hb.out⟩
      · have hw := wrapDec k4 k2 h
        have h' : ¬ y1 < y2 := by omega
        cases hq : (y1 - 1 == y2) with
        | true =>
          have HA : Hid (t = (3, true)) := Lib.hid (by rw [← HT.out]; unfold towA; rw [he.2.1 h, hq, he.2.2.2 h]; rfl)
          clear he k1 k2 k3 k4 HT hy
          go_enter Try.func87, Try.ntmps87
          go_wp2_with fail
          go_ret2
          exact ⟨by rw [HA.out]; rfl, hb.out⟩
        | false =>
          have HA : Hid (t = (0, false)) := Lib.hid (by rw [← HT.out]; unfold towA; rw [he.2.1 h, hq]; rfl)
          clear he k1 k2 k3 k4 HT hy
          go_enter Try.func87, Try.ntmps87
          go_wp2_with fail
          go_ret2
          exact ⟨by rw [HA.out]; rfl, hb.out⟩
    · have hxb : (x1 == x2) = false := by simpa using hx
      have HA : Hid (t = (0, false)) := Lib.hid (by rw [← HT.out]; unfold towA; rw [tow_far x1 y1 x2 y2 hx hy]; rfl)
      clear k1 k2 k3 k4 HT hx hy
      go_enter Try.func87, Try.ntmps87
      go_wp2_with fail
      go_ret2
      exact ⟨by rw [HA.out]; rfl, hb.out⟩
end Go.Proofs.Ytpakkjkjppibnaa

namespace Go.Proofs.Ytpakkjkjppibnaa
open Go.RowKit

def WfL (l : List Ce) : Prop := ∀ x ∈ l, (Lit.int .i64 x.1).wf = true ∧ (Lit.int .i64 x.2).wf = true
def dirI (p : List Ce) (k : Nat) : List Int := (List.range k).map fun i => (towD (p.getD i (0, 0)) (p.getD (i + 1) (0, 0)) : Int)
theorem dirI_succ (p : List Ce) (k : Nat) : dirI p (k + 1) = dirI p k ++ [(towD (p.getD k (0, 0)) (p.getD (k + 1) (0, 0)) : Int)] := by
  unfold dirI; rw [List.range_succ, List.map_append]; rfl
theorem dirI_len (p : List Ce) (k : Nat) : (dirI p k).length = k := by simp [dirI]
theorem dirI_all (p : List Ce) : dirI p (p.length - 1) = (dirsL p).map Int.ofNat := by
  apply List.ext_getElem
  · simp [dirI, dirsL_len]
  · intro i h1 h2
    simp only [dirI, List.length_map, List.length_range] at h1
    have := dirsL_get p i (by omega)
    rw [List.getD_eq_getElem?_getD, List.getElem?_eq_getElem (by rw [dirsL_len]; omega)] at this
    simp only [dirI, List.getElem_map, List.getElem_range, ← this]
    rfl
def dirsR (p : List Ce) : List Int × Bool := if adjL p then ((dirsL p).map Int.ofNat, true) else ([], false)
set_option maxRecDepth 100000 in
set_option maxHeartbeats 1000000 in
theorem directions_any (p : List Ce) (v : Value) (w : World) (hv : RdP w v p) (hw : WfL p) (hn : p.length ≤ 100000) :
    Calls Try.prog 64 #[v] w fun e w' => (∃ u, e = .returned (.tuple #[u, .bool (dirsR p).2]) ∧ w'.ownsRow w.heap.size 3 1 u (dirsR p).1.length (ints (dirsR p).1)) ∧ Below w.heap.size w w' := by
  obtain ⟨a, cap, rfl, hc, hcm, ha, _⟩ := hv
  have HA := Lib.hid ha
  have HWF := Lib.hid hw
  have HT := Lib.hid (fun x1 y1 x2 y2 V k1 k2 k3 k4 => toward_any x1 y1 x2 y2 V k1 k2 k3 k4)
  obtain ⟨n, hnn⟩ : ∃ n, p.length = n := ⟨_, rfl⟩
  have HN := Lib.hid hnn
  have HS := Lib.hid (dirI_succ p)
  rw [hnn] at hc hn ⊢
  clear ha hw hnn
  go_enter Try.func64, Try.ntmps64
  go_wp2_with fail
  go_loopw [4, 5] (fun q i wr => ∃ k : Nat, k ≤ n - 1 ∧ i = .int .i64 ((k : Int) + 1) ∧ Hid (wr.ownsRow w.heap.size 3 1 q k (ints (dirI p k))) ∧ Hid (Below w.heap.size w wr) ∧ Hid (∀ j, j < k → adjB (p.getD j (0, 0)) (p.getD (j + 1) (0, 0)) = true)) (fun _ i _ => n - (intOf i).toNat)
  case atStart => exact ⟨0, Nat.zero_le _, rfl, Lib.hid (World.ownsRow_nil _ _ _ _), Lib.hid (Below.refl _ _), Lib.hid fun j hj => absurd hj (Nat.not_lt_zero _)⟩
  case round =>
    obtain ⟨k, hk, rfl, HO, HB, HJ⟩ := hrel
    have hw1 : wrap64 ((k : Int) + 1) = (k : Int) + 1 := by unfold wrap64; omega
    by_cases hkn : k + 1 < n
    · have hkn' : (k : Int) + 1 < (n : Int) := by omega
      obtain ⟨⟨x1, y1⟩, hx1⟩ : ∃ z, p[k]? = some z := ⟨_, List.getElem?_eq_getElem (by rw [HN.out]; omega)⟩
      obtain ⟨⟨x2, y2⟩, hx2⟩ : ∃ z, p[k + 1]? = some z := ⟨_, List.getElem?_eq_getElem (by rw [HN.out]; omega)⟩
      have hAr := HA.out.below HB.out (Nat.le_refl _)
      obtain ⟨b, off, rfl, e1, e2⟩ := RdP.cell hAr hx1
      obtain ⟨b', off', ee, e3, e4⟩ := RdP.cell hAr hx2
      obtain ⟨rfl, rfl⟩ : b = b' ∧ off = off' := by simpa using ee
      have w1 := HWF.out _ (List.mem_of_getElem? hx1)
      have w2 := HWF.out _ (List.mem_of_getElem? hx2)
      have HTW := Lib.hid (fun V => HT.out x1 y1 x2 y2 V w1.1 w1.2 w2.1 w2.2)
      have HD1 : Hid (p.getD k (0, 0) = (x1, y1)) := Lib.hid (by rw [List.getD_eq_getElem?_getD, hx1]; rfl)
      have HD2 : Hid (p.getD (k + 1) (0, 0) = (x2, y2)) := Lib.hid (by rw [List.getD_eq_getElem?_getD, hx2]; rfl)
      dsimp only at e1 e2 e3 e4
      have e1 := fun x : Grow wr => grow_cell e1 x
      have e2 := fun x : Grow wr => grow_cell e2 x
      have e3 := fun x : Grow wr => grow_cell e3 x
      have e4 := fun x : Grow wr => grow_cell e4 x
      have hw2 : IntKind.i64.wrap ((k : Int) + 1 - 1) = k := IntWalk.i64_in _ (by omega) |>.trans (by omega)
      have hw3 : IntKind.i64.wrap (k : Int) = k := IntWalk.i64_in _ (by omega)
      have hw4 : ((k : Int) + 1).toNat = k + 1 := by omega
      have hSk := HS.out k
      rw [HD1.out, HD2.out] at hSk
      have HSK := Lib.hid hSk
      clear hSk ee hAr hx1 hx2 w1 w2
      have HTA : Hid (towA (x1, y1) (x2, y2) = if adjB (x1, y1) (x2, y2) then ((towD (x1, y1) (x2, y2) : Int), true) else (0, false)) := Lib.hid rfl
      obtain ⟨td, htd⟩ : ∃ td, towD (x1, y1) (x2, y2) = td := ⟨_, rfl⟩
      rw [htd] at HTA HSK
      clear htd
      cases hq : adjB (x1, y1) (x2, y2) with
      | true =>
        have hta : towA (x1, y1) (x2, y2) = ((td : Int), true) := by rw [HTA.out, hq]; rfl
        rw [hta] at HTW
        have HJ' : Hid (∀ j, j < k + 1 → adjB (p.getD j (0, 0)) (p.getD (j + 1) (0, 0)) = true) := Lib.hid fun j hj => by
          by_cases e : j = k
          · subst e; rw [HD1.out, HD2.out]; exact hq
          · exact HJ.out j (by omega)
        dsimp only at HTW
        clear hq hta
        go_wp2_with fail
        refine wp_region_grow (by kernel_rfl) (by kernel_rfl) ?_
        repeat (go_big_quiet_step (first
          | (go_at_call 87; refine grow_of (HTW.out _))))
        refine wpQuiet_nil ?_
        intro _ hw'
        obtain ⟨xq, hw''⟩ := hw'
        subst hw''
        have HBt := Lib.hid (HB.out.trans ((grow_below xq).mono HB.out.size))
        have HOt := Lib.hid (own_below HO.out (grow_below xq))
        clear e1 e2 e3 e4 hw2 hw3 hw4
        go_wp2_with (at_builtin; refine app1 el_num rfl rfl (w0 := w) rfl (by rfl) (by exact HBt.out) (by exact HOt.out) rfl (by omega) ?_; intro v9 w9 ho9 hb9 hg9)
        go_roundw
        case rel => exact ⟨k + 1, by omega, by go_num, Lib.hid (by rw [HSK.out, ints_append]; exact ho9), Lib.hid hb9, HJ'⟩
        case measure => simp [intOf]; omega
      | false =>
        have hta : towA (x1, y1) (x2, y2) = (0, false) := by rw [HTA.out, hq]; rfl
        rw [hta] at HTW
        have HR : Hid (dirsR p = ([], false)) := Lib.hid (by
          unfold dirsR
          rw [if_neg]
          intro hh
          have := (adjL_iff p).1 hh k (by rw [HN.out]; omega)
          rw [HD1.out, HD2.out, hq] at this
          cases this)
        dsimp only at HTW
        clear hq hta
        go_wp2_with fail
        refine wp_region_grow (by kernel_rfl) (by kernel_rfl) ?_
        repeat (go_big_quiet_step (first
          | (go_at_call 87; refine grow_of (HTW.out _))))
        refine wpQuiet_nil ?_
        intro _ hw'
        obtain ⟨xq, hw''⟩ := hw'
        subst hw''
        have HBt := Lib.hid (HB.out.trans ((grow_below xq).mono HB.out.size))
        clear e1 e2 e3 e4 hw2 hw3 hw4
        go_wp2_with fail
        go_ret2
        exact ⟨⟨_, by rw [HR.out]; rfl, by rw [HR.out]; exact World.ownsRow_nil _ _ _ _⟩, HBt.out⟩
    · have HAD : Hid (adjL p = true) := Lib.hid ((adjL_iff p).2 fun i hi => HJ.out i (by rw [HN.out] at hi; omega))
      have HR : Hid (dirsR p = (dirI p k, true)) := Lib.hid (by
        unfold dirsR
        rw [HAD.out, if_pos rfl, ← dirI_all, HN.out, show n - 1 = k by omega])
      go_wp2_with fail
      go_ret2
      exact ⟨⟨_, by rw [HR.out]; rfl, by rw [HR.out, dirI_len]; exact HO.out⟩, HB.out⟩
end Go.Proofs.Ytpakkjkjppibnaa

namespace Go.Proofs.Ytpakkjkjppibnaa
open Go.RowKit

/-- the error of a path on a valid grid -/
def checkC (op : Ce → Bool) (p : List Ce) : Int :=
  if 1 ≤ p.length ∧ p.length ≤ 1000 then (if adjL p = true ∧ p.Nodup then (if p.all op then 0 else 72) else 71) else 71

theorem getD_memC {p : List Ce} {j : Nat} (h : j < p.length) : p.getD j (0, 0) ∈ p := by
  rw [List.getD_eq_getElem?_getD, List.getElem?_eq_getElem h]; exact List.getElem_mem h
theorem shut_any (op : Ce → Bool) (p : List Ce) : (List.range p.length).any (fun j => !op (p.getD j (0, 0))) = !p.all op := by
  rw [Bool.eq_iff_iff]
  simp only [List.any_eq_true, List.mem_range, Bool.not_eq_true', List.all_eq_false]
  constructor
  · rintro ⟨j, hj, h⟩
    exact ⟨p.getD j (0, 0), getD_memC hj, by rw [h]; decide⟩
  · rintro ⟨x, hx, h⟩
    obtain ⟨j, hj, rfl⟩ := List.mem_iff_getElem.1 hx
    refine ⟨j, hj, ?_⟩
    rw [List.getD_eq_getElem?_getD, List.getElem?_eq_getElem hj]
    simpa using h

theorem shutC (Bg : Nat) (g : Gr) (bl : Value) (sa : Option Addr) (sc : Nat) (p : List Ce) (B : Nat) (W : World) (hg : GridAt W Bg g bl sa sc) (h0 : W.cell? ⟨B, 0, none⟩ = some (.pointer (some ⟨Bg, 0, none⟩))) :
    PredP 88 #[.pointer (some ⟨B, 0, none⟩)] p (fun j => !openP g (p.getD j (0, 0))) W := fun V j x hx hb => by
  have e0 := cell_below h0 hb
  have hlt := World.block_lt_of_cell? _ _ e0
  have hgx : p.getD j (0, 0) = x := by rw [List.getD_eq_getElem?_getD, hx]; rfl
  dsimp only
  rw [hgx]
  clear hgx
  obtain ⟨x, y⟩ := x
  show Calls Try.prog 88 #[.agg #[.int .i64 x, .int .i64 y], .pointer (some ⟨B, 0, none⟩)] V fun e w' => e = .returned (.bool (!openP g (x, y))) ∧ Below V.heap.size V w'
  have HO := Lib.hid (fun U (hU : Below V.heap.size V U) => open_any Bg g bl sa sc (x, y) U ((hg.below hb).below hU))
  have HBW := Lib.hid ((Below.refl V.heap.size V).alloc (Nat.le_refl _) (.cells #[.int .i64 x, .int .i64 y] 26))
  generalize openP g (x, y) = t at *
  clear h0 hx hb hg
  go_enter Try.func88, Try.ntmps88
  go_wp2_with (go_at_call 39; refine (HO.out _ HBW.out).mono ?_; rintro e w1 ⟨rfl, hb1⟩)
  go_ret
  exact ⟨rfl, HBW.out.trans (hb1.mono (by simp))⟩

set_option maxRecDepth 100000 in
set_option maxHeartbeats 1000000 in
theorem check_any (Bg : Nat) (g : Gr) (bl : Value) (sa : Option Addr) (sc : Nat) (p : List Ce) (v : Value) (w : World) (hg : GridAt w Bg g bl sa sc) (hv : RdP w v p) (hw : WfL p) :
    Calls Try.prog 65 #[.pointer (some ⟨Bg, 0, none⟩), v] w fun e w' => e = .returned (.int .i64 (checkC (openP g) p)) ∧ Below w.heap.size w w' := by
  have HC : Hid (checkC (openP g) p = if 1 ≤ p.length ∧ p.length ≤ 1000 then (if adjL p = true ∧ p.Nodup then (if p.all (openP g) then 0 else 72) else 71) else 71) := Lib.hid rfl
  have hmm := @run_makeMap Try.prog
  have HV := Lib.hid hv
  have HWF := Lib.hid hw
  have HBT := Lib.hid (fun V => between_any 1 (p.length : Int) 1000 V)
  have HDR := Lib.hid (fun V (hV : Below w.heap.size w V) (hn : p.length ≤ 100000) => directions_any p v V (hv.below hV) hw hn)
  obtain ⟨a, cap, rfl, hc, hcm, ha, _⟩ := hv
  obtain ⟨n, hnn⟩ : ∃ n, p.length = n := ⟨_, rfl⟩
  have HN := Lib.hid hnn
  have HG := Lib.hid hg
  rw [hnn] at HC HBT HDR hc ⊢
  clear hw hnn hg
  have HBW := Lib.hid ((Below.refl w.heap.size w).alloc (Nat.le_refl _) (.cells #[.pointer (some ⟨Bg, 0, none⟩)] 66))
  by_cases hn : 1 ≤ n ∧ n ≤ 1000
  · rw [if_pos hn] at HC
    obtain ⟨hn1, hn2⟩ := hn
    have hn1' : (1 : Int) ≤ n := by omega
    have hn2' : (n : Int) ≤ 1000 := by omega
    have HBF : Hid (∀ V, Calls Try.prog 52 #[.int .i64 1, .int .i64 (n : Int), .int .i64 1000] V fun e w' => e = .returned (.bool true) ∧ V = w') := Lib.hid fun V => (HBT.out V).mono fun e w' hh => ⟨by rw [hh.1]; simp; omega, hh.2⟩
    have HD2 := Lib.hid (fun V hV => HDR.out V hV (by omega))
    have b0 : (w.alloc (.cells #[.pointer (some ⟨Bg, 0, none⟩)] 66)).cell? ⟨w.heap.size, 0, none⟩ = some (.pointer (some ⟨Bg, 0, none⟩)) := World.cell?_alloc_at _ _ _ _ rfl
    have hsz : (w.alloc (.cells #[.pointer (some ⟨Bg, 0, none⟩)] 66)).heap.size = w.heap.size + 1 := by simp
    obtain ⟨wb, hwb⟩ : ∃ wb, w.alloc (.cells #[.pointer (some ⟨Bg, 0, none⟩)] 66) = wb := ⟨_, rfl⟩
    have HWB := Lib.hid hwb
    rw [hwb] at HBW b0 hsz
    have HSZ := Lib.hid hsz
    have HB0 := Lib.hid b0
    have HMS := Lib.hid (MSet.made wb)
    have HBM := Lib.hid ((Below.refl wb.heap.size wb).alloc (Nat.le_refl _) (.map #[] 0))
    clear hwb b0 hsz HDR HBT hn1 hn2
    go_enter Try.func65, Try.ntmps65
    go_wp2_with (go_at_call 52; (with_reducible refine (HBF.out _).mono ?_); rintro e w1 ⟨rfl, rfl⟩)
    rw [HWB.out]
    rw [HSZ.out] at HMS HBM
    have HBW1 : Hid (Below w.heap.size w (wb.alloc (.map #[] 0))) := Lib.hid (HBW.out.trans (HBM.out.mono (by omega)))
    go_loopw [17] (fun i wr => ∃ k : Nat, k ≤ n ∧ i = .int .i64 k ∧ Hid (MSet wr (w.heap.size + 1) k (p.take k)) ∧ Hid (Below (w.heap.size + 1) wb wr)) (fun i _ => n - (intOf i).toNat)
    case atStart => exact ⟨0, Nat.zero_le _, rfl, Lib.hid HMS.out, Lib.hid HBM.out⟩
    case round =>
      obtain ⟨k, hk, rfl, HM, HR⟩ := hrel
      have HBR := Lib.hid (HBW.out.trans (HR.out.mono (by omega)))
      by_cases hkn : k < n
      · have hkn' : (k : Int) < (n : Int) := by omega
        obtain ⟨⟨x, y⟩, hx⟩ : ∃ z, p[k]? = some z := ⟨_, List.getElem?_eq_getElem (by rw [HN.out]; exact hkn)⟩
        obtain ⟨b, off, rfl, e1, e2⟩ := RdP.cell (ha.below HBR.out (Nat.le_refl _)) hx
        have hwx := HWF.out _ (List.mem_of_getElem? hx)
        have HTK : Hid (p.take (k + 1) = p.take k ++ [(x, y)]) := Lib.hid (by rw [List.take_add_one, hx]; rfl)
        dsimp only at e1 e2
        clear hx
        go_wp2_with (at_mapUpdate; refine wp_mset_store _ rfl _ _ _ rfl (w.heap.size + 1) k (p.take k) (x, y) rfl (HM.out.below ((Below.refl _ _).alloc (Nat.le_refl _) _)) (by unfold maxLen; omega) rfl rfl hwx ?_; intro w2 hw2 hg2; have HB2 := Lib.hid ((HR.out.alloc (by have := HR.out.size; rw [HSZ.out] at this; omega) (.cells #[.int .i64 x, .int .i64 y] 26)).grown hg2 (by have := HR.out.size; rw [HSZ.out] at this; simp; omega) (fun k e => by cases e; exact Nat.le_refl _)); clear hg2)
        go_roundw
        case rel => exact ⟨k + 1, by omega, by go_num, Lib.hid (by rw [HTK.out]; exact hw2), HB2⟩
        case measure => simp [intOf]; omega
      · obtain rfl : k = n := by omega
        have HML : Hid (MSet wr (w.heap.size + 1) k p) := Lib.hid (by have := HM.out; rwa [List.take_of_length_le (by rw [HN.out]; exact Nat.le_refl _)] at this)
        have c0 := (HR.out.cell (p := ⟨w.heap.size, 0, none⟩) (by dsimp only; omega)).trans HB0.out
        have HD3 := Lib.hid (HD2.out wr HBR.out)
        clear HM
        cases hadj : adjL p with
        | false =>
          have hdr : dirsR p = ([], false) := by unfold dirsR; rw [hadj]; rfl
          have HCC : Hid (checkC (openP g) p = 71) := Lib.hid (by rw [HC.out, if_neg (by rw [hadj]; simp)])
          rw [hdr] at HD3
          dsimp only at HD3
          clear hdr hadj
          go_wp2_with (go_at_call 64; (with_reducible refine HD3.out.mono ?_); rintro e w2 ⟨⟨u, rfl, _⟩, hb2⟩)
          go_ret
          exact ⟨by rw [HCC.out]; rfl, HBR.out.trans (hb2.mono HBR.out.size)⟩
        | true =>
          have hdr : dirsR p = ((dirsL p).map Int.ofNat, true) := by unfold dirsR; rw [hadj]; rfl
          rw [hdr] at HD3
          dsimp only at HD3
          have HAD := Lib.hid hadj
          clear hdr hadj
          by_cases hnd : p.Nodup
          · rw [HAD.out] at HC
            rw [if_pos ⟨rfl, hnd⟩] at HC
            have HND := Lib.hid hnd
            obtain ⟨t, ht⟩ : ∃ t, p.all (openP g) = t := ⟨_, rfl⟩
            have HT : Hid ((List.range p.length).any (fun j => !openP g (p.getD j (0, 0))) = !t) := Lib.hid (by rw [shut_any, ht])
            rw [ht] at HC
            clear hnd ht
            have eg : ∀ args w, (callFunc 88 args).run Try.prog w = .ok (.enter 88 args) w := enters_of Try.func88 (by kernel_rfl) rfl
            have HCF := Lib.hid (fun (V : World) (hV : Below wr.heap.size wr V) => has_xy (fun j => !openP g (p.getD j (0, 0))) 88 #[.pointer (some ⟨w.heap.size, 0, none⟩)] eg p _ V (shutC Bg g bl sa sc p w.heap.size V ((HG.out.below HBR.out).below hV) (cell_below c0 hV)) ((HV.out.below HBR.out).below hV) (by rw [HN.out]; omega) (!t) HT.out)
            rw [HN.out] at HCF
            clear eg
            cases t
            all_goals
              go_wp2_with (first
                | (go_at_call 64; (with_reducible refine HD3.out.mono ?_); rintro e w2 ⟨⟨u, rfl, _⟩, hb2⟩; have HB2 := Lib.hid hb2; have c2 := cell_below c0 hb2; obtain ⟨kk, _, hk2, hk3⟩ := (HML.out.below hb2).len 3; obtain rfl : kk = k := (hk2.2 HND.out).trans HN.out; clear hb2 hk2)
                | (go_at_call 59; (with_reducible refine (HCF.out _ HB2.out).mono ?_); rintro e w3 ⟨rfl, hb3⟩))
              go_ret
              exact ⟨by rw [HC.out]; rfl, HBR.out.trans ((HB2.out.trans (hb3.mono HB2.out.size)).mono HBR.out.size)⟩
          · have HCC : Hid (checkC (openP g) p = 71) := Lib.hid (by rw [HC.out, if_neg (fun hh => hnd hh.2)])
            have HND := Lib.hid hnd
            clear hnd
            go_wp2_with (first
              | (go_at_call 64; (with_reducible refine HD3.out.mono ?_); rintro e w2 ⟨⟨u, rfl, _⟩, hb2⟩; have HB2 := Lib.hid hb2; obtain ⟨kk, hk1, hk2, hk3⟩ := (HML.out.below hb2).len 3; have hkk : kk < k := Nat.lt_of_le_of_ne (by rw [← HN.out]; exact hk1) (fun e => HND.out (hk2.1 (e.trans HN.out.symm))); clear hb2 hk1 hk2))
            go_ret
            exact ⟨by rw [HCC.out]; rfl, HBR.out.trans (HB2.out.mono HBR.out.size)⟩
  · have HCC : Hid (checkC (openP g) p = 71) := Lib.hid (by rw [HC.out, if_neg hn])
    have HBF : Hid (∀ V, Calls Try.prog 52 #[.int .i64 1, .int .i64 (n : Int), .int .i64 1000] V fun e w' => e = .returned (.bool false) ∧ V = w') := Lib.hid fun V => (HBT.out V).mono fun e w' hh => ⟨by rw [hh.1]; simp; omega, hh.2⟩
    clear hn
    go_enter Try.func65, Try.ntmps65
    go_wp2_with (go_at_call 52; (with_reducible refine (HBF.out _).mono ?_); rintro e w1 ⟨rfl, rfl⟩)
    go_ret
    exact ⟨by rw [HCC.out]; rfl, HBW.out⟩
end Go.Proofs.Ytpakkjkjppibnaa

namespace Go.Proofs.Ytpakkjkjppibnaa
open Go.RowKit

/-- the error of a path -/
def checkF (w h mv bd : Int) (bl p : List Ce) : Int := if validP w h mv bd bl then checkC (refOpenP w h bl) p else 70
theorem results_tmp4 {fn : Func} {t u v x : Tmp} (h : fn.results = #[.tmp t, .tmp u, .tmp v, .tmp x]) (tmps : Array Value) (P : Program) (w : World) :
    (results fn tmps).run P w = .ok (.tuple #[tmps.getD t undef, tmps.getD u undef, tmps.getD v undef, tmps.getD x undef]) w := by
  simp [results, h]
theorem openK {w h : Nat} {mv bd : Int} {bl : List Ce} (hv : validP w h mv bd bl = true) : openP (grK w h mv bd bl bl.length) = refOpenP w h bl := funext fun c => open_eq hv c

set_option maxRecDepth 100000 in
theorem Check_any (w h mv bd : Int) (bv : Value) (bl p : List Ce) (v : Value) (W : World) (hb : RdP W bv bl) (hv : RdP W v p) (hw : WfL p) :
    Calls Try.prog 31 #[.agg #[.int .i64 w, .int .i64 h, .int .i64 mv, .int .i64 bd, bv], v] W fun e w' => e = .returned (.int .i64 (checkF w h mv bd bl p)) ∧ Below W.heap.size W w' := by
  have HBW := Lib.hid ((Below.refl W.heap.size W).alloc (Nat.le_refl _) (.cells #[.int .i64 w, .int .i64 h, .int .i64 mv, .int .i64 bd, bv] 24))
  have HV := Lib.hid hv
  cases hvd : validP w h mv bd bl with
  | false =>
    have HF : Hid (checkF w h mv bd bl p = 70) := Lib.hid (by unfold checkF; rw [hvd]; rfl)
    have HO := Lib.hid (fun V (hV : Below W.heap.size W V) => opened_bad w h mv bd bv bl V (hb.below hV) hvd)
    obtain ⟨a, cap, rfl, _, _, _, _⟩ := hb
    obtain ⟨a', cap', rfl, _, _, _, _⟩ := hv
    clear hvd hw
    go_enter Try.func31, Try.ntmps31
    go_wp2_with (go_at_call 38; (with_reducible refine (HO.out _ HBW.out).mono ?_); rintro e w1 ⟨rfl, hb1⟩)
    go_ret
    exact ⟨by rw [HF.out]; rfl, HBW.out.trans (hb1.mono (by simp))⟩
  | true =>
    obtain ⟨w, h, rfl, rfl⟩ := valid_nat hvd
    have HF : Hid (checkF w h mv bd bl p = checkC (openP (grK w h mv bd bl bl.length)) p) := Lib.hid (by unfold checkF; rw [hvd, if_pos rfl, openK hvd])
    have HO := Lib.hid (fun V (hV : Below W.heap.size W V) => opened_ok w h mv bd bv bl V (hb.below hV) hvd)
    have HC := Lib.hid (fun Bg sb V (hV : GridAt V Bg (grK w h mv bd bl bl.length) bv (some ⟨sb, 0, none⟩) (w * h)) (hr : RdP V v p) => check_any Bg _ bv _ _ p v V hV hr hw)
    obtain ⟨a, cap, rfl, _, _, _, _⟩ := hb
    obtain ⟨a', cap', rfl, _, _, _, _⟩ := hv
    clear hvd hw
    go_enter Try.func31, Try.ntmps31
    go_wp2_with (first
      | (go_at_call 38; (with_reducible refine (HO.out _ HBW.out).mono ?_); rintro e w1 ⟨Bg, sb, rfl, hg1, hb1⟩; have HG1 := Lib.hid hg1; have HB1 := Lib.hid (HBW.out.trans (hb1.mono (by simp))); clear hg1 hb1)
      | (go_at_call 65; (with_reducible refine (HC.out _ _ _ HG1.out (HV.out.below HB1.out)).mono ?_); rintro e w2 ⟨rfl, hb2⟩))
    go_ret
    exact ⟨by rw [HF.out]; rfl, HB1.out.trans (hb2.mono HB1.out.size)⟩

/-- steps, bends, cost and error of a path -/
def costF (w h mv bd : Int) (bl p : List Ce) : Int × Int × Int × Int :=
  if checkF w h mv bd bl p = 0 then (((p.length - 1 : Nat) : Int), (bendsL (dirsL p) : Int), ((p.length - 1 : Nat) : Int) * mv + (bendsL (dirsL p) : Int) * bd, 0) else (0, 0, 0, checkF w h mv bd bl p)
theorem checkF_ok {w h mv bd : Int} {bl p : List Ce} (hc : checkF w h mv bd bl p = 0) : validP w h mv bd bl = true ∧ 1 ≤ p.length ∧ p.length ≤ 1000 ∧ adjL p = true ∧ p.Nodup ∧ p.all (refOpenP w h bl) = true := by
  unfold checkF at hc
  cases hv : validP w h mv bd bl with
  | false => simp [hv] at hc
  | true =>
    rw [hv, if_pos rfl] at hc
    unfold checkC at hc
    by_cases h1 : 1 ≤ p.length ∧ p.length ≤ 1000
    · rw [if_pos h1] at hc
      by_cases h2 : adjL p = true ∧ p.Nodup
      · rw [if_pos h2] at hc
        cases h3 : p.all (refOpenP w h bl) with
        | false => simp [h3] at hc
        | true => exact ⟨rfl, h1.1, h1.2, h2.1, h2.2, rfl⟩
      · rw [if_neg h2] at hc; cases hc
    · rw [if_neg h1] at hc; cases hc
theorem bends_take {l : List Nat} {k : Nat} (hk : k + 1 < l.length) : bendsL (l.take (k + 2)) = bendsL (l.take (k + 1)) + (if l.getD k 0 = l.getD (k + 1) 0 then 0 else 1) := by
  have e1 : l.take (k + 1) = l.take k ++ [l.getD k 0] := by
    rw [List.take_add_one, List.getElem?_eq_getElem (by omega), List.getD_eq_getElem?_getD, List.getElem?_eq_getElem (by omega)]; rfl
  have e2 : l.take (k + 2) = l.take (k + 1) ++ [l.getD (k + 1) 0] := by
    rw [List.take_add_one, List.getElem?_eq_getElem (by omega), List.getD_eq_getElem?_getD, List.getElem?_eq_getElem (by omega)]; rfl
  rw [e2, e1, List.append_assoc]
  exact bendsL_snoc _ _ _
theorem bends_one (l : List Nat) : bendsL (l.take 1) = 0 := by
  match l with
  | [] => rfl
  | [_] => rfl
  | _ :: _ :: _ => rfl

set_option maxRecDepth 100000 in
set_option maxHeartbeats 1000000 in
theorem Cost_any (w h mv bd : Int) (bv : Value) (bl p : List Ce) (v : Value) (W : World) (hb : RdP W bv bl) (hv : RdP W v p) (hw : WfL p) :
    Calls Try.prog 29 #[.agg #[.int .i64 w, .int .i64 h, .int .i64 mv, .int .i64 bd, bv], v] W fun e w' =>
      e = .returned (.tuple #[.int .i64 (costF w h mv bd bl p).1, .int .i64 (costF w h mv bd bl p).2.1, .int .i64 (costF w h mv bd bl p).2.2.1, .int .i64 (costF w h mv bd bl p).2.2.2]) ∧ Below W.heap.size W w' := by
  have HBW := Lib.hid ((Below.refl W.heap.size W).alloc (Nat.le_refl _) (.cells #[.int .i64 w, .int .i64 h, .int .i64 mv, .int .i64 bd, bv] 24))
  have HV := Lib.hid hv
  have HC := Lib.hid (fun V (hV : Below W.heap.size W V) => Check_any w h mv bd bv bl p v V (hb.below hV) (hv.below hV) hw)
  by_cases hz : checkF w h mv bd bl p = 0
  · obtain ⟨k1, k2, k3, k4, k5, k6⟩ := checkF_ok hz
    have hnum := ((validP_iff _ _ _ _ _).1 k1).1
    have HCF : Hid (costF w h mv bd bl p = (((p.length - 1 : Nat) : Int), (bendsL (dirsL p) : Int), ((p.length - 1 : Nat) : Int) * mv + (bendsL (dirsL p) : Int) * bd, 0)) := Lib.hid (by unfold costF; rw [if_pos hz])
    rw [hz] at HC
    have HDR := Lib.hid (fun V (hV : Below W.heap.size W V) => directions_any p v V (hv.below hV) hw (by omega))
    rw [show dirsR p = ((dirsL p).map Int.ofNat, true) by unfold dirsR; rw [k4]; rfl] at HDR
    have hdl := dirsL_len p
    obtain ⟨ds, hds⟩ : ∃ ds, dirsL p = ds := ⟨_, rfl⟩
    rw [hds] at HCF HDR hdl
    dsimp only at HDR
    rw [List.length_map] at HDR
    obtain ⟨a, cap, rfl, _, _, _, _⟩ := hb
    obtain ⟨a', cap', rfl, _, _, _, _⟩ := hv
    obtain ⟨n, hnn⟩ : ∃ n, p.length = n := ⟨_, rfl⟩
    have HN := Lib.hid hnn
    rw [hnn] at HCF HC HDR hdl k2 k3 ⊢
    have HDL := Lib.hid hdl
    obtain ⟨N, hNN⟩ : ∃ N, ds.length = N := ⟨_, rfl⟩
    rw [hNN] at HDR hdl
    have HNN := Lib.hid hNN
    have HNE : Hid (N = n - 1) := Lib.hid hdl
    have hN9 : N ≤ 999 := by omega
    have HNUM := Lib.hid hnum
    clear hw hz k1 k4 k5 k6 hds hnn hNN hdl hnum k2 k3
    go_enter Try.func29, Try.ntmps29
    go_wp2_with (first
      | (go_at_call 31; (with_reducible refine (HC.out _ HBW.out).mono ?_); rintro e w1 ⟨rfl, hb1⟩; have HB1 := Lib.hid (HBW.out.trans (hb1.mono (by simp))); have HB1' := Lib.hid hb1; clear hb1)
      | (go_at_call 64; (with_reducible refine (HDR.out _ HB1.out).mono ?_); rintro e w2 ⟨⟨u, rfl, ho2⟩, hb2⟩; obtain ⟨ua, uc, rfl⟩ := own_form ho2; have HO2 := Lib.hid ho2; have HB2 := Lib.hid hb2; clear ho2 hb2))
    have m2 : (W.alloc (.cells #[.int .i64 w, .int .i64 h, .int .i64 mv, .int .i64 bd, .slice a bl.length cap] 24)).cell? ⟨W.heap.size, 2, none⟩ = some (.int .i64 mv) := World.cell?_alloc_at _ _ _ _ rfl
    have m3 : (W.alloc (.cells #[.int .i64 w, .int .i64 h, .int .i64 mv, .int .i64 bd, .slice a bl.length cap] 24)).cell? ⟨W.heap.size, 3, none⟩ = some (.int .i64 bd) := World.cell?_alloc_at _ _ _ _ rfl
    have M2 := Lib.hid (cell_below (cell_below m2 HB1'.out) HB2.out)
    have M3 := Lib.hid (cell_below (cell_below m3 HB1'.out) HB2.out)
    have HAC : Hid (CellsAt w2 ua (ints (ds.map Int.ofNat))) := Lib.hid (by
      obtain ⟨a5, c5, e5, _, _, h5, _⟩ := Rd.own HO2.out
      injection e5 with e5
      subst e5
      exact h5)
    clear m2 m3 HB1'
    go_loopw [5, 11] (fun q i wr => ∃ k : Nat, k ≤ N - 1 ∧ i = .int .i64 ((k : Int) + 1) ∧ q = .int .i64 (bendsL (ds.take (k + 1)) : Int) ∧ Hid (Below w2.heap.size w2 wr)) (fun _ i _ => N - (intOf i).toNat)
    case atStart => exact ⟨0, Nat.zero_le _, rfl, by rw [bends_one]; rfl, Lib.hid (Below.refl _ _)⟩
    case round =>
      obtain ⟨k, hk, rfl, rfl, HR⟩ := hrel
      obtain ⟨B, hB⟩ : ∃ B, bendsL (ds.take (k + 1)) = B := ⟨_, rfl⟩
      have hbl : B ≤ k + 1 := hB ▸ Nat.le_trans (bendsL_le _) (List.length_take_le _ _)
      rw [hB]
      have HB := Lib.hid hB
      clear hB
      by_cases hkN : k + 1 < N
      · have hkN' : (k : Int) + 1 < (N : Int) := by omega
        have hbs := bends_take (l := ds) (k := k) (by rw [HNN.out]; exact hkN)
        obtain ⟨d, hd⟩ : ∃ d, ds.getD k 0 = d := ⟨_, rfl⟩
        obtain ⟨e, he⟩ : ∃ e, ds.getD (k + 1) 0 = e := ⟨_, rfl⟩
        rw [hd, he, HB.out] at hbs
        have HBS := Lib.hid hbs
        have hA := HAC.out.below HR.out (Nat.le_refl _)
        have gd : ∀ j, j < N → (ints (ds.map Int.ofNat))[j]? = some (.int .i64 (ds.getD j 0 : Int)) := fun j hj => by
          rw [← HNN.out] at hj
          simp [ints, List.getD, List.getElem?_eq_getElem hj]
        obtain ⟨b, off, rfl, hcell⟩ := hA.cell (j := k) (by rw [ints_length, List.length_map, HNN.out]; omega)
        have e1 := hcell k _ (gd k (by omega))
        have e2 := hcell (k + 1) _ (gd (k + 1) hkN)
        rw [hd] at e1
        rw [he] at e2
        have e1 := fun x : Grow wr => grow_cell e1 x
        have e2 := fun x : Grow wr => grow_cell e2 x
        have hw2 : IntKind.i64.wrap ((k : Int) + 1 - 1) = k := IntWalk.i64_in _ (by omega) |>.trans (by omega)
        have hw3 : IntKind.i64.wrap (k : Int) = k := IntWalk.i64_in _ (by omega)
        have hw4 : ((k : Int) + 1).toNat = k + 1 := by omega
        clear hbs hd he hA gd hcell
        by_cases hde : d = e
        · subst hde
          rw [if_pos rfl] at HBS
          go_wp2_with fail
          refine wp_region_grow (by kernel_rfl) (by kernel_rfl) ?_
          repeat (go_big_quiet_step (fail))
          refine wpQuiet_nil ?_
          intro _ hw'
          obtain ⟨xq, hw''⟩ := hw'
          subst hw''
          have HBt := Lib.hid (HR.out.trans ((grow_below xq).mono HR.out.size))
          clear e1 e2 hw2 hw3 hw4
          go_wp2_with fail
          go_roundw
          case rel => exact ⟨k + 1, by omega, by go_num, by rw [HBS.out]; rfl, HBt⟩
          case measure => simp [intOf]; omega
        · have hdb : ((d : Int) == (e : Int)) = false := by
            rw [Bool.eq_false_iff]; intro hh; simp at hh; exact hde (by exact_mod_cast hh)
          rw [if_neg hde] at HBS
          go_wp2_with fail
          refine wp_region_grow (by kernel_rfl) (by kernel_rfl) ?_
          repeat (go_big_quiet_step (fail))
          refine wpQuiet_nil ?_
          intro _ hw'
          obtain ⟨xq, hw''⟩ := hw'
          subst hw''
          have HBt := Lib.hid (HR.out.trans ((grow_below xq).mono HR.out.size))
          clear e1 e2 hw2 hw3 hw4
          go_wp2_with fail
          go_roundw
          case rel => exact ⟨k + 1, by omega, by go_num, by rw [HBS.out]; go_num, HBt⟩
          case measure => simp [intOf]; omega
      · have hfull : Hid (ds.take (k + 1) = ds) := Lib.hid (List.take_of_length_le (by rw [HNN.out]; omega))
        rw [hfull.out] at HB
        rw [HB.out] at HCF
        have m2 := cell_below M2.out HR.out
        have m3 := cell_below M3.out HR.out
        have e1 := fun x : Grow wr => grow_cell m2 x
        have e2 := fun x : Grow wr => grow_cell m3 x
        have hnum := HNUM.out
        have p1 : 0 ≤ (N : Int) * mv := Int.mul_nonneg (by omega) (by omega)
        have p2 : (N : Int) * mv ≤ 1000 * 1000 := Int.mul_le_mul (by omega) (by omega) (by omega) (by omega)
        have p3 : 0 ≤ (B : Int) * bd := Int.mul_nonneg (by omega) (by omega)
        have p4 : (B : Int) * bd ≤ 1000 * 1000 := Int.mul_le_mul (by omega) (by omega) (by omega) (by omega)
        have hm1 : IntKind.i64.wrap ((N : Int) * mv) = (N : Int) * mv := IntWalk.i64_in _ (by omega)
        have hm2 : IntKind.i64.wrap ((B : Int) * bd) = (B : Int) * bd := IntWalk.i64_in _ (by omega)
        have hm3 : IntKind.i64.wrap ((N : Int) * mv + (B : Int) * bd) = (N : Int) * mv + (B : Int) * bd := IntWalk.i64_in _ (by omega)
        clear m2 m3 p1 p2 p3 p4 hnum
        go_wp2_with fail
        refine wp_region_grow (by kernel_rfl) (by kernel_rfl) ?_
        repeat (go_big_quiet_step (fail))
        refine wpQuiet_nil ?_
        intro _ hw'
        obtain ⟨xq, hw''⟩ := hw'
        subst hw''
        go_wp2_with fail
        refine bodyPost_ret (results_tmp4 rfl _ _ _) rfl ?_
        refine ⟨?_, HB1.out.trans ((HB2.out.trans ((HR.out.trans ((grow_below xq).mono HR.out.size)).mono HB2.out.size)).mono HB1.out.size)⟩
        rw [HCF.out, ← HNE.out]
        rfl
  · have HCF : Hid (costF w h mv bd bl p = (0, 0, 0, checkF w h mv bd bl p)) := Lib.hid (by unfold costF; rw [if_neg hz])
    generalize checkF w h mv bd bl p = ee at *
    have hzb : (ee == 0) = false := by simpa using hz
    obtain ⟨a, cap, rfl, _, _, _, _⟩ := hb
    obtain ⟨a', cap', rfl, _, _, _, _⟩ := hv
    clear hw
    go_enter Try.func29, Try.ntmps29
    go_wp2_with (go_at_call 31; (with_reducible refine (HC.out _ HBW.out).mono ?_); rintro e w1 ⟨rfl, hb1⟩)
    refine bodyPost_ret (results_tmp4 rfl _ _ _) rfl ?_
    exact ⟨by rw [HCF.out]; rfl, HBW.out.trans (hb1.mono (by simp))⟩
end Go.Proofs.Ytpakkjkjppibnaa

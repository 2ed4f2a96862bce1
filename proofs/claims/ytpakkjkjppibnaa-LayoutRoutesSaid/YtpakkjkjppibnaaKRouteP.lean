/- Layout: the document's least, walked; lists of cells and of numbers compared.
   Layout: the document's table of least costs: plain.
   Layout: the route by the field and by the table: plain. -/
import Derived.Test.YtpakkjkjppibnaaKBlk
namespace Go.Proofs.Ytpakkjkjppibnaa
open Go.RowKit

theorem run_min4 (w : World) (ts : Array TypeId) (t : TypeId) (a b c d : Int) : (Builtin.min_ ts t #[.int .i64 a, .int .i64 b, .int .i64 c, .int .i64 d]).run Try.prog w = .ok (.int .i64 (min a (min b (min c d)))) w := by
  have e : ∀ x y : Int, (if y < x then y else x) = min x y := fun x y => by
    rw [Int.min_def]
    split <;> split <;> omega
  have e2 : min (min (min a b) c) d = min a (min b (min c d)) := by omega
  rw [← e2]
  simp [Builtin.min_, Builtin.min2, e]
def min4 (T : List (List Int)) (i : Nat) : Int := min (outGet T i 0) (min (outGet T i 1) (min (outGet T i 2) (outGet T i 3)))

set_option maxRecDepth 100000 in
set_option maxHeartbeats 1000000 in
theorem least_any (w h : Nat) (mv bd : Int) (bv : Value) (tb N cap : Nat) (T : List (List Int)) (x y : Int) (i : Nat) (W : World) (hT : FldAt W tb N T) (hi : i < N) (hN : N ≤ 900) (hix : y * (w : Int) + x = i) (hx : 0 ≤ x ∧ x ≤ 1000) (hy : 0 ≤ y) :
    Calls Try.prog 45 #[.agg #[.int .i64 w, .int .i64 h, .int .i64 mv, .int .i64 bd, bv], .slice (some ⟨tb, 0, none⟩) N cap, .agg #[.int .i64 x, .int .i64 y]] W fun e w' => e = .returned (.int .i64 (min4 T i)) ∧ Below W.heap.size W w' := by
  have hbW := Lib.hid (((Below.refl W.heap.size W).alloc (Nat.le_refl _) (.cells #[.int .i64 w, .int .i64 h, .int .i64 mv, .int .i64 bd, bv] 24)).alloc (by simp) (.cells #[.int .i64 x, .int .i64 y] 26))
  have HBX := Lib.hid (BxAt.new W (.cells #[.int .i64 w, .int .i64 h, .int .i64 mv, .int .i64 bd, bv] 24) x y 26)
  have HGX := Lib.hid (GBx.new W w h mv bd bv 24 (.cells #[.int .i64 x, .int .i64 y] 26))
  have h0 := hT i 0 hi (by decide)
  have h1 := hT i 1 hi (by decide)
  have h2 := hT i 2 hi (by decide)
  have h3 := hT i 3 hi (by decide)
  have HM : Hid (min4 T i = min (outGet T i 0) (min (outGet T i 1) (min (outGet T i 2) (outGet T i 3)))) := Lib.hid rfl
  generalize min4 T i = res at *
  generalize outGet T i 0 = v0 at *
  generalize outGet T i 1 = v1 at *
  generalize outGet T i 2 = v2 at *
  generalize outGet T i 3 = v3 at *
  have hyw : 0 ≤ y * (w : Int) := Int.mul_nonneg hy (by omega)
  have hwm : IntKind.i64.wrap (y * (w : Int)) = y * (w : Int) := IntWalk.i64_in _ (by omega)
  have hwa : IntKind.i64.wrap (y * (w : Int) + x) = (i : Int) := by rw [hix]; exact IntWalk.i64_in _ (by clear hwm; omega)
  have hi' : (i : Int) < (N : Int) := by omega
  have hmin := run_min4
  clear hT hix hyw
  go_enter Try.func45, Try.ntmps45
  go_wp2_with fail
  have g0 := cell_below h0 hbW.out
  have g1 := cell_below h1 hbW.out
  have g2 := cell_below h2 hbW.out
  have g3 := cell_below h3 hbW.out
  rw [Nat.add_zero] at g0
  generalize hW1 : (W.alloc (.cells #[.int .i64 w, .int .i64 h, .int .i64 mv, .int .i64 bd, bv] 24)).alloc (.cells #[.int .i64 x, .int .i64 y] 26) = W1 at *
  obtain ⟨c0, _, _, _, _⟩ := HGX.out
  obtain ⟨c5, c6⟩ := HBX.out
  have e0 := fun x : Grow W1 => grow_cell g0 x
  have e1 := fun x : Grow W1 => grow_cell g1 x
  have e2 := fun x : Grow W1 => grow_cell g2 x
  have e3 := fun x : Grow W1 => grow_cell g3 x
  have e4 := fun x : Grow W1 => grow_cell c0 x
  have e5 := fun x : Grow W1 => grow_cell c5 x
  have e6 := fun x : Grow W1 => grow_cell c6 x
  clear h0 h1 h2 h3 g0 g1 g2 g3 c0 c5 c6 hW1
  refine wp_region_grow (by kernel_rfl) (by kernel_rfl) ?_
  repeat (go_big_quiet_step (fail))
  refine wpQuiet_nil ?_
  intro _ hw'
  obtain ⟨xq, hw''⟩ := hw'
  subst hw''
  have HBq := Lib.hid (grow_below xq)
  clear e0 e1 e2 e3 e4 e5 e6
  generalize grow xq = w3 at *
  go_wp2_with fail
  go_ret
  exact ⟨by rw [HM.out]; rfl, hbW.out.trans (HBq.out.mono hbW.out.size)⟩

set_option maxRecDepth 100000 in
theorem sameInts_any (l m : List Int) (v u : Value) (W : World) (hv : Rd W v (ints l)) (hu : Rd W u (ints m)) (hl : l.length ≤ 4000000) :
    Calls Try.prog 16 #[v, u] W fun e w' => e = .returned (.bool (decide (l = m))) ∧ Below W.heap.size W w' := by
  obtain ⟨a, cap, rfl, hc, hcm, ha, _⟩ := hv
  obtain ⟨b, cap2, rfl, hc2, hcm2, hb, _⟩ := hu
  simp only [ints_length] at *
  by_cases hne : l.length = m.length
  · have HL := Lib.hid hne
    have HEQ : Hid ((∀ k, k < l.length → l.getD k 0 = m.getD k 0) → decide (l = m) = true) := Lib.hid (fun hh => decide_eq_true (List.ext_getElem hne fun k h1 h2 => by
      have := hh k h1
      rwa [List.getD_eq_getElem?_getD, List.getD_eq_getElem?_getD, List.getElem?_eq_getElem h1, List.getElem?_eq_getElem h2] at this))
    have HNE : Hid (∀ k, l.getD k 0 ≠ m.getD k 0 → decide (l = m) = false) := Lib.hid (fun k hk => decide_eq_false (fun e => hk (by rw [e])))
    generalize decide (l = m) = res at *
    rw [← hne]
    obtain ⟨N, hN⟩ : ∃ N, l.length = N := ⟨_, rfl⟩
    rw [hN] at HL HEQ hl ⊢
    have HN := Lib.hid hN
    clear hne hN
    go_enter Try.func16, Try.ntmps16
    go_wp2_with fail
    go_loopw [13] (fun i wr => ∃ k : Nat, k ≤ N ∧ i = .int .i64 k ∧ Hid (Below W.heap.size W wr) ∧ Hid (∀ j, j < k → l.getD j 0 = m.getD j 0)) (fun i _ => N - (intOf i).toNat)
    case atStart => exact ⟨0, Nat.zero_le _, rfl, Lib.hid (Below.refl _ _), Lib.hid fun j h => absurd h (Nat.not_lt_zero _)⟩
    case round =>
      obtain ⟨k, hk, rfl, HR, HA⟩ := hrel
      by_cases hkN : k < N
      · have hkN' : (k : Int) < (N : Int) := by omega
        obtain ⟨cb, co, rfl, hcell⟩ := (ha.below HR.out (Nat.le_refl _)).cell (j := k) (by rw [ints_length, HN.out]; exact hkN)
        have f0 := hcell k _ (ints_getD (by rw [HN.out]; exact hkN))
        obtain ⟨db, dd, rfl, hcell2⟩ := (hb.below HR.out (Nat.le_refl _)).cell (j := k) (by rw [ints_length, ← HL.out]; exact hkN)
        have f1 := hcell2 k _ (ints_getD (by rw [← HL.out]; exact hkN))
        have HNK := Lib.hid (HNE.out k)
        have HAK : Hid (l.getD k 0 = m.getD k 0 → ∀ j, j < k + 1 → l.getD j 0 = m.getD j 0) := Lib.hid (fun h j hj => by
          rcases (by omega : j < k ∨ j = k) with h1 | rfl
          · exact HA.out j h1
          · exact h)
        generalize l.getD k 0 = av at *
        generalize m.getD k 0 = bv at *
        have e0 := fun x : Grow wr => grow_cell f0 x
        have e1 := fun x : Grow wr => grow_cell f1 x
        clear hcell hcell2 f0 f1
        by_cases hab : av = bv
        · subst hab
          have HA2 := Lib.hid (HAK.out rfl)
          go_wp2_with fail
          refine wp_region_grow (by kernel_rfl) (by kernel_rfl) ?_
          repeat (go_big_quiet_step (fail))
          refine wpQuiet_nil ?_
          intro _ hw'
          obtain ⟨xq, hw''⟩ := hw'
          subst hw''
          have HBq := Lib.hid (HR.out.trans ((grow_below xq).mono HR.out.size))
          clear e0 e1
          generalize grow xq = w8 at *
          go_wp2_with fail
          go_roundw
          case rel => exact ⟨k + 1, by omega, by go_num, HBq, HA2⟩
          case measure => simp [intOf]; omega
        · have HF := Lib.hid (HNK.out hab)
          have hab' : (av != bv) = true := by simpa using hab
          go_wp2_with fail
          refine wp_region_grow (by kernel_rfl) (by kernel_rfl) ?_
          repeat (go_big_quiet_step (fail))
          refine wpQuiet_nil ?_
          intro _ hw'
          obtain ⟨xq, hw''⟩ := hw'
          subst hw''
          have HBq := Lib.hid (HR.out.trans ((grow_below xq).mono HR.out.size))
          clear e0 e1
          generalize grow xq = w8 at *
          go_wp2_with fail
          go_ret
          exact ⟨by rw [HF.out]; rfl, HBq.out⟩
      · obtain rfl : k = N := by omega
        have HT := Lib.hid (HEQ.out HA.out)
        go_wp2_with fail
        go_ret
        exact ⟨by rw [HT.out]; rfl, HR.out⟩
  · have HF : Hid (decide (l = m) = false) := Lib.hid (decide_eq_false fun e => hne (by rw [e]))
    have hne' : ((l.length : Int) != (m.length : Int)) = true := by simp; omega
    generalize decide (l = m) = res at *
    clear hne
    go_enter Try.func16, Try.ntmps16
    go_wp2_with fail
    go_ret
    exact ⟨by rw [HF.out]; rfl, Below.refl _ _⟩
end Go.Proofs.Ytpakkjkjppibnaa

namespace Go.Proofs.Ytpakkjkjppibnaa
open Go.RowKit

def big : Int := 1099511627776
def sumR (r : List Int) : Nat := (r.map Int.toNat).sum
def sumT (T : List (List Int)) : Nat := (T.map sumR).sum
theorem sumR_set : ∀ (r : List Int) (d : Nat) (x : Int), d < r.length → 0 ≤ x → x < r.getD d 0 → sumR (r.set d x) < sumR r
  | [], _, _, h, _, _ => absurd h (Nat.not_lt_zero _)
  | y :: r, 0, x, _, h0, h1 => by
    simp at h1
    simp [sumR]; omega
  | y :: r, d + 1, x, h, h0, h1 => by
    have := sumR_set r d x (by simpa using h) h0 (by simpa using h1)
    simp [sumR] at this ⊢; omega
theorem sumT_set : ∀ (T : List (List Int)) (i d : Nat) (x : Int), i < T.length → d < (T.getD i []).length → 0 ≤ x → x < outGet T i d → sumT (outSet T i d x) < sumT T
  | [], _, _, _, h, _, _, _ => absurd h (Nat.not_lt_zero _)
  | r :: T, 0, d, x, _, hd, h0, h1 => by
    have := sumR_set r d x (by simpa using hd) h0 (by simpa [outGet] using h1)
    simp [sumT, outSet] at this ⊢; omega
  | r :: T, i + 1, d, x, h, hd, h0, h1 => by
    have := sumT_set T i d x (by simpa using h) (by simpa using hd) h0 (by simpa [outGet] using h1)
    simp [sumT, outSet] at this ⊢; omega

/-- each number of a table is what some way costs, or the great number -/
structure TabS (g : Gr) (to : Int × Int) (T : List (List Int)) : Prop where
  len : T.length = g.w * g.h
  row : ∀ i, i < g.w * g.h → (T.getD i []).length = 4
  val : ∀ i d, i < g.w * g.h → d < 4 → outGet T i d = big ∨ (Wk g to (cellP g i) d (outGet T i d) ∧ outGet T i d < big)
  top : ∀ d, d < 4 → outGet T (indexP g to).toNat d = 0
theorem TabS.four {g : Gr} {to : Int × Int} {T : List (List Int)} (h : TabS g to T) : Four T := fun r hr => by
  obtain ⟨i, hi, rfl⟩ := List.mem_iff_getElem.1 hr
  have := h.row i (by rw [← h.len]; exact hi)
  rwa [List.getD_eq_getElem?_getD, List.getElem?_eq_getElem hi] at this
theorem TabS.range {g : Gr} (hg : GrOk g) {to : Int × Int} {T : List (List Int)} (h : TabS g to T) {i d : Nat} (hi : i < g.w * g.h) (hd : d < 4) : 0 ≤ outGet T i d ∧ outGet T i d ≤ big := by
  rcases h.val i d hi hd with h1 | ⟨h1, h2⟩
  · rw [h1]; decide
  · exact ⟨h1.nonneg hg, Int.le_of_lt h2⟩
/-- what a step costs by a table -/
def tabV (g : Gr) (T : List (List Int)) (i d e : Nat) : Int := outGet T (indexP g (besideP (cellP g i) d)).toNat d + stepP g e d
theorem index_ne {g : Gr} (hg : GrOk g) {i d : Nat} (hd : d < 4) (hon : onP g.w g.h (besideP (cellP g i) d) = true) : (indexP g (besideP (cellP g i) d)).toNat ≠ i := fun e => by
  have h1 := cell_index hg hon
  rw [e] at h1
  have h2 : ∀ c : Int × Int, besideP c d ≠ c := fun c hc => by
    obtain ⟨x, y⟩ := c
    rcases (by omega : d = 0 ∨ d = 1 ∨ d = 2 ∨ d = 3) with rfl | rfl | rfl | rfl <;> simp [besideP] at hc <;> omega
  exact h2 _ h1.symm
theorem tab_relax {g : Gr} (hg : GrOk g) {to : Int × Int} {T : List (List Int)} (h : TabS g to T) {i d e : Nat} (hi : i < g.w * g.h) (hd : d < 4) (he : e < 4) (ho : openP g (cellP g i) = true) (hn : onP g.w g.h (besideP (cellP g i) d) = true) (hlt : tabV g T i d e < outGet T i e) :
    TabS g to (outSet T i e (tabV g T i d e)) ∧ sumT (outSet T i e (tabV g T i d e)) < sumT T ∧ outGet (outSet T i e (tabV g T i d e)) (indexP g (besideP (cellP g i) d)).toNat d = outGet T (indexP g (besideP (cellP g i) d)).toNat d := by
  have hix := hg.index hn
  have hj : (indexP g (besideP (cellP g i) d)).toNat < g.w * g.h := by have := hix.2.2.2.2; omega
  have hr := h.range hg hi he
  have hs := stepP_le hg e d
  have hrj := h.range hg hj hd
  have hget : ∀ j f, outGet (outSet T i e (tabV g T i d e)) j f = if j = i ∧ f = e then tabV g T i d e else outGet T j f := outSet_get (by rw [h.len]; exact hi) (by rw [h.row i hi]; exact he)
  have h0 : 0 ≤ tabV g T i d e := by unfold tabV; omega
  have hw : Wk g to (cellP g i) e (tabV g T i d e) := by
    rcases h.val _ d hj hd with h1 | ⟨h1, h2⟩
    · unfold tabV at hlt; rw [h1] at hlt; omega
    · rw [cell_index hg hn] at h1
      have h3 := Wk.step _ d _ e h1 (by rw [beside_back' _ hd]; exact ho) he
      rw [beside_back' _ hd] at h3
      exact h3
  refine ⟨⟨by rw [outSet_len]; exact h.len, fun j hj => by rw [outSet_row]; exact h.row j hj, fun j f hj hf => ?_, fun f hf => ?_⟩, sumT_set _ _ _ _ (by rw [h.len]; exact hi) (by rw [h.row i hi]; exact he) h0 hlt, ?_⟩
  · rw [hget]
    split
    · next hjf => obtain ⟨rfl, rfl⟩ := hjf; exact .inr ⟨hw, by omega⟩
    · exact h.val j f hj hf
  · rw [hget]
    split
    · next hjf =>
      obtain ⟨h1, rfl⟩ := hjf
      have := h.top f hf
      rw [h1] at this
      omega
    · exact h.top f hf
  · rw [hget, if_neg (fun hh => index_ne hg hd hn hh.1)]
def okDir (g : Gr) (T : List (List Int)) (i d : Nat) : Prop := openP g (besideP (cellP g i) d) = true → ∀ e, e < 4 → outGet T i e ≤ tabV g T i d e
def okCell (g : Gr) (T : List (List Int)) (i : Nat) : Prop := openP g (cellP g i) = true → ∀ d, d < 4 → okDir g T i d
def Closed (g : Gr) (T : List (List Int)) : Prop := ∀ i, i < g.w * g.h → okCell g T i
/-- a pass over the table: nothing has changed, and all that was seen is right; or something has -/
structure Pass (g : Gr) (to : Int × Int) (T0 T : List (List Int)) (b : Bool) (P : Prop) : Prop where
  same : b = false → T = T0 ∧ P
  less : b = true → sumT T < sumT T0
  tab : TabS g to T
theorem Pass.imp {g : Gr} {to : Int × Int} {T0 T : List (List Int)} {b : Bool} {P Q : Prop} (h : Pass g to T0 T b P) (hpq : P → Q) : Pass g to T0 T b Q := ⟨fun hb => ⟨(h.same hb).1, hpq (h.same hb).2⟩, h.less, h.tab⟩
theorem Pass.relax {g : Gr} (hg : GrOk g) {to : Int × Int} {T0 T : List (List Int)} {b : Bool} {P : Prop} (h : Pass g to T0 T b P) {i d e : Nat} (hi : i < g.w * g.h) (hd : d < 4) (he : e < 4) (ho : openP g (cellP g i) = true) (hn : onP g.w g.h (besideP (cellP g i) d) = true) (hlt : tabV g T i d e < outGet T i e) (Q : Prop) :
    Pass g to T0 (outSet T i e (tabV g T i d e)) true Q ∧ outGet (outSet T i e (tabV g T i d e)) (indexP g (besideP (cellP g i) d)).toNat d = outGet T (indexP g (besideP (cellP g i) d)).toNat d := by
  obtain ⟨h1, h2, h3⟩ := tab_relax hg h.tab hi hd he ho hn hlt
  refine ⟨⟨(fun hb => absurd hb (by decide)), (fun _ => ?_), h1⟩, h3⟩
  cases b with
  | false => rw [← (h.same rfl).1]; exact h2
  | true => exact Nat.lt_trans h2 (h.less rfl)

/-- a table that nothing changes holds the least costs -/
theorem tab_field {g : Gr} (hg : GrOk g) {to : Int × Int} (ht : openP g to = true) {T : List (List Int)} (h : TabS g to T) (hc : Closed g T) {i d : Nat} (hi : i < g.w * g.h) (hd : d < 4) :
    outGet T i d = if 0 ≤ outGet (fieldP g to) i d then outGet (fieldP g to) i d else big := by
  have hle : ∀ c d v, Wk g to c d v → outGet T (indexP g c).toNat d ≤ v := fun c d v hw => by
    induction hw with
    | base d hd => rw [h.top d hd]; exact Int.le_refl _
    | step c d v e hw ho he ih =>
      have hon := openP_on ho
      have hix := hg.index hon
      have hj : (indexP g (besideP c (d + 2))).toNat < g.w * g.h := by have := hix.2.2.2.2; omega
      have h1 := hc _ hj
      unfold okCell at h1
      rw [cell_index hg hon] at h1
      have h2 := h1 ho d hw.dir
      unfold okDir tabV at h2
      rw [cell_index hg hon, beside_back c hw.dir] at h2
      have h3 := h2 (hw.op ht) e he
      omega
  have hci := cell_on hg hi
  have hidx : (indexP g (cellP g i)).toNat = i := by rw [index_cell hg]; exact Int.toNat_natCast i
  by_cases h0 : 0 ≤ outGet (fieldP g to) i d
  · rw [if_pos h0]
    have hs := field_sound hg (openP_on ht) hci hd (by rw [hidx]; exact h0)
    rw [hidx] at hs
    have h1 := hle _ _ _ hs
    rw [hidx] at h1
    have hb : outGet (fieldP g to) i d < big := by
      have h5 := (fieldP_inv hg (openP_on ht)).out i d
      have h6 := hg.cells
      dsimp only at h5
      unfold big
      omega
    rcases h.val i d hi hd with h2 | ⟨h2, _⟩
    · omega
    · have h3 := (field_least hg ht h2).2
      rw [hidx] at h3
      omega
  · rw [if_neg h0]
    rcases h.val i d hi hd with h2 | ⟨h2, _⟩
    · exact h2
    · have h3 := (field_least hg ht h2).1
      rw [hidx] at h3
      exact absurd h3 h0

/-- the table that the document begins with -/
def tab0 (g : Gr) (to : Int × Int) : List (List Int) := (List.replicate (g.w * g.h) [big, big, big, big]).set (indexP g to).toNat [0, 0, 0, 0]
theorem tab0_ok {g : Gr} (hg : GrOk g) {to : Int × Int} (ht : onP g.w g.h to = true) : TabS g to (tab0 g to) := by
  have hix := hg.index ht
  have hj : (indexP g to).toNat < g.w * g.h := by have := hix.2.2.2.2; omega
  have hrow : ∀ i, i < g.w * g.h → (tab0 g to).getD i [] = if i = (indexP g to).toNat then [0, 0, 0, 0] else [big, big, big, big] := fun i hi => by
    unfold tab0
    rw [List.getD_eq_getElem?_getD, List.getElem?_set]
    by_cases e : (indexP g to).toNat = i
    · subst e
      simp [hj]
    · rw [if_neg e, if_neg (fun e' => e e'.symm), List.getElem?_replicate, if_pos hi]
      rfl
  have hv : ∀ i d, i < g.w * g.h → d < 4 → outGet (tab0 g to) i d = if i = (indexP g to).toNat then 0 else big := fun i d hi hd => by
    unfold outGet
    rw [hrow i hi]
    rcases (by omega : d = 0 ∨ d = 1 ∨ d = 2 ∨ d = 3) with rfl | rfl | rfl | rfl <;> split <;> rfl
  refine ⟨by simp [tab0], fun i hi => by rw [hrow i hi]; split <;> rfl, fun i d hi hd => ?_, fun d hd => by rw [hv _ d hj hd, if_pos rfl]⟩
  rw [hv i d hi hd]
  split
  · next e =>
    right
    have : cellP g i = to := by rw [e]; exact cell_index hg ht
    rw [this]
    exact ⟨Wk.base d hd, by decide⟩
  · exact .inl rfl
end Go.Proofs.Ytpakkjkjppibnaa

namespace Go.Proofs.Ytpakkjkjppibnaa
open Go.RowKit

theorem Wk.inv {g : Gr} {to c : Int × Int} {d : Nat} {v : Int} (h : Wk g to c d v) : (c = to ∧ v = 0) ∨ ∃ e u, e < 4 ∧ Wk g to (besideP c e) e u ∧ openP g c = true ∧ v = u + stepP g d e := by
  cases h with
  | base d hd => exact .inl ⟨rfl, rfl⟩
  | step c0 e u d h ho he =>
    refine .inr ⟨e, u, h.dir, ?_, ho, rfl⟩
    rw [beside_back c0 h.dir]; exact h
/-- the field at a cell that was come to by a direction -/
def fAt (g : Gr) (to c : Int × Int) (d : Nat) : Int := outGet (fieldP g to) (indexP g c).toNat d
theorem fAt_wk {g : Gr} (hg : GrOk g) {to : Int × Int} (ht : openP g to = true) {c : Int × Int} {d : Nat} (hc : onP g.w g.h c = true) (hd : d < 4) (h0 : 0 ≤ fAt g to c d) : Wk g to c d (fAt g to c d) := field_sound hg (openP_on ht) hc hd h0
theorem fAt_le {g : Gr} (hg : GrOk g) {to : Int × Int} (ht : openP g to = true) {c : Int × Int} {d : Nat} {v : Int} (h : Wk g to c d v) : 0 ≤ fAt g to c d ∧ fAt g to c d ≤ v := field_least hg ht h
theorem fAt_big {g : Gr} (hg : GrOk g) {to : Int × Int} (ht : openP g to = true) (c : Int × Int) (d : Nat) : fAt g to c d ≤ 7200000 := by
  have h5 := (fieldP_inv hg (openP_on ht)).out (indexP g c).toNat d
  have h6 := hg.cells
  dsimp only at h5
  unfold fAt
  omega
theorem fAt_next {g : Gr} (hg : GrOk g) {to : Int × Int} (ht : openP g to = true) {c : Int × Int} {d : Nat} (hc : openP g c = true) (hd : d < 4) (hne : c ≠ to) (h0 : 0 ≤ fAt g to c d) :
    ∃ e, e < 4 ∧ hitD g (fieldP g to) c d e = true := by
  rcases (fAt_wk hg ht (openP_on hc) hd h0).inv with ⟨h1, _⟩ | ⟨e, u, he, hw, ho, hv⟩
  · exact absurd h1 hne
  · have h1 := fAt_le hg ht hw
    have h2 := Wk.step _ e _ d (fAt_wk hg ht (openP_on (hw.op ht)) he h1.1) (by rw [beside_back' c he]; exact hc) hd
    rw [beside_back' c he] at h2
    have h3 := fAt_le hg ht h2
    refine ⟨e, he, ?_⟩
    unfold hitD
    rw [hw.op ht]
    simp only [Bool.true_and, Bool.and_eq_true, decide_eq_true_eq]
    exact ⟨h1.1, by unfold fAt at *; omega⟩
theorem hitD_iff {g : Gr} {to c : Int × Int} {d e : Nat} : hitD g (fieldP g to) c d e = true ↔ openP g (besideP c e) = true ∧ 0 ≤ fAt g to (besideP c e) e ∧ fAt g to (besideP c e) e + stepP g d e = fAt g to c d := by
  unfold hitD fAt
  simp only [Bool.and_eq_true, decide_eq_true_eq]
theorem findD_hit {g : Gr} {F : List (List Int)} {c : Int × Int} {d : Nat} (h : ∃ e, e < 4 ∧ hitD g F c d e = true) : ∃ e, findD g F c d = some e := by
  obtain ⟨e, he, h⟩ := h
  have : (findD g F c d).isSome = true := by
    unfold findD
    rw [List.find?_isSome]
    exact ⟨e, List.mem_range.2 he, h⟩
  exact Option.isSome_iff_exists.1 this

/-- the way that is walked on from a cell -/
inductive Gw (g : Gr) (to : Int × Int) : Int × Int → Nat → List (Int × Int) → Prop
  | done (d : Nat) : Gw g to to d []
  | go (c : Int × Int) (d e : Nat) (r : List (Int × Int)) (hne : c ≠ to) (hf : findD g (fieldP g to) c d = some e) (h : Gw g to (besideP c e) e r) : Gw g to c d (besideP c e :: r)

theorem walk_ok {g : Gr} (hg : GrOk g) {to : Int × Int} (ht : openP g to = true) : ∀ (k : Nat) (c : Int × Int) (d : Nat), d < 4 → openP g c = true → 0 ≤ fAt g to c d → fAt g to c d < k →
    ∃ r, Gw g to c d r ∧ r.length < k ∧ ∀ f path, k ≤ f → walkP g (fieldP g to) to f path c d = some (path ++ r)
  | 0, _, _, _, _, h0, h1 => by omega
  | k + 1, c, d, hd, hc, h0, h1 => by
    by_cases hne : c = to
    · subst hne
      refine ⟨[], Gw.done d, by simp, fun f path hf => ?_⟩
      obtain ⟨f, rfl⟩ : ∃ f', f = f' + 1 := ⟨f - 1, by omega⟩
      rw [walkP, if_pos rfl, List.append_nil]
    · obtain ⟨e, he⟩ := findD_hit (fAt_next hg ht hc hd hne h0)
      obtain ⟨he4, hhit, _⟩ := findD_some he
      obtain ⟨q1, q2, q3⟩ := hitD_iff.1 hhit
      have hs := stepP_le hg d e
      obtain ⟨r, hr, hl, hw⟩ := walk_ok hg ht k (besideP c e) e he4 q1 q2 (by omega)
      refine ⟨besideP c e :: r, Gw.go c d e r hne he hr, by simpa using hl, fun f path hf => ?_⟩
      obtain ⟨f, rfl⟩ : ∃ f', f = f' + 1 := ⟨f - 1, by omega⟩
      rw [walkP, if_neg hne, he]
      dsimp only
      rw [hw f _ (by omega)]
      simp

/-- the table's number of a cell -/
theorem tab_at {g : Gr} (hg : GrOk g) {to : Int × Int} (ht : openP g to = true) {T : List (List Int)} (h : TabS g to T) (hc : Closed g T) {c : Int × Int} {d : Nat} (hon : onP g.w g.h c = true) (hd : d < 4) :
    outGet T (indexP g c).toNat d = if 0 ≤ fAt g to c d then fAt g to c d else big := by
  have h1 := hg.index hon
  exact tab_field hg ht h hc (by have := h1.2.2.2.2; omega) hd
theorem min4_le (T : List (List Int)) (i d : Nat) (hd : d < 4) : min4 T i ≤ outGet T i d := by
  unfold min4
  rcases (by omega : d = 0 ∨ d = 1 ∨ d = 2 ∨ d = 3) with rfl | rfl | rfl | rfl <;> omega
theorem min4_is (T : List (List Int)) (i : Nat) : ∃ d, d < 4 ∧ min4 T i = outGet T i d := by
  unfold min4
  have h : ∀ a b : Int, min a b = a ∨ min a b = b := fun a b => by omega
  rcases h (outGet T i 0) (min (outGet T i 1) (min (outGet T i 2) (outGet T i 3))) with e | e
  · exact ⟨0, by decide, e⟩
  · rcases h (outGet T i 1) (min (outGet T i 2) (outGet T i 3)) with e1 | e1
    · exact ⟨1, by decide, by rw [e, e1]⟩
    · rcases h (outGet T i 2) (outGet T i 3) with e2 | e2
      · exact ⟨2, by decide, by rw [e, e1, e2]⟩
      · exact ⟨3, by decide, by rw [e, e1, e2]⟩
/-- the least number of the table for a cell, and what begins answers -/
theorem least_begins {g : Gr} (hg : GrOk g) {to : Int × Int} (ht : openP g to = true) {T : List (List Int)} (h : TabS g to T) (hc : Closed g T) {c : Int × Int} (hop : openP g c = true) (hne : c ≠ to) :
    min4 T (indexP g c).toNat = if (beginsP g (fieldP g to) c 4).1 < 0 then big else (beginsP g (fieldP g to) c 4).1 := by
  have hon := openP_on hop
  have hat := fun d hd => tab_at hg ht h hc (d := d) hon hd
  rcases begins_way hg ht c with ⟨h1, h2⟩ | ⟨h1, h2⟩
  · rw [h1, if_pos (by decide)]
    obtain ⟨d, hd, he⟩ := min4_is T (indexP g c).toNat
    rw [he, hat d hd, if_neg]
    intro h0
    rcases (fAt_wk hg ht hon hd h0).inv with ⟨h3, _⟩ | ⟨e, u, he, hw, ho, hv⟩
    · exact hne h3
    · exact h2 _ ⟨e, u, he, hw.op ht, hw, rfl⟩
  · generalize (beginsP g (fieldP g to) c 4).1 = b at *
    have hb := h1.pos hg
    rw [if_neg (by omega)]
    obtain ⟨e, u, he, ho, hw, hv⟩ := h1
    have h3 := Wk.step _ e _ e hw (by rw [beside_back' c he]; exact hop) he
    rw [beside_back' c he] at h3
    have h4 := fAt_le hg ht h3
    have h5 := min4_le T (indexP g c).toNat e he
    rw [hat e he, if_pos h4.1] at h5
    have h6 : stepP g e e = g.move := by unfold stepP; rw [if_pos rfl]
    obtain ⟨d, hd, h7⟩ := min4_is T (indexP g c).toNat
    rw [hat d hd] at h7
    have h8 := fAt_big hg ht c e
    by_cases h0 : 0 ≤ fAt g to c d
    · rw [if_pos h0] at h7
      rcases (fAt_wk hg ht hon hd h0).inv with ⟨h9, _⟩ | ⟨e', u', he', hw', ho', hv'⟩
      · exact absurd h9 hne
      · have h10 := h2 _ ⟨e', u', he', hw'.op ht, hw', rfl⟩
        have h11 : g.move ≤ stepP g d e' := by unfold stepP; have := hg.b1; split <;> omega
        omega
    · rw [if_neg h0] at h7
      unfold big at h7
      omega
theorem least_to {g : Gr} (hg : GrOk g) {to : Int × Int} (ht : openP g to = true) {T : List (List Int)} (h : TabS g to T) : min4 T (indexP g to).toNat = 0 := by
  have hix := hg.index (openP_on ht)
  obtain ⟨d, hd, he⟩ := min4_is T (indexP g to).toNat
  rw [he, h.top d hd]
/-- what the document's Far says of a cell -/
theorem far_tab {g : Gr} (hg : GrOk g) {to : Int × Int} (ht : openP g to = true) {T : List (List Int)} (h : TabS g to T) (hc : Closed g T) {i : Nat} (hi : i < g.w * g.h) :
    farCell g (fieldP g to) to i = if big ≤ min4 T i then -1 else min4 T i := by
  have hidx : (indexP g (cellP g i)).toNat = i := by rw [index_cell hg]; exact Int.toNat_natCast i
  have hon := cell_on hg hi
  unfold farCell
  by_cases he : cellP g i = to
  · rw [if_pos he]
    have := least_to hg ht h
    rw [← he, hidx] at this
    rw [this]; rfl
  · rw [if_neg he]
    cases ho : openP g (cellP g i) with
    | true =>
      have := least_begins hg ht h hc ho he
      rw [hidx] at this
      rw [if_pos rfl, this]
      rcases begins_way hg ht (cellP g i) with ⟨h1, h2⟩ | ⟨h1, h2⟩
      · rw [h1]; rfl
      · have h3 := h1.pos hg
        obtain ⟨e, u, he, ho, hw, hv⟩ := h1
        have h4 := fAt_le hg ht hw
        have h6 := h2 _ ⟨e, _, he, ho, fAt_wk hg ht (openP_on ho) he h4.1, rfl⟩
        have h8 := fAt_big hg ht (besideP (cellP g i) e) e
        have h9 := hg.m2
        rw [if_neg (by omega : ¬ (beginsP g (fieldP g to) (cellP g i) 4).1 < 0), if_neg (by unfold big; omega)]
    | false =>
      rw [if_neg (by decide)]
      obtain ⟨d, hd, he2⟩ := min4_is T i
      rw [he2]
      have h1 := tab_at hg ht h hc hon hd
      rw [hidx] at h1
      have h0 : ¬ 0 ≤ fAt g to (cellP g i) d := fun h0 => by
        have := (fAt_wk hg ht hon hd h0).op ht
        rw [ho] at this
        cases this
      rw [h1, if_neg h0, if_pos (Int.le_refl _)]
/-- the document's test of a direction is the program's -/
theorem ref_hit {g : Gr} (hg : GrOk g) {to : Int × Int} (ht : openP g to = true) {T : List (List Int)} (h : TabS g to T) (hc : Closed g T) {c : Int × Int} {d e : Nat} (he : e < 4) (ho : openP g (besideP c e) = true) :
    decide (stepP g d e + outGet T (indexP g (besideP c e)).toNat e = fAt g to c d) = hitD g (fieldP g to) c d e := by
  have h1 := tab_at hg ht h hc (openP_on ho) he
  have h2 := fAt_big hg ht c d
  have h3 := stepP_le hg d e
  rw [h1]
  rw [Bool.eq_iff_iff, hitD_iff, decide_eq_true_eq]
  constructor
  · intro h4
    split at h4
    · exact ⟨ho, by assumption, by omega⟩
    · unfold big at h4; omega
  · rintro ⟨_, h4, h5⟩
    rw [if_pos h4]; omega
/-- and so it is for the first step -/
theorem ref_first {g : Gr} (hg : GrOk g) {to : Int × Int} (ht : openP g to = true) {T : List (List Int)} (h : TabS g to T) (hc : Closed g T) {c : Int × Int} {b : Int} {d0 : Nat} (hb : beginsP g (fieldP g to) c 4 = (b, (d0 : Int))) (h0 : 0 ≤ b) :
    d0 < 4 ∧ openP g (besideP c d0) = true ∧ 0 ≤ fAt g to (besideP c d0) d0 ∧ b = g.move + fAt g to (besideP c d0) d0 ∧
    (g.move + outGet T (indexP g (besideP c d0)).toNat d0 = b) ∧ ∀ e, e < d0 → openP g (besideP c e) = true → g.move + outGet T (indexP g (besideP c e)).toNat e ≠ b := by
  have hm2 := hg.m2
  rcases begins_spec hg (fieldP g to) c 4 with ⟨h1, _⟩ | ⟨d, h1, h2, h3, h4, h5, h6⟩
  · rw [hb] at h1
    injection h1 with h1 _
    omega
  · rw [hb] at h3
    injection h3 with h3 h3'
    obtain rfl : d0 = d := by omega
    have h7 := h2
    unfold hitB at h7
    simp only [Bool.and_eq_true, decide_eq_true_eq] at h7
    have h8 : b = g.move + fAt g to (besideP c d0) d0 := h3
    have h9 := fAt_big hg ht (besideP c d0) d0
    refine ⟨h1, h7.1, h7.2, h8, ?_, fun e he ho hh => ?_⟩
    · rw [tab_at hg ht h hc (openP_on h7.1) h1, if_pos (show 0 ≤ fAt g to (besideP c d0) d0 from h7.2), h8]
    · rw [tab_at hg ht h hc (openP_on ho) (by omega)] at hh
      by_cases h0 : 0 ≤ fAt g to (besideP c e) e
      · rw [if_pos h0] at hh
        have h10 : hitB g (fieldP g to) c e = true := by
          unfold hitB; rw [ho, decide_eq_true (show 0 ≤ outGet (fieldP g to) (indexP g (besideP c e)).toNat e from h0)]; rfl
        have := h6 e he h10
        unfold stepV at this h3
        unfold fAt at hh
        omega
      · rw [if_neg h0] at hh
        unfold big at hh
        omega
end Go.Proofs.Ytpakkjkjppibnaa

/- Benes: whether a switch may be set so; a tie the other way; whether a tie may be set. -/
import Derived.Test.YtelnlmhelkcliaaBTies
namespace Go.Proofs.Ytelnlmhelkcliaa
open Go.RowKit

theorem RG.froz {w w' : World} {b r N : Nat} {F : Nat → Option Bool} {left : Nat → Bool} (h : RG w b r N F left) (hg : w.grownBy w' (some r)) {a : Addr} {v : Value} (hc : w.cell? a = some v) (hf : w.frozen? a = false) : w'.frozen? a = false := by
  have hne := h.nocell hc
  have := hg.block _ (World.block_lt_of_cell? _ _ hc) (fun e => hne (Option.some.inj e))
  unfold World.frozen? at hf ⊢
  rw [this]
  exact hf
theorem RG.cellg {w w' : World} {b r N : Nat} {F : Nat → Option Bool} {left : Nat → Bool} (h : RG w b r N F left) (hg : w.grownBy w' (some r)) {a : Addr} {v : Value} (hc : w.cell? a = some v) : w'.cell? a = some v := by
  have hne := h.nocell hc
  exact (World.cell?_of_block (hg.block _ (World.block_lt_of_cell? _ _ hc) (fun e => hne (Option.some.inj e)))).trans hc
section
variable (w : World) {ops : Array Oper} {rest : List Oper} {o : Oper} {a : Act} {Q : Exit → Act → World → Prop}
/-- the step, with a cell and a row of cells carried over -/
theorem wp_mb_nextD (hg : o.guard = none) (it : Operand) (hop : o.op = Op.next it false) (b r N : Nat) (F : Nat → Option Bool) (left : Nat → Bool) (A : Addr) (u : Value) (hA : w.cell? A = some u) (G : Nat → Addr) (H : Nat → Value) (hG : ∀ j, j < N → w.cell? (G j) = some (H j)) (hit : a.eval it = .pointer (some ⟨r, 0, none⟩)) (h : RG w b r N F left)
    (hDone : (∀ j, left j = false) → wpList Try.prog ops Q rest (a.put o.dst (.tuple #[.bool false])) w)
    (hMore : ∀ (j : Nat) (v : Bool) (w' : World), left j = true → F j = some v → j < N → RG w' b r N F (fun i => left i && decide (i ≠ j)) → w'.rangeLeft b r < w.rangeLeft b r → w.grownBy w' (some r) → w'.heap.size = w.heap.size →
      (Instr.entry (.pointer (some ⟨r, 0, none⟩))).run Try.prog w' = .ok (.tuple #[.int .i64 (j : Int), .bool v]) w' → w'.cell? A = some u → w'.cell? (G j) = some (H j) → wpList Try.prog ops Q rest (a.put o.dst (.tuple #[.bool true, .int .i64 (j : Int), .bool v])) w') :
    wpList Try.prog ops Q (o :: rest) a w :=
  wp_mb_next w hg it hop b r N F left hit h hDone (fun j v w' h1 h2 h3 h4 h5 h6 h7 h8 => hMore j v w' h1 h2 h3 h4 h5 h6 h7 h8 (h.cellg h6 hA) (h.cellg h6 (hG j h3)))
end
section
variable {Fc : Fence} {n : Nat} (w : World) {ops : Array Oper} {rest : List Oper} {o : Oper} {a : Act} {Q : Exit → Act → World → Prop}
/-- .. within a fence; the row may be written -/
theorem wpi_mb_nextD (hg : o.guard = none) (it : Operand) (hop : o.op = Op.next it false) (b r N : Nat) (F : Nat → Option Bool) (left : Nat → Bool) (A : Addr) (u : Value) (hA : w.cell? A = some u) (G : Nat → Addr) (H : Nat → Value) (hG : ∀ j, j < N → w.cell? (G j) = some (H j)) (hFz : ∀ j, j < N → w.frozen? (G j) = false) (hit : a.eval it = .pointer (some ⟨r, 0, none⟩)) (h : RG w b r N F left)
    (hDone : (∀ j, left j = false) → wpListIn Fc n Try.prog ops Q rest (a.put o.dst (.tuple #[.bool false])) w)
    (hMore : ∀ (j : Nat) (v : Bool) (w' : World), left j = true → F j = some v → j < N → RG w' b r N F (fun i => left i && decide (i ≠ j)) → w'.rangeLeft b r < w.rangeLeft b r → w.grownBy w' (some r) → w'.heap.size = w.heap.size →
      (Instr.entry (.pointer (some ⟨r, 0, none⟩))).run Try.prog w' = .ok (.tuple #[.int .i64 (j : Int), .bool v]) w' → w'.cell? A = some u → w'.cell? (G j) = some (H j) → w'.frozen? (G j) = false → wpListIn Fc n Try.prog ops Q rest (a.put o.dst (.tuple #[.bool true, .int .i64 (j : Int), .bool v])) w') :
    wpListIn Fc n Try.prog ops Q (o :: rest) a w :=
  wpi_mb_next w hg it hop b r N F left hit h hDone (fun j v w' h1 h2 h3 h4 h5 h6 h7 h8 => hMore j v w' h1 h2 h3 h4 h5 h6 h7 h8 (h.cellg h6 hA) (h.cellg h6 (hG j h3)) (h.froz h6 (hG j h3) (hFz j h3)))
end

theorem agrees_any (st : Int) (b : Bool) (w : World) : Calls Try.prog 77 #[.int .i64 st, .bool b] w fun e w' => e = .returned (.bool (mayB st b)) ∧ w = w' := by
  cases h0 : (st == 0) with
  | true =>
    have HR : Hid (mayB st b = true) := Lib.hid (by unfold mayB; rw [h0]; rfl)
    go_enter Try.func77, Try.ntmps77
    go_wp2_with fail
    go_ret
    exact ⟨by rw [HR.out]; rfl, rfl⟩
  | false =>
    cases h2 : (st == 2) with
    | true =>
      cases b with
      | false =>
        have HR : Hid (mayB st false = false) := Lib.hid (by unfold mayB; rw [h0, h2]; rfl)
        go_enter Try.func77, Try.ntmps77
        go_wp2_with fail
        go_ret
        exact ⟨by rw [HR.out]; rfl, rfl⟩
      | true =>
        have HR : Hid (mayB st true = true) := Lib.hid (by unfold mayB; rw [h0, h2]; rfl)
        go_enter Try.func77, Try.ntmps77
        go_wp2_with fail
        go_ret
        exact ⟨by rw [HR.out]; rfl, rfl⟩
    | false =>
      cases b with
      | false =>
        have HR : Hid (mayB st false = true) := Lib.hid (by unfold mayB; rw [h0, h2]; rfl)
        go_enter Try.func77, Try.ntmps77
        go_wp2_with fail
        go_ret
        exact ⟨by rw [HR.out]; rfl, rfl⟩
      | true =>
        have HR : Hid (mayB st true = false) := Lib.hid (by unfold mayB; rw [h0, h2]; rfl)
        go_enter Try.func77, Try.ntmps77
        go_wp2_with fail
        go_ret
        exact ⟨by rw [HR.out]; rfl, rfl⟩
theorem may_any (st : Int) (b : Bool) (w : World) : Calls Try.prog 59 #[.int .i64 st, .bool b] w fun e w' => e = .returned (.bool (mayB st b)) ∧ w = w' := by
  cases h0 : (st == 0) with
  | true =>
    have HR : Hid (mayB st b = true) := Lib.hid (by unfold mayB; rw [h0]; rfl)
    go_enter Try.func59, Try.ntmps59
    go_wp2_with fail
    go_ret
    exact ⟨by rw [HR.out]; rfl, rfl⟩
  | false =>
    cases h2 : (st == 2) with
    | true =>
      cases b with
      | false =>
        have HR : Hid (mayB st false = false) := Lib.hid (by unfold mayB; rw [h0, h2]; rfl)
        go_enter Try.func59, Try.ntmps59
        go_wp2_with fail
        go_ret
        exact ⟨by rw [HR.out]; rfl, rfl⟩
      | true =>
        have HR : Hid (mayB st true = true) := Lib.hid (by unfold mayB; rw [h0, h2]; rfl)
        go_enter Try.func59, Try.ntmps59
        go_wp2_with fail
        go_ret
        exact ⟨by rw [HR.out]; rfl, rfl⟩
    | false =>
      cases b with
      | false =>
        have HR : Hid (mayB st false = true) := Lib.hid (by unfold mayB; rw [h0, h2]; rfl)
        go_enter Try.func59, Try.ntmps59
        go_wp2_with fail
        go_ret
        exact ⟨by rw [HR.out]; rfl, rfl⟩
      | true =>
        have HR : Hid (mayB st true = false) := Lib.hid (by unfold mayB; rw [h0, h2]; rfl)
        go_enter Try.func59, Try.ntmps59
        go_wp2_with fail
        go_ret
        exact ⟨by rw [HR.out]; rfl, rfl⟩

/-- while a table is written the other way -/
def notL (F : Nat → Option Bool) (left : Nat → Bool) : Nat → Option Bool := fun j => if left j then none else (F j).map (· ^^ true)
theorem notL_start (F : Nat → Option Bool) : notL F (fun j => (F j).isSome) = fun _ => none := by
  funext j
  show (if (F j).isSome = true then none else (F j).map (· ^^ true)) = none
  cases F j <;> rfl
theorem notL_end (F : Nat → Option Bool) {left : Nat → Bool} (h : ∀ j, left j = false) : notL F left = fun j => (F j).map (· ^^ true) := by
  funext j; unfold notL; rw [h j]; rfl
theorem notL_step {F : Nat → Option Bool} {left : Nat → Bool} {x : Nat} {v : Bool} (hf : F x = some v) : upd (notL F left) x (!v) = notL F (fun i => left i && decide (i ≠ x)) := by
  funext j
  unfold upd notL
  by_cases hj : j = x
  · subst hj; rw [if_pos rfl, hf]; simp
  · rw [if_neg hj]; simp [hj]

theorem MB.setCell {w : World} {b N : Nat} {F : Nat → Option Bool} (h : MB w b N F) {a : Addr} (ha : b ≠ a.block) (u : Value) : MB (w.setCell a u) b N F := by
  obtain ⟨D, h1, h2⟩ := h
  exact ⟨D, h1.setCell ha u, h2⟩
theorem froz_block {W : World} {b o : Nat} {cur : Array Value} {e : TypeId} (h : W.heap[b]? = some (.cells cur e)) : W.frozen? ⟨b, o, none⟩ = false := by
  unfold World.frozen?; rw [h]; rfl
/-- the cells of flipped: what came in, the result, the new tie -/
def FlC (W : World) (B b1 b2 c1 c2 : Nat) : Prop := W.cell? ⟨B, 0, none⟩ = some (.map (some b1)) ∧ W.cell? ⟨B, 1, none⟩ = some (.map (some b2)) ∧ W.cell? ⟨B + 1, 0, none⟩ = some (.map none) ∧ W.cell? ⟨B + 1, 1, none⟩ = some (.map none) ∧
  W.cell? ⟨B + 1 + 1 + 1 + 1, 0, none⟩ = some (.map (some c1)) ∧ W.cell? ⟨B + 1 + 1 + 1 + 1, 1, none⟩ = some (.map (some c2))
theorem FlC.kp {W W' : World} {B b1 b2 c1 c2 x y : Nat} (h : FlC W B b1 b2 c1 c2) (k : Kp2 x y W W') (hx : B + 1 < x ∧ x ≠ B + 1 + 1 + 1 + 1) (hy : B + 1 < y ∧ y ≠ B + 1 + 1 + 1 + 1) : FlC W' B b1 b2 c1 c2 := by
  obtain ⟨h1, h2, h3, h4, h5, h6⟩ := h
  exact ⟨k.cell h1 (by dsimp only; omega) (by dsimp only; omega), k.cell h2 (by dsimp only; omega) (by dsimp only; omega), k.cell h3 (by dsimp only; omega) (by dsimp only; omega), k.cell h4 (by dsimp only; omega) (by dsimp only; omega), k.cell h5 (by dsimp only; omega) (by dsimp only; omega), k.cell h6 (by dsimp only; omega) (by dsimp only; omega)⟩
theorem Kp2.of_none {b1 b2 : Nat} {w w' : World} (h : w.grownBy w' none) : Kp2 b1 b2 w w' := ⟨h.os, h.tape, h.output, h.size, fun i hi _ _ => h.block i hi (by simp)⟩

set_option maxRecDepth 100000 in
set_option maxHeartbeats 1000000 in
theorem flipped_any (m b1 b2 : Nat) (t : FL) (w : World) (hm : m ≤ 8) (h1 : MB w b1 m t.1) (h2 : MB w b2 m t.2) :
    Calls Try.prog 80 #[.agg #[.map (some b1), .map (some b2)]] w fun e w' => (∃ c1 c2, e = .returned (.agg #[.map (some c1), .map (some c2)]) ∧ w.heap.size ≤ c1 ∧ w.heap.size ≤ c2 ∧ c1 ≠ c2 ∧ MB w' c1 m (flipT true t).1 ∧ MB w' c2 m (flipT true t).2) ∧ Below w.heap.size w w' := by
  have hmm := @run_makeMap Try.prog
  have l1 := h1.lt
  have l2 := h2.lt
  obtain ⟨F, L⟩ := t
  dsimp only at h1 h2
  have H1 := Lib.hid h1
  have H2 := Lib.hid h2
  clear h1 h2
  have hbe : Below w.heap.size w (((((w.alloc (.cells #[.map (some b1), .map (some b2)] 101)).alloc (.cells #[.map none, .map none] 101)).alloc (.map #[] 0)).alloc (.map #[] 0)).alloc (.cells #[.map (some (w.heap.size + 1 + 1)), .map (some (w.heap.size + 1 + 1 + 1))] 101)) := (((((Below.refl _ _).alloc (Nat.le_refl _) _).alloc (by simp) _).alloc (by simp; omega) _).alloc (by simp; omega) _).alloc (by simp; omega) _
  have HM1 := Lib.hid (H1.out.below hbe)
  have HM2 := Lib.hid (H2.out.below hbe)
  have HN1 : Hid (MB (((((w.alloc (.cells #[.map (some b1), .map (some b2)] 101)).alloc (.cells #[.map none, .map none] 101)).alloc (.map #[] 0)).alloc (.map #[] 0)).alloc (.cells #[.map (some (w.heap.size + 1 + 1)), .map (some (w.heap.size + 1 + 1 + 1))] 101)) (w.heap.size + 1 + 1) m (fun _ => none)) := Lib.hid (by
    have h := ((MB.made ((w.alloc (.cells #[.map (some b1), .map (some b2)] 101)).alloc (.cells #[.map none, .map none] 101)) (N := m) (by omega)).below ((Below.refl _ _).alloc (Nat.le_refl _) (.map #[] 0))).below ((Below.refl _ _).alloc (Nat.le_refl _) (.cells #[.map (some (w.heap.size + 1 + 1)), .map (some (w.heap.size + 1 + 1 + 1))] 101))
    simpa using h)
  have HN2 : Hid (MB (((((w.alloc (.cells #[.map (some b1), .map (some b2)] 101)).alloc (.cells #[.map none, .map none] 101)).alloc (.map #[] 0)).alloc (.map #[] 0)).alloc (.cells #[.map (some (w.heap.size + 1 + 1)), .map (some (w.heap.size + 1 + 1 + 1))] 101)) (w.heap.size + 1 + 1 + 1) m (fun _ => none)) := Lib.hid (by
    have h := (MB.made (((w.alloc (.cells #[.map (some b1), .map (some b2)] 101)).alloc (.cells #[.map none, .map none] 101)).alloc (.map #[] 0)) (N := m) (by omega)).below ((Below.refl _ _).alloc (Nat.le_refl _) (.cells #[.map (some (w.heap.size + 1 + 1)), .map (some (w.heap.size + 1 + 1 + 1))] 101))
    simpa using h)
  have C0 : Hid (FlC (((((w.alloc (.cells #[.map (some b1), .map (some b2)] 101)).alloc (.cells #[.map none, .map none] 101)).alloc (.map #[] 0)).alloc (.map #[] 0)).alloc (.cells #[.map (some (w.heap.size + 1 + 1)), .map (some (w.heap.size + 1 + 1 + 1))] 101)) w.heap.size b1 b2 (w.heap.size + 1 + 1) (w.heap.size + 1 + 1 + 1)) := Lib.hid
    ⟨cell_alloc (cell_alloc (cell_alloc (cell_alloc (World.cell?_alloc_at _ _ _ _ rfl) _) _) _) _, cell_alloc (cell_alloc (cell_alloc (cell_alloc (World.cell?_alloc_at _ _ _ _ rfl) _) _) _) _,
      cell_alloc (cell_alloc (cell_alloc (World.cell?_alloc_at _ _ _ _ (by simp)) _) _) _, cell_alloc (cell_alloc (cell_alloc (World.cell?_alloc_at _ _ _ _ (by simp)) _) _) _, World.cell?_alloc_at _ _ _ _ (by simp), World.cell?_alloc_at _ _ _ _ (by simp)⟩
  have hz0 : (((((w.alloc (.cells #[.map (some b1), .map (some b2)] 101)).alloc (.cells #[.map none, .map none] 101)).alloc (.map #[] 0)).alloc (.map #[] 0)).alloc (.cells #[.map (some (w.heap.size + 1 + 1)), .map (some (w.heap.size + 1 + 1 + 1))] 101)).heap[w.heap.size + 1]? = some (.cells #[.map none, .map none] 101) := by
    have h0 := heap_alloc_new (w.alloc (.cells #[.map (some b1), .map (some b2)] 101)) (.cells #[.map none, .map none] 101)
    have hsz : (w.alloc (.cells #[.map (some b1), .map (some b2)] 101)).heap.size = w.heap.size + 1 := by simp
    rw [hsz] at h0
    exact (Below.heap_alloc _ _ _ (by simp)).trans ((Below.heap_alloc _ _ _ (by simp)).trans ((Below.heap_alloc _ _ _ (by simp)).trans h0))
  have HBE := Lib.hid hbe
  have hsz : (((((w.alloc (.cells #[.map (some b1), .map (some b2)] 101)).alloc (.cells #[.map none, .map none] 101)).alloc (.map #[] 0)).alloc (.map #[] 0)).alloc (.cells #[.map (some (w.heap.size + 1 + 1)), .map (some (w.heap.size + 1 + 1 + 1))] 101)).heap.size = w.heap.size + 1 + 1 + 1 + 1 + 1 := by simp
  obtain ⟨wE, hE⟩ : ∃ wE, ((((w.alloc (.cells #[.map (some b1), .map (some b2)] 101)).alloc (.cells #[.map none, .map none] 101)).alloc (.map #[] 0)).alloc (.map #[] 0)).alloc (.cells #[.map (some (w.heap.size + 1 + 1)), .map (some (w.heap.size + 1 + 1 + 1))] 101) = wE := ⟨_, rfl⟩
  have HE := Lib.hid hE
  rw [hE] at HM1 HM2 HN1 HN2 C0 HBE hsz hz0
  have Z0 := Lib.hid hz0
  have hge : w.heap.size + 1 + 1 + 1 + 1 + 1 ≤ wE.heap.size := by omega
  clear hE hbe hsz hz0
  go_enter Try.func80, Try.ntmps80
  go_wp2_with (at_range; rw [HE.out]; refine wp_mb_range _ rfl _ rfl b1 m F rfl HM1.out ?_; intro w5 hrg hgr hs5)
  go_frame
  have R5 := Lib.hid hrg
  have K5 : Hid (Kp2 (w.heap.size + 1 + 1) wE.heap.size wE w5) := Lib.hid (Kp2.of_none hgr)
  have N1 := Lib.hid (HN1.out.kept hgr (by simp))
  have N2 := Lib.hid (HN2.out.kept hgr (by simp))
  have M2 := Lib.hid (HM2.out.kept hgr (by simp))
  have C5 := Lib.hid (C0.out.kp K5.out (by omega) (by omega))
  have B5 := Lib.hid (Kp2.below HBE.out K5.out (by omega) (by omega) (by omega))
  clear hrg hgr
  go_loopw [] (fun wr => ∃ left : Nat → Bool, Hid (RG wr b1 wE.heap.size m F left) ∧ Hid (MB wr (w.heap.size + 1 + 1) m (notL F left)) ∧ Hid (Kp2 (w.heap.size + 1 + 1) wE.heap.size w5 wr)) (fun wr => wr.rangeLeft b1 wE.heap.size)
  case atStart => exact ⟨fun j => (F j).isSome, R5, Lib.hid (by rw [notL_start]; exact N1.out), Lib.hid (Kp2.refl _ _ _)⟩
  case round =>
    obtain ⟨left, HG, HH, HK⟩ := hrel
    have Cr := Lib.hid (C5.out.kp HK.out (by omega) (by omega))
    obtain ⟨c0, c1, c2, c3, c4, c5⟩ := Cr.out
    have hltr := World.block_lt_of_cell? _ _ c4
    have M2r := Lib.hid (M2.out.kp HK.out (by omega) (by omega))
    go_wp2_with (first
      | (at_next; refine wp_mb_nextC _ rfl _ rfl b1 wE.heap.size m F left ⟨w.heap.size + 1 + 1 + 1 + 1, 0, none⟩ _ c4 rfl HG.out (fun hl0 => ?_) (fun x vx w6 hlx hfx hxm hrg6 hlt6 hg6 hs6 hen c46 => ?_))
      | (at_mapUpdate; refine wp_mb_store _ rfl _ _ _ rfl (w.heap.size + 1 + 1) m _ x (!vx) rfl (HH.out.kept hg6 (by simp; omega)) hxm rfl rfl ?_; intro w7 hw7 hg7)
      | (at_range; refine wp_mb_range _ rfl _ rfl b2 m L rfl M2r.out ?_; intro w8 hrg8 hgr8 hs8))
    · try go_frame
      have R8 := Lib.hid hrg8
      have K8 : Hid (Kp2 (w.heap.size + 1 + 1) wE.heap.size w5 w8) := Lib.hid (HK.out.trans (Kp2.of_none hgr8))
      have N18 : Hid (MB w8 (w.heap.size + 1 + 1) m (fun j => (F j).map (· ^^ true))) := Lib.hid (by rw [← notL_end F hl0]; exact HH.out.kept hgr8 (by simp))
      have N28 := Lib.hid (N2.out.kp K8.out (by omega) (by omega))
      have C8 := Lib.hid (C5.out.kp K8.out (by omega) (by omega))
      have B8 := Lib.hid (Kp2.below B5.out K8.out (by omega) (by omega) B5.out.size)
      have hr8 : wE.heap.size < wr.heap.size := HG.out.lt
      clear hrg8 hgr8 c0 c1 c2 c3 c4 c5 hl0
      obtain ⟨w1, rfl⟩ : ∃ w1, w1 = wr := ⟨_, rfl⟩
      go_loopw [] (fun wr => ∃ left : Nat → Bool, Hid (RG wr b2 w1.heap.size m L left) ∧ Hid (MB wr (w.heap.size + 1 + 1 + 1) m (notL L left)) ∧ Hid (Kp2 (w.heap.size + 1 + 1 + 1) w1.heap.size w8 wr)) (fun wr => wr.rangeLeft b2 w1.heap.size)
      case atStart => exact ⟨fun j => (L j).isSome, R8, Lib.hid (by rw [notL_start]; exact N28.out), Lib.hid (Kp2.refl _ _ _)⟩
      case round =>
        obtain ⟨left2, HG2, HH2, HK2⟩ := hrel
        have Cr2 := Lib.hid (C8.out.kp HK2.out (by omega) (by omega))
        have B9 := Lib.hid (Kp2.below B8.out HK2.out (by omega) (by omega) B8.out.size)
        have N19 := Lib.hid (N18.out.kp HK2.out (by omega) (by omega))
        obtain ⟨c0, c1, c2, c3, c4, c5⟩ := Cr2.out
        have hltr2 := World.block_lt_of_cell? _ _ c4
        have hltr3 := World.block_lt_of_cell? _ _ c2
        have hz1 : wr.heap[w.heap.size + 1]? = some (.cells #[.map none, .map none] 101) :=
          (HK2.out.block _ (by have := K8.out.size; have := K5.out.size; omega) (by omega) (by omega)).trans ((K8.out.block _ (by have := K5.out.size; omega) (by omega) (by omega)).trans ((K5.out.block _ (by omega) (by omega) (by omega)).trans Z0.out))
        have f0 : wr.frozen? ⟨w.heap.size + 1, 0, none⟩ = false := froz_block hz1
        have f1 : wr.frozen? ⟨w.heap.size + 1, 1, none⟩ = false := froz_block hz1
        clear hz1
        go_wp2_with (first
          | (at_next; refine wp_mb_nextC _ rfl _ rfl b2 w1.heap.size m L left2 ⟨w.heap.size + 1 + 1 + 1 + 1, 1, none⟩ _ c5 rfl HG2.out (fun hl0 => ?_) (fun x vx w6 hlx hfx hxm hrg6 hlt6 hg6 hs6 hen c46 => ?_))
          | (at_mapUpdate; refine wp_mb_store _ rfl _ _ _ rfl (w.heap.size + 1 + 1 + 1) m _ x (!vx) rfl (HH2.out.kept hg6 (by simp; omega)) hxm rfl rfl ?_; intro w7 hw7 hg7))
        · have k1 : (wr.setCell ⟨w.heap.size + 1, 0, none⟩ (.map (some (w.heap.size + 1 + 1)))).cell? ⟨w.heap.size + 1, 0, none⟩ = some (.map (some (w.heap.size + 1 + 1))) := World.cell?_setCell_same _ _ _ c2
          have k2 : ((wr.setCell ⟨w.heap.size + 1, 0, none⟩ (.map (some (w.heap.size + 1 + 1)))).setCell ⟨w.heap.size + 1, 1, none⟩ (.map (some (w.heap.size + 1 + 1 + 1)))).cell? ⟨w.heap.size + 1, 1, none⟩ = some (.map (some (w.heap.size + 1 + 1 + 1))) :=
            World.cell?_setCell_same _ _ _ ((World.cell?_setCell_other _ _ _ _ (by simp)).trans c3)
          refine bodyPost_ret (v := .agg #[.map (some (w.heap.size + 1 + 1)), .map (some (w.heap.size + 1 + 1 + 1))]) (by simp [results, Try.results80, go_sem, k1, k2]) rfl ?_
          refine ⟨⟨_, _, rfl, by omega, by omega, by omega, ?_, ?_⟩, ?_⟩
          · exact (N19.out.setCell (by dsimp only; omega) _).setCell (by dsimp only; omega) _
          · have e := notL_end L hl0
            have h := HH2.out
            rw [e] at h
            exact (h.setCell (by dsimp only; omega) _).setCell (by dsimp only; omega) _
          · exact (B9.out.setCell (p := ⟨w.heap.size + 1, 0, none⟩) (by dsimp only; omega) _).setCell (p := ⟨w.heap.size + 1, 1, none⟩) (by dsimp only; omega) _
        · have h7 := hrg6.kept hg7 (by simp; omega) (by simp; omega)
          have hK7 := (HK2.out.trans (Kp2.of_grown2 (b1 := w.heap.size + 1 + 1 + 1) hg6)).trans (Kp2.of_grown1 (b2 := w1.heap.size) hg7)
          go_roundw
          case rel => exact ⟨fun i => left2 i && decide (i ≠ x), Lib.hid h7.1, Lib.hid (by rw [← notL_step hfx]; exact hw7), Lib.hid hK7⟩
          case measure => rw [h7.2]; exact hlt6
    · have h7 := hrg6.kept hg7 (by simp; omega) (by simp; omega)
      have hK7 := (HK.out.trans (Kp2.of_grown2 (b1 := w.heap.size + 1 + 1) hg6)).trans (Kp2.of_grown1 (b2 := wE.heap.size) hg7)
      go_roundw
      case rel => exact ⟨fun i => left i && decide (i ≠ x), Lib.hid h7.1, Lib.hid (by rw [← notL_step hfx]; exact hw7), Lib.hid hK7⟩
      case measure => rw [h7.2]; exact hlt6
end Go.Proofs.Ytelnlmhelkcliaa

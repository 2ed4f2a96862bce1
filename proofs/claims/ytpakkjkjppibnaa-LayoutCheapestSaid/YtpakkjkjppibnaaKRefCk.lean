/- Layout: the document's toward and has.
   Layout: the document's check.
   Layout: the document's check, walked. -/
import Derived.Test.YtpakkjkjppibnaaKCheck
namespace Go.Proofs.Ytpakkjkjppibnaa
open Go.RowKit

def nextW (c : Ce) (d : Nat) : Ce := if d = 0 then (wrap64 (c.1 + 1), c.2) else if d = 1 then (c.1, wrap64 (c.2 + 1)) else if d = 2 then (wrap64 (c.1 - 1), c.2) else (c.1, wrap64 (c.2 - 1))
def gtD (a b : Ce) (d : Nat) : Bool := if d = 0 then decide (a.1 < b.1) else if d = 1 then decide (a.2 < b.2) else if d = 2 then decide (b.1 < a.1) else decide (b.2 < a.2)
def hitT (a b : Ce) (d : Nat) : Bool := decide (nextW a d = b) && gtD a b d
theorem hitT_iff {a b : Ce} (k1 : (Lit.int .i64 a.1).wf = true) (k2 : (Lit.int .i64 a.2).wf = true) (k3 : (Lit.int .i64 b.1).wf = true) (k4 : (Lit.int .i64 b.2).wf = true) {d : Nat} (hd : d < 4) : hitT a b d = true ↔ b = besideP a d := by
  obtain ⟨x, y⟩ := a
  obtain ⟨x', y'⟩ := b
  simp [Lit.wf, IntKind.min, IntKind.max, IntKind.signed, IntKind.bits] at k1 k2 k3 k4
  unfold hitT nextW gtD
  rcases (by omega : d = 0 ∨ d = 1 ∨ d = 2 ∨ d = 3) with rfl | rfl | rfl | rfl <;> simp [besideP, wrap64] <;> omega
theorem hitT_tow {a b : Ce} (k1 : (Lit.int .i64 a.1).wf = true) (k2 : (Lit.int .i64 a.2).wf = true) (k3 : (Lit.int .i64 b.1).wf = true) (k4 : (Lit.int .i64 b.2).wf = true) {d : Nat} (hd : d < 4) (h : hitT a b d = true) : adjB a b = true ∧ towD a b = d := by
  have := (hitT_iff k1 k2 k3 k4 hd).1 h
  subst this
  exact ⟨adj_beside a hd, tow_beside a hd⟩
theorem hitT_none {a b : Ce} (k1 : (Lit.int .i64 a.1).wf = true) (k2 : (Lit.int .i64 a.2).wf = true) (k3 : (Lit.int .i64 b.1).wf = true) (k4 : (Lit.int .i64 b.2).wf = true) (h : ∀ d, d < 4 → hitT a b d = false) : adjB a b = false := by
  cases hq : adjB a b with
  | false => rfl
  | true =>
    have h1 := adj_iff.1 hq
    have h2 := h (towD a b) (towD_lt a b)
    rw [(hitT_iff k1 k2 k3 k4 (towD_lt a b)).2 h1] at h2
    cases h2

theorem refNextW_any (x y : Int) (d : Nat) (hd : d < 4) (w : World) :
    Calls Try.prog 49 #[.agg #[.int .i64 x, .int .i64 y], .int .i64 d] w fun e w' => e = .returned (.agg #[.int .i64 (nextW (x, y) d).1, .int .i64 (nextW (x, y) d).2]) ∧ Below w.heap.size w w' := by
  rcases (by omega : d = 0 ∨ d = 1 ∨ d = 2 ∨ d = 3) with rfl | rfl | rfl | rfl
  · clear hd
    show Calls Try.prog 49 #[.agg #[.int .i64 x, .int .i64 y], .int .i64 ((0 : Nat) : Int)] w fun e w' => e = .returned (.agg #[.int .i64 (wrap64 (x + 1)), .int .i64 y]) ∧ Below w.heap.size w w'
    go_enter Try.func49, Try.ntmps49
    go_wp2_with fail
    refine bodyPost_ret (v := .agg #[.int .i64 (wrap64 (x + 1)), .int .i64 y]) (by simp [results, Try.results49, go_sem]) rfl ?_
    exact ⟨rfl, ((Below.refl _ _).alloc (Nat.le_refl _) _).alloc (by simp) _⟩
  · clear hd
    show Calls Try.prog 49 #[.agg #[.int .i64 x, .int .i64 y], .int .i64 ((1 : Nat) : Int)] w fun e w' => e = .returned (.agg #[.int .i64 x, .int .i64 (wrap64 (y + 1))]) ∧ Below w.heap.size w w'
    go_enter Try.func49, Try.ntmps49
    go_wp2_with fail
    refine bodyPost_ret (v := .agg #[.int .i64 x, .int .i64 (wrap64 (y + 1))]) (by simp [results, Try.results49, go_sem]) rfl ?_
    exact ⟨rfl, ((Below.refl _ _).alloc (Nat.le_refl _) _).alloc (by simp) _⟩
  · clear hd
    show Calls Try.prog 49 #[.agg #[.int .i64 x, .int .i64 y], .int .i64 ((2 : Nat) : Int)] w fun e w' => e = .returned (.agg #[.int .i64 (wrap64 (x - 1)), .int .i64 y]) ∧ Below w.heap.size w w'
    go_enter Try.func49, Try.ntmps49
    go_wp2_with fail
    refine bodyPost_ret (v := .agg #[.int .i64 (wrap64 (x - 1)), .int .i64 y]) (by simp [results, Try.results49, go_sem]) rfl ?_
    exact ⟨rfl, ((Below.refl _ _).alloc (Nat.le_refl _) _).alloc (by simp) _⟩
  · clear hd
    show Calls Try.prog 49 #[.agg #[.int .i64 x, .int .i64 y], .int .i64 ((3 : Nat) : Int)] w fun e w' => e = .returned (.agg #[.int .i64 x, .int .i64 (wrap64 (y - 1))]) ∧ Below w.heap.size w w'
    go_enter Try.func49, Try.ntmps49
    go_wp2_with fail
    refine bodyPost_ret (v := .agg #[.int .i64 x, .int .i64 (wrap64 (y - 1))]) (by simp [results, Try.results49, go_sem]) rfl ?_
    exact ⟨rfl, ((Below.refl _ _).alloc (Nat.le_refl _) _).alloc (by simp) _⟩

theorem four_at (a b c e : Bool) (W : World) : (Instr.index 145 (.agg #[.bool a, .bool b, .bool c, .bool e]) (.int .i64 0)).run Try.prog W = .ok (.bool a) W ∧ (Instr.index 145 (.agg #[.bool a, .bool b, .bool c, .bool e]) (.int .i64 1)).run Try.prog W = .ok (.bool b) W ∧
    (Instr.index 145 (.agg #[.bool a, .bool b, .bool c, .bool e]) (.int .i64 2)).run Try.prog W = .ok (.bool c) W ∧ (Instr.index 145 (.agg #[.bool a, .bool b, .bool c, .bool e]) (.int .i64 3)).run Try.prog W = .ok (.bool e) W := by
  obtain ⟨i, hi, _, hs, _⟩ := el_bool.info
  have hu := Try.underlying4
  have hc : Try.prog.cellsOf 4 = 1 := by kernel_rfl
  refine ⟨?_, ?_, ?_, ?_⟩ <;> simp [Instr.index, run_underlying Try.underlying145, asIntOf, go_sem, run_sizeOf W hi, part, isAgg, run_underlying hu, hc]

/-- two boxed cells -/
def Bx2 (V : World) (B : Nat) (x1 y1 x2 y2 : Int) : Prop := V.cell? ⟨B, 0, none⟩ = some (.int .i64 x1) ∧ V.cell? ⟨B, 1, none⟩ = some (.int .i64 y1) ∧ V.cell? ⟨B + 1, 0, none⟩ = some (.int .i64 x2) ∧ V.cell? ⟨B + 1, 1, none⟩ = some (.int .i64 y2)
theorem Bx2.new (w : World) (x1 y1 x2 y2 : Int) (e : TypeId) : Bx2 ((w.alloc (.cells #[.int .i64 x1, .int .i64 y1] e)).alloc (.cells #[.int .i64 x2, .int .i64 y2] e)) w.heap.size x1 y1 x2 y2 :=
  ⟨cell_alloc (World.cell?_alloc_at _ _ _ _ rfl) _, cell_alloc (World.cell?_alloc_at _ _ _ _ rfl) _, World.cell?_alloc_at _ _ _ _ (by simp), World.cell?_alloc_at _ _ _ _ (by simp)⟩
theorem Bx2.below {V V' : World} {B : Nat} {x1 y1 x2 y2 : Int} (h : Bx2 V B x1 y1 x2 y2) (hb : Below V.heap.size V V') : Bx2 V' B x1 y1 x2 y2 :=
  ⟨cell_below h.1 hb, cell_below h.2.1 hb, cell_below h.2.2.1 hb, cell_below h.2.2.2 hb⟩
def refTow (a b : Ce) : Int := if adjB a b then (towD a b : Int) else -1
set_option maxRecDepth 100000 in
set_option maxHeartbeats 1000000 in
theorem refToward_any (x1 y1 x2 y2 : Int) (w : World) (k1 : (Lit.int .i64 x1).wf = true) (k2 : (Lit.int .i64 y1).wf = true) (k3 : (Lit.int .i64 x2).wf = true) (k4 : (Lit.int .i64 y2).wf = true) :
    Calls Try.prog 86 #[.agg #[.int .i64 x1, .int .i64 y1], .agg #[.int .i64 x2, .int .i64 y2]] w fun e w' => e = .returned (.int .i64 (refTow (x1, y1) (x2, y2))) ∧ Below w.heap.size w w' := by
  have hb := Lib.hid (((Below.refl w.heap.size w).alloc (Nat.le_refl _) (.cells #[.int .i64 x1, .int .i64 y1] 26)).alloc (by simp) (.cells #[.int .i64 x2, .int .i64 y2] 26))
  have HX := Lib.hid (Bx2.new w x1 y1 x2 y2 26)
  have hEQ := fun a b c d W => eqXY a b c d W
  have HR0 : Hid (refTow (x1, y1) (x2, y2) = if adjB (x1, y1) (x2, y2) then (towD (x1, y1) (x2, y2) : Int) else -1) := Lib.hid rfl
  have HHT : Hid (∀ d, hitT (x1, y1) (x2, y2) d = (decide (nextW (x1, y1) d = (x2, y2)) && gtD (x1, y1) (x2, y2) d)) := Lib.hid fun _ => rfl
  obtain ⟨wb, hwb⟩ : ∃ wb, ((w.alloc (.cells #[.int .i64 x1, .int .i64 y1] 26)).alloc (.cells #[.int .i64 x2, .int .i64 y2] 26)) = wb := ⟨_, rfl⟩
  have HWB := Lib.hid hwb
  rw [hwb] at hb HX
  clear hwb
  have HTOW := Lib.hid (fun d (hd : d < 4) => hitT_tow (a := (x1, y1)) (b := (x2, y2)) k1 k2 k3 k4 hd)
  have HNON := Lib.hid (hitT_none (a := (x1, y1)) (b := (x2, y2)) k1 k2 k3 k4)
  have HNX := Lib.hid (fun d (hd : d < 4) V => refNextW_any x1 y1 d hd V)
  clear k1 k2 k3 k4
  go_enter Try.func86, Try.ntmps86
  go_wp2_with fail
  rw [HWB.out]
  go_loopw [7] (fun q wr => ∃ k : Nat, k ≤ 4 ∧ q = .int .i64 k ∧ Hid (Below wb.heap.size wb wr) ∧ Hid (∀ j, j < k → hitT (x1, y1) (x2, y2) j = false)) (fun q _ => 4 - (intOf q).toNat)
  case atStart => exact ⟨0, by omega, rfl, Lib.hid (Below.refl _ _), Lib.hid fun j hj => absurd hj (Nat.not_lt_zero _)⟩
  case round =>
    obtain ⟨k, hk, rfl, HR, HJ⟩ := hrel
    have HBR := Lib.hid (hb.out.trans (HR.out.mono hb.out.size))
    obtain ⟨c0, c1, c2, c3⟩ := HX.out.below HR.out
    have hlt := World.block_lt_of_cell? _ _ c0
    have hlt2 := World.block_lt_of_cell? _ _ c2
    have HSX := Lib.hid (HX.out.below HR.out)
    rcases (by omega : k = 0 ∨ k = 1 ∨ k = 2 ∨ k = 3 ∨ k = 4) with rfl | rfl | rfl | rfl | rfl
    · obtain ⟨⟨cx, cy⟩, hn⟩ : ∃ c, nextW (x1, y1) 0 = c := ⟨_, rfl⟩
      have HN := Lib.hid hn
      have HNW : Hid (∀ V, Calls Try.prog 49 #[.agg #[.int .i64 x1, .int .i64 y1], .int .i64 0] V fun e w' => e = .returned (.agg #[.int .i64 (nextW (x1, y1) 0).1, .int .i64 (nextW (x1, y1) 0).2]) ∧ Below V.heap.size V w') := Lib.hid (HNX.out 0 (by omega))
      have HHD := Lib.hid (HHT.out 0)
      have hat := fun a b c e W => (four_at a b c e W).1
      rw [hn] at HNW HHD
      clear hn
      dsimp only at HNW
      have next : hitT (x1, y1) (x2, y2) 0 = false → ∀ j, j < 0 + 1 → hitT (x1, y1) (x2, y2) j = false := fun hh j hj => by
        rcases (by omega : j = 0 ∨ j < 0) with rfl | hj
        · exact hh
        · exact HJ.out j hj
      by_cases h : cx = x2 ∧ cy = y2
      · obtain ⟨rfl, rfl⟩ := h
        by_cases hc : x1 < cx
        · have HIT : Hid (hitT (x1, y1) (cx, cy) 0 = true) := Lib.hid (by rw [HHD.out]; unfold gtD; simp [hc])
          have HRT : Hid (refTow (x1, y1) (cx, cy) = 0) := Lib.hid (by
            obtain ⟨q1, q2⟩ := HTOW.out 0 (by omega) HIT.out
            rw [HR0.out, q1, q2]; rfl)
          clear next
          go_wp2_with (go_at_call 49; (with_reducible refine (HNW.out _).mono ?_); rintro e w2 ⟨rfl, hb2⟩; have HB2 := Lib.hid hb2; obtain ⟨d0, d1, d2, d3⟩ := HSX.out.below hb2; clear hb2 c0 c1 c2 c3; have hlt3 := World.block_lt_of_cell? _ _ d0; have hlt4 := World.block_lt_of_cell? _ _ d2)
          go_ret
          exact ⟨by rw [HRT.out]; rfl, HBR.out.trans ((HB2.out.alloc HB2.out.size _).mono HBR.out.size)⟩
        · have HIT := Lib.hid (next (by rw [HHD.out]; unfold gtD; simp [hc]))
          clear next
          go_wp2_with (go_at_call 49; (with_reducible refine (HNW.out _).mono ?_); rintro e w2 ⟨rfl, hb2⟩; have HB2 := Lib.hid hb2; obtain ⟨d0, d1, d2, d3⟩ := HSX.out.below hb2; clear hb2 c0 c1 c2 c3; have hlt3 := World.block_lt_of_cell? _ _ d0; have hlt4 := World.block_lt_of_cell? _ _ d2)
          go_roundw
          case rel => exact ⟨0 + 1, by omega, by go_num, Lib.hid (HR.out.trans ((HB2.out.alloc HB2.out.size _).mono HR.out.size)), HIT⟩
          case measure => simp [intOf]
      · have hq : (cx == x2 && cy == y2) = false := by
          rw [Bool.eq_false_iff]; intro hh; simp at hh; exact h hh
        have HIT := Lib.hid (next (by rw [HHD.out, decide_eq_false (fun e => h ⟨by injection e, by injection e⟩)]; rfl))
        clear next h
        go_wp2_with (go_at_call 49; (with_reducible refine (HNW.out _).mono ?_); rintro e w2 ⟨rfl, hb2⟩; have HB2 := Lib.hid hb2; obtain ⟨d0, d1, d2, d3⟩ := HSX.out.below hb2; clear hb2 c0 c1 c2 c3; have hlt3 := World.block_lt_of_cell? _ _ d0; have hlt4 := World.block_lt_of_cell? _ _ d2)
        go_roundw
        case rel => exact ⟨0 + 1, by omega, by go_num, Lib.hid (HR.out.trans ((HB2.out.alloc HB2.out.size _).mono HR.out.size)), HIT⟩
        case measure => simp [intOf]
    · obtain ⟨⟨cx, cy⟩, hn⟩ : ∃ c, nextW (x1, y1) 1 = c := ⟨_, rfl⟩
      have HN := Lib.hid hn
      have HNW : Hid (∀ V, Calls Try.prog 49 #[.agg #[.int .i64 x1, .int .i64 y1], .int .i64 1] V fun e w' => e = .returned (.agg #[.int .i64 (nextW (x1, y1) 1).1, .int .i64 (nextW (x1, y1) 1).2]) ∧ Below V.heap.size V w') := Lib.hid (HNX.out 1 (by omega))
      have HHD := Lib.hid (HHT.out 1)
      have hat := fun a b c e W => (four_at a b c e W).2.1
      rw [hn] at HNW HHD
      clear hn
      dsimp only at HNW
      have next : hitT (x1, y1) (x2, y2) 1 = false → ∀ j, j < 1 + 1 → hitT (x1, y1) (x2, y2) j = false := fun hh j hj => by
        rcases (by omega : j = 1 ∨ j < 1) with rfl | hj
        · exact hh
        · exact HJ.out j hj
      by_cases h : cx = x2 ∧ cy = y2
      · obtain ⟨rfl, rfl⟩ := h
        by_cases hc : y1 < cy
        · have HIT : Hid (hitT (x1, y1) (cx, cy) 1 = true) := Lib.hid (by rw [HHD.out]; unfold gtD; simp [hc])
          have HRT : Hid (refTow (x1, y1) (cx, cy) = 1) := Lib.hid (by
            obtain ⟨q1, q2⟩ := HTOW.out 1 (by omega) HIT.out
            rw [HR0.out, q1, q2]; rfl)
          clear next
          go_wp2_with (go_at_call 49; (with_reducible refine (HNW.out _).mono ?_); rintro e w2 ⟨rfl, hb2⟩; have HB2 := Lib.hid hb2; obtain ⟨d0, d1, d2, d3⟩ := HSX.out.below hb2; clear hb2 c0 c1 c2 c3; have hlt3 := World.block_lt_of_cell? _ _ d0; have hlt4 := World.block_lt_of_cell? _ _ d2)
          go_ret
          exact ⟨by rw [HRT.out]; rfl, HBR.out.trans ((HB2.out.alloc HB2.out.size _).mono HBR.out.size)⟩
        · have HIT := Lib.hid (next (by rw [HHD.out]; unfold gtD; simp [hc]))
          clear next
          go_wp2_with (go_at_call 49; (with_reducible refine (HNW.out _).mono ?_); rintro e w2 ⟨rfl, hb2⟩; have HB2 := Lib.hid hb2; obtain ⟨d0, d1, d2, d3⟩ := HSX.out.below hb2; clear hb2 c0 c1 c2 c3; have hlt3 := World.block_lt_of_cell? _ _ d0; have hlt4 := World.block_lt_of_cell? _ _ d2)
          go_roundw
          case rel => exact ⟨1 + 1, by omega, by go_num, Lib.hid (HR.out.trans ((HB2.out.alloc HB2.out.size _).mono HR.out.size)), HIT⟩
          case measure => simp [intOf]
      · have hq : (cx == x2 && cy == y2) = false := by
          rw [Bool.eq_false_iff]; intro hh; simp at hh; exact h hh
        have HIT := Lib.hid (next (by rw [HHD.out, decide_eq_false (fun e => h ⟨by injection e, by injection e⟩)]; rfl))
        clear next h
        go_wp2_with (go_at_call 49; (with_reducible refine (HNW.out _).mono ?_); rintro e w2 ⟨rfl, hb2⟩; have HB2 := Lib.hid hb2; obtain ⟨d0, d1, d2, d3⟩ := HSX.out.below hb2; clear hb2 c0 c1 c2 c3; have hlt3 := World.block_lt_of_cell? _ _ d0; have hlt4 := World.block_lt_of_cell? _ _ d2)
        go_roundw
        case rel => exact ⟨1 + 1, by omega, by go_num, Lib.hid (HR.out.trans ((HB2.out.alloc HB2.out.size _).mono HR.out.size)), HIT⟩
        case measure => simp [intOf]
    · obtain ⟨⟨cx, cy⟩, hn⟩ : ∃ c, nextW (x1, y1) 2 = c := ⟨_, rfl⟩
      have HN := Lib.hid hn
      have HNW : Hid (∀ V, Calls Try.prog 49 #[.agg #[.int .i64 x1, .int .i64 y1], .int .i64 2] V fun e w' => e = .returned (.agg #[.int .i64 (nextW (x1, y1) 2).1, .int .i64 (nextW (x1, y1) 2).2]) ∧ Below V.heap.size V w') := Lib.hid (HNX.out 2 (by omega))
      have HHD := Lib.hid (HHT.out 2)
      have hat := fun a b c e W => (four_at a b c e W).2.2.1
      rw [hn] at HNW HHD
      clear hn
      dsimp only at HNW
      have next : hitT (x1, y1) (x2, y2) 2 = false → ∀ j, j < 2 + 1 → hitT (x1, y1) (x2, y2) j = false := fun hh j hj => by
        rcases (by omega : j = 2 ∨ j < 2) with rfl | hj
        · exact hh
        · exact HJ.out j hj
      by_cases h : cx = x2 ∧ cy = y2
      · obtain ⟨rfl, rfl⟩ := h
        by_cases hc : cx < x1
        · have HIT : Hid (hitT (x1, y1) (cx, cy) 2 = true) := Lib.hid (by rw [HHD.out]; unfold gtD; simp [hc])
          have HRT : Hid (refTow (x1, y1) (cx, cy) = 2) := Lib.hid (by
            obtain ⟨q1, q2⟩ := HTOW.out 2 (by omega) HIT.out
            rw [HR0.out, q1, q2]; rfl)
          clear next
          go_wp2_with (go_at_call 49; (with_reducible refine (HNW.out _).mono ?_); rintro e w2 ⟨rfl, hb2⟩; have HB2 := Lib.hid hb2; obtain ⟨d0, d1, d2, d3⟩ := HSX.out.below hb2; clear hb2 c0 c1 c2 c3; have hlt3 := World.block_lt_of_cell? _ _ d0; have hlt4 := World.block_lt_of_cell? _ _ d2)
          go_ret
          exact ⟨by rw [HRT.out]; rfl, HBR.out.trans ((HB2.out.alloc HB2.out.size _).mono HBR.out.size)⟩
        · have HIT := Lib.hid (next (by rw [HHD.out]; unfold gtD; simp [hc]))
          clear next
          go_wp2_with (go_at_call 49; (with_reducible refine (HNW.out _).mono ?_); rintro e w2 ⟨rfl, hb2⟩; have HB2 := Lib.hid hb2; obtain ⟨d0, d1, d2, d3⟩ := HSX.out.below hb2; clear hb2 c0 c1 c2 c3; have hlt3 := World.block_lt_of_cell? _ _ d0; have hlt4 := World.block_lt_of_cell? _ _ d2)
          go_roundw
          case rel => exact ⟨2 + 1, by omega, by go_num, Lib.hid (HR.out.trans ((HB2.out.alloc HB2.out.size _).mono HR.out.size)), HIT⟩
          case measure => simp [intOf]
      · have hq : (cx == x2 && cy == y2) = false := by
          rw [Bool.eq_false_iff]; intro hh; simp at hh; exact h hh
        have HIT := Lib.hid (next (by rw [HHD.out, decide_eq_false (fun e => h ⟨by injection e, by injection e⟩)]; rfl))
        clear next h
        go_wp2_with (go_at_call 49; (with_reducible refine (HNW.out _).mono ?_); rintro e w2 ⟨rfl, hb2⟩; have HB2 := Lib.hid hb2; obtain ⟨d0, d1, d2, d3⟩ := HSX.out.below hb2; clear hb2 c0 c1 c2 c3; have hlt3 := World.block_lt_of_cell? _ _ d0; have hlt4 := World.block_lt_of_cell? _ _ d2)
        go_roundw
        case rel => exact ⟨2 + 1, by omega, by go_num, Lib.hid (HR.out.trans ((HB2.out.alloc HB2.out.size _).mono HR.out.size)), HIT⟩
        case measure => simp [intOf]
    · obtain ⟨⟨cx, cy⟩, hn⟩ : ∃ c, nextW (x1, y1) 3 = c := ⟨_, rfl⟩
      have HN := Lib.hid hn
      have HNW : Hid (∀ V, Calls Try.prog 49 #[.agg #[.int .i64 x1, .int .i64 y1], .int .i64 3] V fun e w' => e = .returned (.agg #[.int .i64 (nextW (x1, y1) 3).1, .int .i64 (nextW (x1, y1) 3).2]) ∧ Below V.heap.size V w') := Lib.hid (HNX.out 3 (by omega))
      have HHD := Lib.hid (HHT.out 3)
      have hat := fun a b c e W => (four_at a b c e W).2.2.2
      rw [hn] at HNW HHD
      clear hn
      dsimp only at HNW
      have next : hitT (x1, y1) (x2, y2) 3 = false → ∀ j, j < 3 + 1 → hitT (x1, y1) (x2, y2) j = false := fun hh j hj => by
        rcases (by omega : j = 3 ∨ j < 3) with rfl | hj
        · exact hh
        · exact HJ.out j hj
      by_cases h : cx = x2 ∧ cy = y2
      · obtain ⟨rfl, rfl⟩ := h
        by_cases hc : cy < y1
        · have HIT : Hid (hitT (x1, y1) (cx, cy) 3 = true) := Lib.hid (by rw [HHD.out]; unfold gtD; simp [hc])
          have HRT : Hid (refTow (x1, y1) (cx, cy) = 3) := Lib.hid (by
            obtain ⟨q1, q2⟩ := HTOW.out 3 (by omega) HIT.out
            rw [HR0.out, q1, q2]; rfl)
          clear next
          go_wp2_with (go_at_call 49; (with_reducible refine (HNW.out _).mono ?_); rintro e w2 ⟨rfl, hb2⟩; have HB2 := Lib.hid hb2; obtain ⟨d0, d1, d2, d3⟩ := HSX.out.below hb2; clear hb2 c0 c1 c2 c3; have hlt3 := World.block_lt_of_cell? _ _ d0; have hlt4 := World.block_lt_of_cell? _ _ d2)
          go_ret
          exact ⟨by rw [HRT.out]; rfl, HBR.out.trans ((HB2.out.alloc HB2.out.size _).mono HBR.out.size)⟩
        · have HIT := Lib.hid (next (by rw [HHD.out]; unfold gtD; simp [hc]))
          clear next
          go_wp2_with (go_at_call 49; (with_reducible refine (HNW.out _).mono ?_); rintro e w2 ⟨rfl, hb2⟩; have HB2 := Lib.hid hb2; obtain ⟨d0, d1, d2, d3⟩ := HSX.out.below hb2; clear hb2 c0 c1 c2 c3; have hlt3 := World.block_lt_of_cell? _ _ d0; have hlt4 := World.block_lt_of_cell? _ _ d2)
          go_roundw
          case rel => exact ⟨3 + 1, by omega, by go_num, Lib.hid (HR.out.trans ((HB2.out.alloc HB2.out.size _).mono HR.out.size)), HIT⟩
          case measure => simp [intOf]
      · have hq : (cx == x2 && cy == y2) = false := by
          rw [Bool.eq_false_iff]; intro hh; simp at hh; exact h hh
        have HIT := Lib.hid (next (by rw [HHD.out, decide_eq_false (fun e => h ⟨by injection e, by injection e⟩)]; rfl))
        clear next h
        go_wp2_with (go_at_call 49; (with_reducible refine (HNW.out _).mono ?_); rintro e w2 ⟨rfl, hb2⟩; have HB2 := Lib.hid hb2; obtain ⟨d0, d1, d2, d3⟩ := HSX.out.below hb2; clear hb2 c0 c1 c2 c3; have hlt3 := World.block_lt_of_cell? _ _ d0; have hlt4 := World.block_lt_of_cell? _ _ d2)
        go_roundw
        case rel => exact ⟨3 + 1, by omega, by go_num, Lib.hid (HR.out.trans ((HB2.out.alloc HB2.out.size _).mono HR.out.size)), HIT⟩
        case measure => simp [intOf]
    · have HRT : Hid (refTow (x1, y1) (x2, y2) = -1) := Lib.hid (by rw [HR0.out, HNON.out HJ.out]; rfl)
      go_wp2_with fail
      go_ret
      exact ⟨by rw [HRT.out]; rfl, HBR.out⟩
end Go.Proofs.Ytpakkjkjppibnaa

namespace Go.Proofs.Ytpakkjkjppibnaa
open Go.RowKit

theorem pairs_takeR (l : List Ce) (k : Nat) : pairs (l.take k) = (pairs l).take (k * 2) := by
  induction l generalizing k with
  | nil => simp [pairs]
  | cons x l ih =>
    cases k with
    | zero => simp [pairs]
    | succ k =>
      rw [List.take_succ_cons, show pairs (x :: l.take k) = .int .i64 x.1 :: .int .i64 x.2 :: pairs (l.take k) from rfl, show pairs (x :: l) = .int .i64 x.1 :: .int .i64 x.2 :: pairs l from rfl,
        show (k + 1) * 2 = k * 2 + 1 + 1 by omega, List.take_succ_cons, List.take_succ_cons, ih]

theorem refHas_any (l : List Ce) (v : Value) (x y : Int) (w : World) (hv : RdP w v l) (hn : l.length ≤ 4000000) :
    Calls Try.prog 85 #[v, .agg #[.int .i64 x, .int .i64 y]] w fun e w' => e = .returned (.bool (decide ((x, y) ∈ l))) ∧ Below w.heap.size w w' := by
  have hbw : Below w.heap.size w (w.alloc (.cells #[.int .i64 x, .int .i64 y] 26)) := (Below.refl w.heap.size w).alloc (Nat.le_refl _) _
  have hEQ := fun a b c d W => eqXY a b c d W
  obtain ⟨a, cap, rfl, hc, hcm, ha, _⟩ := hv
  have c0 : (w.alloc (.cells #[.int .i64 x, .int .i64 y] 26)).cell? ⟨w.heap.size, 0, none⟩ = some (.int .i64 x) := World.cell?_alloc_at _ _ _ _ rfl
  have c1 : (w.alloc (.cells #[.int .i64 x, .int .i64 y] 26)).cell? ⟨w.heap.size, 1, none⟩ = some (.int .i64 y) := World.cell?_alloc_at _ _ _ _ rfl
  obtain ⟨n, hnn⟩ : ∃ n, l.length = n := ⟨_, rfl⟩
  have HN := Lib.hid hnn
  rw [hnn] at hc hn ⊢
  obtain ⟨wb, hwb⟩ : ∃ wb, w.alloc (.cells #[.int .i64 x, .int .i64 y] 26) = wb := ⟨_, rfl⟩
  have HWB := Lib.hid hwb
  rw [hwb] at hbw c0 c1
  have HBW := Lib.hid hbw
  have HC0 := Lib.hid c0
  have HC1 := Lib.hid c1
  clear hwb hbw hnn c0 c1
  go_enter Try.func85, Try.ntmps85
  go_wp2_with fail
  rw [HWB.out]
  go_loopw [9] (fun p wr => ∃ k : Nat, k ≤ n ∧ p = .int .i64 k ∧ Hid (Below wb.heap.size wb wr) ∧ Hid (∀ j z, j < k → l[j]? = some z → z ≠ (x, y))) (fun p _ => n - (intOf p).toNat)
  case atStart => exact ⟨0, Nat.zero_le _, rfl, Lib.hid (Below.refl _ _), Lib.hid fun j z h => absurd h (Nat.not_lt_zero _)⟩
  case round =>
    obtain ⟨k, hk, rfl, HR, HA⟩ := hrel
    have HBB := Lib.hid (HBW.out.trans (HR.out.mono HBW.out.size))
    have d0 := cell_below HC0.out HR.out
    have d1 := cell_below HC1.out HR.out
    have hlt := World.block_lt_of_cell? _ _ d0
    by_cases hkn : k < n
    · obtain ⟨⟨p, q⟩, hz⟩ : ∃ z, l[k]? = some z := ⟨_, List.getElem?_eq_getElem (by rw [HN.out]; exact hkn)⟩
      obtain ⟨b, off, rfl, e1, e2⟩ := RdP.cell (ha.below HBB.out (Nat.le_refl _)) hz
      have HZ := Lib.hid hz
      clear hz
      dsimp only at e1 e2
      by_cases hpq : p = x ∧ q = y
      · obtain ⟨rfl, rfl⟩ := hpq
        have HD : Hid (decide ((p, q) ∈ l) = true) := Lib.hid (decide_eq_true (List.mem_of_getElem? HZ.out))
        go_wp2_with fail
        go_ret
        exact ⟨by rw [HD.out]; rfl, HBB.out.alloc HBB.out.size _⟩
      · have hpq' : (p == x && q == y) = false := by
          rw [Bool.eq_false_iff]; intro hh; simp at hh; exact hpq hh
        have HA' : Hid (∀ j z, j < k + 1 → l[j]? = some z → z ≠ (x, y)) := Lib.hid fun j z hj hz e => by
          rcases (by omega : j < k ∨ j = k) with h1 | rfl
          · exact HA.out j z h1 hz e
          · rw [HZ.out] at hz
            cases hz
            exact hpq ⟨by injection e, by injection e⟩
        go_wp2_with fail
        go_roundw
        case rel => exact ⟨k + 1, by omega, by go_num, Lib.hid (HR.out.alloc HR.out.size _), HA'⟩
        case measure => simp [intOf]; omega
    · obtain rfl : k = n := by omega
      have HD : Hid (decide ((x, y) ∈ l) = false) := Lib.hid (by
        rw [decide_eq_false]
        intro hm
        obtain ⟨j, hj, e⟩ := List.getElem_of_mem hm
        exact HA.out j _ (by rw [← HN.out]; exact hj) (List.getElem?_eq_getElem hj) e)
      go_wp2_with fail
      go_ret
      exact ⟨by rw [HD.out]; rfl, HBB.out⟩
end Go.Proofs.Ytpakkjkjppibnaa

namespace Go.Proofs.Ytpakkjkjppibnaa
open Go.RowKit

/-- the cells before k: none twice, each beside the one before -/
def PreOk (p : List Ce) (k : Nat) : Prop := (p.take k).Nodup ∧ ∀ j, j + 1 < k → adjB (p.getD j (0, 0)) (p.getD (j + 1) (0, 0)) = true
theorem preOk_zero (p : List Ce) : PreOk p 0 := ⟨by simp, fun j hj => absurd hj (Nat.not_lt_zero _)⟩
theorem preOk_succ {p : List Ce} {k : Nat} {x : Ce} (h : PreOk p k) (hx : p[k]? = some x) (hm : x ∉ p.take k) (ha : 0 < k → adjB (p.getD (k - 1) (0, 0)) x = true) : PreOk p (k + 1) := by
  refine ⟨?_, fun j hj => ?_⟩
  · rw [List.take_add_one, hx, List.nodup_append]
    refine ⟨h.1, by simp, fun a h1 b h2 => ?_⟩
    simp at h2
    subst h2
    exact fun e => hm (e ▸ h1)
  · by_cases e : j + 1 = k
    · have := ha (by omega)
      rw [← e, Nat.add_sub_cancel] at this
      rwa [e, show p.getD k (0, 0) = x by rw [List.getD_eq_getElem?_getD, hx]; rfl]
    · exact h.2 j (by omega)
theorem check_bad1 {op : Ce → Bool} {p : List Ce} {k : Nat} {x : Ce} (hx : p[k]? = some x) (hm : x ∈ p.take k) : checkC op p = 71 := by
  unfold checkC
  split
  · rw [if_neg]
    rintro ⟨_, hn⟩
    obtain ⟨i, hi, e⟩ := List.getElem_of_mem hm
    obtain ⟨hk, e2⟩ := List.getElem?_eq_some_iff.1 hx
    rw [List.getElem_take] at e
    simp only [List.length_take] at hi
    exact absurd (e.trans e2.symm) (List.pairwise_iff_getElem.1 hn i k (by omega) hk (by omega))
  · rfl
theorem check_bad2 {op : Ce → Bool} {p : List Ce} {k : Nat} (hk : k + 1 < p.length) (hm : adjB (p.getD k (0, 0)) (p.getD (k + 1) (0, 0)) = false) : checkC op p = 71 := by
  unfold checkC
  split
  · rw [if_neg]
    rintro ⟨ha, _⟩
    have := (adjL_iff p).1 ha k hk
    rw [hm] at this
    cases this
  · rfl
theorem check_good {op : Ce → Bool} {p : List Ce} (h1 : 1 ≤ p.length) (h2 : p.length ≤ 1000) (h : PreOk p p.length) : checkC op p = if p.all op then 0 else 72 := by
  unfold checkC
  rw [if_pos ⟨h1, h2⟩, if_pos ⟨(adjL_iff p).2 fun i hi => h.2 i hi, by have := h.1; rwa [List.take_length] at this⟩]

set_option maxRecDepth 100000 in
set_option maxHeartbeats 1000000 in
theorem refCheck_any (w h mv bd : Int) (bv : Value) (bl p : List Ce) (v : Value) (W : World) (hb : RdP W bv bl) (hbn : bl.length ≤ 4000000) (hv : RdP W v p) (hw : WfL p) :
    Calls Try.prog 63 #[.agg #[.int .i64 w, .int .i64 h, .int .i64 mv, .int .i64 bd, bv], v] W fun e w' => e = .returned (.int .i64 (checkC (refOpenP w h bl) p)) ∧ Below W.heap.size W w' := by
  have hbW : Below W.heap.size W (W.alloc (.cells #[.int .i64 w, .int .i64 h, .int .i64 mv, .int .i64 bd, bv] 24)) := (Below.refl W.heap.size W).alloc (Nat.le_refl _) _
  have HV := Lib.hid hv
  have HWF := Lib.hid hw
  have HOP := Lib.hid (fun c V (hV : Below W.heap.size W V) => refOpen_any w h mv bd bv bl c V (hb.below hV) hbn)
  have HGB := Lib.hid (fun k => @check_bad1 (refOpenP w h bl) p k)
  have HGC := Lib.hid (fun k => @check_bad2 (refOpenP w h bl) p k)
  have HGG := Lib.hid (@check_good (refOpenP w h bl) p)
  have HG0 : Hid (¬ (1 ≤ p.length ∧ p.length ≤ 1000) → checkC (refOpenP w h bl) p = 71) := Lib.hid (fun hh => by unfold checkC; rw [if_neg hh])
  obtain ⟨ab, cb, rfl, _, _, _, _⟩ := hb
  obtain ⟨a, cap, rfl, hc, hcm, ha, hno⟩ := hv
  have HTK := Lib.hid (show ∀ k, k ≤ p.length → ∀ V, CellsAt V a (pairs p) → RdP V (.slice a k cap) (p.take k) from fun k hk V hV => ⟨a, cap, by rw [List.length_take, Nat.min_eq_left hk], by rw [List.length_take]; omega, hcm, by rw [pairs_takeR]; exact hV.pre _, hno⟩)
  obtain ⟨n, hnn⟩ : ∃ n, p.length = n := ⟨_, rfl⟩
  have HN := Lib.hid hnn
  have HA := Lib.hid ha
  have HM0 := Lib.hid (show (W.alloc (.cells #[.int .i64 w, .int .i64 h, .int .i64 mv, .int .i64 bd, .slice ab bl.length cb] 24)).cell? ⟨W.heap.size, 0, none⟩ = some (.int .i64 w) ∧ (W.alloc (.cells #[.int .i64 w, .int .i64 h, .int .i64 mv, .int .i64 bd, .slice ab bl.length cb] 24)).cell? ⟨W.heap.size, 1, none⟩ = some (.int .i64 h) ∧
    (W.alloc (.cells #[.int .i64 w, .int .i64 h, .int .i64 mv, .int .i64 bd, .slice ab bl.length cb] 24)).cell? ⟨W.heap.size, 2, none⟩ = some (.int .i64 mv) ∧ (W.alloc (.cells #[.int .i64 w, .int .i64 h, .int .i64 mv, .int .i64 bd, .slice ab bl.length cb] 24)).cell? ⟨W.heap.size, 3, none⟩ = some (.int .i64 bd) ∧
    (W.alloc (.cells #[.int .i64 w, .int .i64 h, .int .i64 mv, .int .i64 bd, .slice ab bl.length cb] 24)).cell? ⟨W.heap.size, 4, none⟩ = some (.slice ab bl.length cb) from
    ⟨World.cell?_alloc_at _ _ _ _ rfl, World.cell?_alloc_at _ _ _ _ rfl, World.cell?_alloc_at _ _ _ _ rfl, World.cell?_alloc_at _ _ _ _ rfl, World.cell?_alloc_at _ _ _ _ rfl⟩)
  rw [hnn] at hc HGC HGG HG0 HTK ⊢
  obtain ⟨r, hr⟩ : ∃ r, checkC (refOpenP w h bl) p = r := ⟨_, rfl⟩
  rw [hr] at HGB HGC HGG HG0 ⊢
  obtain ⟨wb, hwb⟩ : ∃ wb, W.alloc (.cells #[.int .i64 w, .int .i64 h, .int .i64 mv, .int .i64 bd, .slice ab bl.length cb] 24) = wb := ⟨_, rfl⟩
  have HWB := Lib.hid hwb
  rw [hwb] at hbW HM0
  have HBW := Lib.hid hbW
  obtain ⟨nb, hnb⟩ : ∃ nb, bl.length = nb := ⟨_, rfl⟩
  rw [hnb] at HM0 HOP HWB ⊢
  clear hwb hbW hnn hw hr ha hbn hnb
  by_cases hn1 : n < 1
  · have HR := Lib.hid (HG0.out (by omega))
    clear hno
    go_enter Try.func63, Try.ntmps63
    go_wp2_with fail
    go_ret
    rw [HWB.out]
    exact ⟨by rw [HR.out]; rfl, HBW.out⟩
  by_cases hn2 : 1000 < n
  · have HR := Lib.hid (HG0.out (by omega))
    have hn1' : ¬ (n : Int) < 1 := by omega
    have hn2' : (1000 : Int) < n := by omega
    clear hno
    go_enter Try.func63, Try.ntmps63
    go_wp2_with fail
    go_ret
    rw [HWB.out]
    exact ⟨by rw [HR.out]; rfl, HBW.out⟩
  have hn1' : ¬ (n : Int) < 1 := by omega
  have hn2' : ¬ (1000 : Int) < n := by omega
  have hn9 : n ≤ 1000 := by omega
  have HG1 := Lib.hid (HGG.out (by omega) (by omega))
  clear HGG HG0 hn1 hn2 hno
  go_enter Try.func63, Try.ntmps63
  go_wp2_with fail
  rw [HWB.out]
  go_loopw [19] (fun q wr => ∃ k : Nat, k ≤ n ∧ q = .int .i64 k ∧ Hid (Below wb.heap.size wb wr) ∧ Hid (PreOk p k)) (fun q _ => n - (intOf q).toNat)
  case atStart => exact ⟨0, Nat.zero_le _, rfl, Lib.hid (Below.refl _ _), Lib.hid (preOk_zero p)⟩
  case round =>
    obtain ⟨k, hk, rfl, HR, HP⟩ := hrel
    have HBR := Lib.hid (HBW.out.trans (HR.out.mono HBW.out.size))
    by_cases hkn : k < n
    · have hkn' : (k : Int) < (n : Int) := by omega
      obtain ⟨⟨x, y⟩, hx⟩ : ∃ z, p[k]? = some z := ⟨_, List.getElem?_eq_getElem (by rw [HN.out]; exact hkn)⟩
      have hAr := HA.out.below HBR.out (Nat.le_refl _)
      obtain ⟨b, off, rfl, e1, e2⟩ := RdP.cell hAr hx
      have HX := Lib.hid hx
      have HWX := Lib.hid (HWF.out _ (List.mem_of_getElem? hx))
      have HAR := Lib.hid hAr
      dsimp only at e1 e2 HWX
      clear hx hAr
      go_wp2_with fail
      have hb5 : Below wr.heap.size wr (wr.alloc (.cells #[.int .i64 x, .int .i64 y] 26)) := (Below.refl _ _).alloc (Nat.le_refl _) _
      have g0 : (wr.alloc (.cells #[.int .i64 x, .int .i64 y] 26)).cell? ⟨wr.heap.size, 0, none⟩ = some (.int .i64 x) := World.cell?_alloc_at _ _ _ _ rfl
      have g1 : (wr.alloc (.cells #[.int .i64 x, .int .i64 y] 26)).cell? ⟨wr.heap.size, 1, none⟩ = some (.int .i64 y) := World.cell?_alloc_at _ _ _ _ rfl
      generalize hW5 : wr.alloc (.cells #[.int .i64 x, .int .i64 y] 26) = w5 at *
      generalize wr.heap.size = cb5 at g0 g1 ⊢
      have HB5 := Lib.hid hb5
      have HA5 := Lib.hid (HAR.out.below hb5 (Nat.le_refl _))
      have HHAS := Lib.hid (fun V (hV : Below w5.heap.size w5 V) => refHas_any (p.take k) _ x y V (HTK.out k hk V (HA5.out.below hV (Nat.le_refl _))) (by rw [List.length_take]; omega))
      have G0 := Lib.hid g0
      have G1 := Lib.hid g1
      have hkc : (k : Int) ≤ (cap : Int) := by omega
      clear hW5 hb5 g0 g1 e1 e2
      have f0 := fun z : Grow w5 => grow_cell G0.out z
      have f1 := fun z : Grow w5 => grow_cell G1.out z
      by_cases hm : (x, y) ∈ p.take k
      · have HRR := Lib.hid (HGB.out k HX.out hm)
        rw [decide_eq_true hm] at HHAS
        clear hm
        refine wp_region_grow (by kernel_rfl) (by kernel_rfl) ?_
        repeat (go_big_quiet_step (first
          | (go_at_call 85; refine grow_of (HHAS.out _ (grow_below _)))))
        refine wpQuiet_nil ?_
        intro _ hw'
        obtain ⟨xq, hw''⟩ := hw'
        subst hw''
        have HBt := Lib.hid (HR.out.trans ((HB5.out.trans ((grow_below xq).mono HB5.out.size)).mono HR.out.size))
        clear f0 f1
        go_wp2_with fail
        go_ret
        exact ⟨by rw [HRR.out]; rfl, HBW.out.trans (HBt.out.mono HBW.out.size)⟩
      · rw [decide_eq_false hm] at HHAS
        have HM := Lib.hid hm
        clear hm
        by_cases hk0 : k = 0
        · subst hk0
          have HNX := Lib.hid (preOk_succ HP.out HX.out HM.out (fun hh => absurd hh (Nat.lt_irrefl _)))
          refine wp_region_grow (by kernel_rfl) (by kernel_rfl) ?_
          repeat (go_big_quiet_step (first
            | (go_at_call 85; refine grow_of (HHAS.out _ (grow_below _)))))
          refine wpQuiet_nil ?_
          intro _ hw'
          obtain ⟨xq, hw''⟩ := hw'
          subst hw''
          have HBt := Lib.hid (HR.out.trans ((HB5.out.trans ((grow_below xq).mono HB5.out.size)).mono HR.out.size))
          clear f0 f1
          go_wp2_with fail
          go_roundw
          case rel => exact ⟨0 + 1, by omega, by go_num, HBt, HNX⟩
          case measure => simp [intOf]; omega
        · obtain ⟨q, rfl⟩ : ∃ q, k = q + 1 := ⟨k - 1, by omega⟩
          obtain ⟨⟨x0, y0⟩, hx0⟩ : ∃ z, p[q]? = some z := ⟨_, List.getElem?_eq_getElem (by rw [HN.out]; omega)⟩
          obtain ⟨b', off', ee, i1, i2⟩ := RdP.cell HA5.out hx0
          obtain ⟨rfl, rfl⟩ : b = b' ∧ off = off' := by simpa using ee
          have hwf0 := HWF.out _ (List.mem_of_getElem? hx0)
          have HTW := Lib.hid (fun V => refToward_any x0 y0 x y V hwf0.1 hwf0.2 HWX.out.1 HWX.out.2)
          have HD1 : Hid (p.getD q (0, 0) = (x0, y0)) := Lib.hid (by rw [List.getD_eq_getElem?_getD, hx0]; rfl)
          have HD2 : Hid (p.getD (q + 1) (0, 0) = (x, y)) := Lib.hid (by rw [List.getD_eq_getElem?_getD, HX.out]; rfl)
          dsimp only at i1 i2
          have i1 := fun z : Grow w5 => grow_cell i1 z
          have i2 := fun z : Grow w5 => grow_cell i2 z
          have hw2 : IntKind.i64.wrap ((q : Int) + 1 - 1) = q := IntWalk.i64_in _ (by omega) |>.trans (by omega)
          have hw3 : IntKind.i64.wrap (q : Int) = q := IntWalk.i64_in _ (by omega)
          have hw4 : ((q : Int) + 1).toNat = q + 1 := by omega
          have hgd : (0 : Int) < (q : Int) + 1 := by omega
          have hgd2 : decide ((0 : Int) < (q : Int) + 1) = true := decide_eq_true hgd
          have HRT : Hid (refTow (x0, y0) (x, y) = if adjB (x0, y0) (x, y) then (towD (x0, y0) (x, y) : Int) else -1) := Lib.hid rfl
          clear hx0 ee hwf0 hk0
          cases hq : adjB (x0, y0) (x, y) with
          | true =>
            have HNX := Lib.hid (preOk_succ HP.out HX.out HM.out (fun _ => by rw [Nat.add_sub_cancel, HD1.out]; exact hq))
            rw [hq, if_pos rfl] at HRT
            rw [HRT.out] at HTW
            obtain ⟨td, htd⟩ : ∃ td, towD (x0, y0) (x, y) = td := ⟨_, rfl⟩
            rw [htd] at HTW
            have htn : decide ((td : Int) < 0) = false := decide_eq_false (by omega)
            have htn2 : ¬ (td : Int) < 0 := by omega
            clear hq htd
            refine wp_region_grow (by kernel_rfl) (by kernel_rfl) ?_
            repeat (go_big_quiet_step (first
              | (go_at_call 85; refine grow_of (HHAS.out _ (grow_below _)))
              | (go_at_call 86; refine grow_of (HTW.out _))))
            refine wpQuiet_nil ?_
            intro _ hw'
            obtain ⟨xq, hw''⟩ := hw'
            subst hw''
            have HBt := Lib.hid (HR.out.trans ((HB5.out.trans ((grow_below xq).mono HB5.out.size)).mono HR.out.size))
            clear f0 f1 i1 i2 hw2 hw3 hw4 hgd2 htn
            go_wp2_with fail
            go_roundw
            case rel => exact ⟨q + 1 + 1, by omega, by go_num, HBt, HNX⟩
            case measure => simp [intOf]; omega
          | false =>
            have HRR := Lib.hid (HGC.out q (by omega) (by rw [HD1.out, HD2.out]; exact hq))
            rw [hq, if_neg (by decide)] at HRT
            rw [HRT.out] at HTW
            clear hq
            refine wp_region_grow (by kernel_rfl) (by kernel_rfl) ?_
            repeat (go_big_quiet_step (first
              | (go_at_call 85; refine grow_of (HHAS.out _ (grow_below _)))
              | (go_at_call 86; refine grow_of (HTW.out _))))
            refine wpQuiet_nil ?_
            intro _ hw'
            obtain ⟨xq, hw''⟩ := hw'
            subst hw''
            have HBt := Lib.hid (HR.out.trans ((HB5.out.trans ((grow_below xq).mono HB5.out.size)).mono HR.out.size))
            clear f0 f1 i1 i2 hw2 hw3 hw4 hgd2
            go_wp2_with fail
            go_ret
            exact ⟨by rw [HRR.out]; rfl, HBW.out.trans (HBt.out.mono HBW.out.size)⟩
    · obtain rfl : k = n := by omega
      have HG2 := Lib.hid (HG1.out HP.out)
      obtain ⟨w1, rfl⟩ : ∃ w1, w1 = wr := ⟨_, rfl⟩
      clear HP
      go_wp2_with fail
      go_loopw [46] (fun q wr => ∃ j : Nat, j ≤ k ∧ q = .int .i64 j ∧ Hid (Below w1.heap.size w1 wr) ∧ Hid (∀ i z, i < j → p[i]? = some z → refOpenP w h bl z = true)) (fun q _ => k - (intOf q).toNat)
      case atStart => exact ⟨0, Nat.zero_le _, rfl, Lib.hid (Below.refl _ _), Lib.hid fun i z hi => absurd hi (Nat.not_lt_zero _)⟩
      case round =>
        obtain ⟨j, hj, rfl, HR2, HJ⟩ := hrel
        have HBR2 := Lib.hid (HBR.out.trans (HR2.out.mono HBR.out.size))
        by_cases hjk : j < k
        · have hjk' : (j : Int) < (k : Int) := by omega
          obtain ⟨⟨x, y⟩, hx⟩ : ∃ z, p[j]? = some z := ⟨_, List.getElem?_eq_getElem (by rw [HN.out]; exact hjk)⟩
          obtain ⟨b, off, rfl, e1, e2⟩ := RdP.cell (HA.out.below HBR2.out (Nat.le_refl _)) hx
          have HX := Lib.hid hx
          obtain ⟨m0, m1, m2, m3, m4⟩ := HM0.out
          replace m0 := cell_below (cell_below m0 HR.out) HR2.out
          replace m1 := cell_below (cell_below m1 HR.out) HR2.out
          replace m2 := cell_below (cell_below m2 HR.out) HR2.out
          replace m3 := cell_below (cell_below m3 HR.out) HR2.out
          replace m4 := cell_below (cell_below m4 HR.out) HR2.out
          have hlt := World.block_lt_of_cell? _ _ m0
          have HOC := Lib.hid (HOP.out (x, y))
          dsimp only at e1 e2 HOC
          clear hx
          cases hq : refOpenP w h bl (x, y) with
          | true =>
            have HJ' : Hid (∀ i z, i < j + 1 → p[i]? = some z → refOpenP w h bl z = true) := Lib.hid fun i z hi hz => by
              rcases (by omega : i < j ∨ i = j) with h1 | rfl
              · exact HJ.out i z h1 hz
              · rw [HX.out] at hz; cases hz; exact hq
            rw [hq] at HOC
            clear hq
            go_wp2_with (go_at_call 43; (with_reducible refine (HOC.out _ (HBR2.out.alloc HBR2.out.size _)).mono ?_); rintro e w9 ⟨rfl, hb9⟩; have HB9 := Lib.hid ((HR2.out.alloc HR2.out.size (.cells #[.int .i64 x, .int .i64 y] 26)).trans (hb9.mono (by have := HR2.out.size; simp; omega))); clear hb9)
            go_roundw
            case rel => exact ⟨j + 1, by omega, by go_num, HB9, HJ'⟩
            case measure => simp [intOf]; omega
          | false =>
            have HRR : Hid (r = 72) := Lib.hid (by
              rw [HG2.out, if_neg]
              intro hh
              have := List.all_eq_true.1 hh _ (List.mem_of_getElem? HX.out)
              rw [hq] at this
              cases this)
            rw [hq] at HOC
            clear hq
            go_wp2_with (go_at_call 43; (with_reducible refine (HOC.out _ (HBR2.out.alloc HBR2.out.size _)).mono ?_); rintro e w9 ⟨rfl, hb9⟩; have HB9 := Lib.hid ((HBR2.out.alloc HBR2.out.size (.cells #[.int .i64 x, .int .i64 y] 26)).trans (hb9.mono (by have := HBR2.out.size; simp; omega))); clear hb9)
            go_ret
            exact ⟨by rw [HRR.out]; rfl, HB9.out⟩
        · obtain rfl : j = k := by omega
          have HRR : Hid (r = 0) := Lib.hid (by
            rw [HG2.out, if_pos]
            refine List.all_eq_true.2 fun z hz => ?_
            obtain ⟨i, hi, rfl⟩ := List.mem_iff_getElem.1 hz
            exact HJ.out i _ (by rw [← HN.out]; exact hi) (List.getElem?_eq_getElem hi))
          go_wp2_with fail
          go_ret
          exact ⟨by rw [HRR.out]; rfl, HBR2.out⟩

/-- the document's Check: as the program's -/
theorem RefCheck_any (w h mv bd : Int) (bv : Value) (bl p : List Ce) (v : Value) (W : World) (hb : RdP W bv bl) (hv : RdP W v p) (hw : WfL p) :
    Calls Try.prog 28 #[.agg #[.int .i64 w, .int .i64 h, .int .i64 mv, .int .i64 bd, bv], v] W fun e w' => e = .returned (.int .i64 (checkF w h mv bd bl p)) ∧ Below W.heap.size W w' := by
  have HBW := Lib.hid ((Below.refl W.heap.size W).alloc (Nat.le_refl _) (.cells #[.int .i64 w, .int .i64 h, .int .i64 mv, .int .i64 bd, bv] 24))
  have HGX := Lib.hid (GBx.new1 W w h mv bd bv 24)
  have HVA := Lib.hid (fun V (hV : Below W.heap.size W V) => refValid_any w h mv bd bv bl V (hb.below hV))
  cases hvd : validP w h mv bd bl with
  | false =>
    have HF : Hid (checkF w h mv bd bl p = 70) := Lib.hid (by unfold checkF; rw [hvd]; rfl)
    rw [hvd] at HVA
    obtain ⟨a, cap, rfl, _, _, _, _⟩ := hb
    obtain ⟨a', cap', rfl, _, _, _, _⟩ := hv
    clear hvd hw
    go_enter Try.func28, Try.ntmps28
    go_wp2_with (go_at_call 22; (with_reducible refine (HVA.out _ HBW.out).mono ?_); rintro e w1 ⟨rfl, hb1⟩)
    go_ret
    exact ⟨by rw [HF.out]; rfl, HBW.out.trans (hb1.mono (by simp))⟩
  | true =>
    have HF : Hid (checkF w h mv bd bl p = checkC (refOpenP w h bl) p) := Lib.hid (by unfold checkF; rw [hvd]; rfl)
    have hl := ((validP_iff _ _ _ _ _).1 hvd).1
    have HC := Lib.hid (fun V (hV : Below W.heap.size W V) => refCheck_any w h mv bd bv bl p v V (hb.below hV) (by omega) (hv.below hV) hw)
    rw [hvd] at HVA
    obtain ⟨a, cap, rfl, _, _, _, _⟩ := hb
    obtain ⟨a', cap', rfl, _, _, _, _⟩ := hv
    clear hvd hw hl
    go_enter Try.func28, Try.ntmps28
    go_wp2_with (first
      | (go_at_call 22; (with_reducible refine (HVA.out _ HBW.out).mono ?_); rintro e w1 ⟨rfl, hb1⟩; have HB1 := Lib.hid (HBW.out.trans (hb1.mono (by simp))); obtain ⟨c0, c1, c2, c3, c4⟩ := HGX.out.below hb1; clear hb1)
      | (go_at_call 63; (with_reducible refine (HC.out _ HB1.out).mono ?_); rintro e w2 ⟨rfl, hb2⟩))
    go_ret
    exact ⟨by rw [HF.out]; rfl, HB1.out.trans (hb2.mono HB1.out.size)⟩
end Go.Proofs.Ytpakkjkjppibnaa

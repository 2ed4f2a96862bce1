/- Heat: sane. -/
import Derived.Test.YtnaoanmkepcinaaHSolve
namespace Go.Proofs.Ytnaoanmkepcinaa
open Go.RowKit

def m0 : List (List Int) := [[100, 10], [20, 100]]
theorem m0_det : detN m0 = 9800 ∧ heatE m0 = 0 := by decide
theorem m0_slv : slvE m0 [1000, 1000] = 0 ∧ slvL m0 [1000, 1000] = [(450, 49), (400, 49)] := by decide
theorem m0_rd (w : World) : RdM ((((w.alloc (Obj.cells #[Value.int IntKind.i64 100, Value.int IntKind.i64 10] 3)).alloc
              (Obj.cells #[Value.int IntKind.i64 20, Value.int IntKind.i64 100] 3)).alloc
          (Obj.cells
            #[Value.slice (some { block := w.heap.size, off := 0 }) 2 2,
              Value.slice (some { block := w.heap.size + 1, off := 0 }) 2 2]
            28)).alloc
      (Obj.cells #[Value.slice (some { block := w.heap.size + 1 + 1, off := 0 }) 2 2] 24)) (Value.slice (some { block := w.heap.size + 1 + 1, off := 0 }) 2 2) m0 := by
  have h1 := own_lit w 0 3 #[Value.int IntKind.i64 100, Value.int IntKind.i64 10] 2 (Nat.zero_le _) rfl (by decide)
  generalize e1 : w.alloc (.cells #[Value.int IntKind.i64 100, Value.int IntKind.i64 10] 3) = w1 at *
  have s1 : w1.heap.size = w.heap.size + 1 := by rw [← e1]; simp
  have h2 := own_lit w1 0 3 #[Value.int IntKind.i64 20, Value.int IntKind.i64 100] 2 (Nat.zero_le _) rfl (by decide)
  replace h1 := h1.alloc (.cells #[Value.int IntKind.i64 20, Value.int IntKind.i64 100] 3)
  generalize e2 : w1.alloc (.cells #[Value.int IntKind.i64 20, Value.int IntKind.i64 100] 3) = w2 at *
  have s2 : w2.heap.size = w.heap.size + 1 + 1 := by rw [← e2, ← s1]; simp
  rw [s1] at h2
  have h3 := own_lit w2 0 28 #[Value.slice (some { block := w.heap.size, off := 0 }) 2 2, Value.slice (some { block := w.heap.size + 1, off := 0 }) 2 2] 2 (Nat.zero_le _) rfl (by decide)
  rw [s2] at h3
  refine RdM.below (w := w2.alloc (.cells #[Value.slice (some { block := w.heap.size, off := 0 }) 2 2, Value.slice (some { block := w.heap.size + 1, off := 0 }) 2 2] 28)) ?_ ((Below.refl _ _).alloc (Nat.le_refl _) _)
  refine OwnM.rd (B := 0) ⟨_, h3, fun i x r hx hr => ?_⟩
  match i, hx, hr with
  | 0, hx, hr => simp [m0] at hx hr; subst hx hr; exact h1.alloc _
  | 1, hx, hr => simp [m0] at hx hr; subst hx hr; exact h2.alloc _
  | i + 2, hx, hr => simp [m0] at hr

set_option maxRecDepth 100000 in
set_option maxHeartbeats 2000000 in
theorem sane_any (w : World) : Calls Try.prog 16 #[] w fun e w' => e = .returned (.bool true) ∧ Below w.heap.size w w' := by
  have HR := Lib.hid (m0_rd w)
  have HB0 := Lib.hid (((((Below.refl w.heap.size w).alloc (Nat.le_refl _) (Obj.cells #[Value.int IntKind.i64 100, Value.int IntKind.i64 10] 3)).alloc (by simp)
              (Obj.cells #[Value.int IntKind.i64 20, Value.int IntKind.i64 100] 3)).alloc (by simp; omega)
          (Obj.cells
            #[Value.slice (some { block := w.heap.size, off := 0 }) 2 2,
              Value.slice (some { block := w.heap.size + 1, off := 0 }) 2 2]
            28)).alloc (by simp; omega)
      (Obj.cells #[Value.slice (some { block := w.heap.size + 1 + 1, off := 0 }) 2 2] 24))
  have hm1 : m0.length ≤ 10 := by decide
  have hm2 : ∀ r ∈ m0, r.length ≤ 10 := by decide
  have HD := Lib.hid (Det_any _ m0 _ HR.out hm1 hm2)
  rw [m0_det.1, m0_det.2] at HD
  have HS := Lib.hid fun W hb => Solve_any (.slice (some { block := w.heap.size + 1 + 1, off := 0 }) 2 2) (.slice (some ⟨W.heap.size, 0, none⟩) 2 2) m0 [1000, 1000] (W.alloc (.cells #[.int .i64 1000, .int .i64 1000] 3)) ((HR.out.below (w' := W) hb).below ((Below.refl _ _).alloc (Nat.le_refl _) _)) (Rd.own (own_lit W 0 3 #[.int .i64 1000, .int .i64 1000] 2 (Nat.zero_le _) rfl (by decide))) hm1 hm2 (by decide)
  rw [m0_slv.1, m0_slv.2] at HS
  go_enter Try.func16, Try.ntmps16
  go_wp2_with (first
    | (go_at_call 17; refine HD.out.mono ?_; rintro e w5 ⟨rfl, hb5⟩; have c1 : w5.cell? ⟨w.heap.size + 1 + 1 + 1, 0, none⟩ = some (Value.slice (some { block := w.heap.size + 1 + 1, off := 0 }) 2 2) := cell_below (a := ⟨w.heap.size + 1 + 1 + 1, 0, none⟩) (World.cell?_alloc_at _ _ _ _ (by simp)) hb5; have hb05 := HB0.out.trans (hb5.mono HB0.out.size))
    | (go_at_call 23; refine (HS.out w5 (by exact hb5)).mono ?_; rintro e w6 ⟨u, rfl, hu, hb6⟩; obtain ⟨g1, c1', rfl, hg1, _⟩ := own_some hu (by decide); have c2 : w6.cell? ⟨g1, 0, none⟩ = some (.int .i64 450) := hu.cellAt 0 (by decide); have c3 : w6.cell? ⟨g1, 1, none⟩ = some (.int .i64 49) := hu.cellAt 1 (by decide)))
  go_ret
  exact ⟨rfl, (hb05.alloc hb05.size _).trans (hb6.mono (by have := hb05.size; simp; omega))⟩

end Go.Proofs.Ytnaoanmkepcinaa

/- Turned in both texts. -/
import Derived.Test.YtelnlmhelkcliaaDoorThrough
namespace Go.Proofs.YtelnlmhelkcliaaDoor
open Go.RowKit

theorem Count_any (k : Nat) (n : Int) (w : World) (hk : k ≤ 3) (hn : n = pw k) :
    Calls Tryd.prog 5 #[.int .i64 n] w fun e w' => e = .returned (.tuple #[.int .i64 (cnt k), .int .i64 0]) ∧ w = w' := by
  have HZ := Lib.hid ((szB_iff n).2 ⟨k, hk, hn⟩)
  have HN := Lib.hid hn
  clear hn
  go_enter Tryd.func5, Tryd.ntmps5
  go_wp2_with (first | (go_at_call 11; refine (ports_any _ _).mono ?_; rw [HZ.out]; rintro e w' ⟨rfl, rfl⟩) | (go_at_call 12; refine (count_any k _ _ hk HN.out).mono ?_; rintro e w' ⟨rfl, rfl⟩))
  go_ret2
  exact ⟨rfl, rfl⟩

theorem sane_any (w : World) : Calls Tryd.prog 9 #[] w fun e w' => e = .returned (.bool true) ∧ Below w.heap.size w w' := by
  have hmk : ∀ w, (Instr.makeSlice 27 (.int .i64 6) (.int .i64 6)).run Tryd.prog w = .ok (.slice (some ⟨w.heap.size, 0, none⟩) 6 6) (w.alloc (.cells #[.bool false, .bool false, .bool false, .bool false, .bool false, .bool false] 4)) := fun _ => by kernel_rfl
  have hrd : Rd (w.alloc (.cells #[.bool false, .bool false, .bool false, .bool false, .bool false, .bool false] 4)) (.slice (some ⟨w.heap.size, 0, none⟩) 6 6) (bools [false, false, false, false, false, false]) :=
    Rd.own (own_lit w w.heap.size 4 _ 6 (Nat.le_refl _) rfl (by decide))
  have HB : Below w.heap.size w (w.alloc (.cells #[.bool false, .bool false, .bool false, .bool false, .bool false, .bool false] 4)) := (Below.refl _ _).alloc (Nat.le_refl _) _
  go_enter Tryd.func9, Tryd.ntmps9
  go_wp2_with fail
  refine (Through_any 4 _ _ _ hrd).mono ?_
  rw [show thrL 4 [false, false, false, false, false, false] = [0, 1, 2, 3] from by decide, show fitE 4 ([false, false, false, false, false, false] : List Bool).length = 0 from by decide]
  rintro e w1 ⟨u, rfl, hu, hb1⟩
  obtain ⟨a, cap, rfl, hc, hm, ha, _⟩ := (Rd.own hu).parts (n := 4) rfl
  obtain ⟨b, off, rfl, hcell⟩ := ha.cell (j := 1) (by decide)
  have c1 := hcell 1 (.int .i64 1) rfl
  have hb2 := HB.trans (hb1.mono (by simp))
  clear hcell ha hu hb1 hrd
  go_wp2_with (go_at_call 5; refine (Count_any 1 _ _ (by decide) rfl).mono ?_; rw [show ((cnt 1 : Nat) : Int) = 6 from rfl]; rintro e w' ⟨rfl, rfl⟩)
  go_ret
  exact ⟨rfl, hb2⟩

end Go.Proofs.YtelnlmhelkcliaaDoor

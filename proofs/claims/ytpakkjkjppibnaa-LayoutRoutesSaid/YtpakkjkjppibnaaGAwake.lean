/- Layout: the sanity check of every law: the route on a grid of 4 by 3 cells. -/
import Derived.Test.YtpakkjkjppibnaaGRoute3
namespace Go.Proofs.Ytpakkjkjppibnaa
open Go.RowKit

theorem aw_begins : beginsP (grK 4 3 10 5 [] 0) (fieldP (grK 4 3 10 5 [] 0) (3, 2)) (0, 0) 4 = (55, ((0 : Nat) : Int)) := by decide +kernel
theorem aw_walk : (walkP (grK 4 3 10 5 [] 0) (fieldP (grK 4 3 10 5 [] 0) (3, 2)) (3, 2) 10 [(0, 0), besideP (0, 0) 0] (besideP (0, 0) 0) 0).isSome = true := by decide +kernel
theorem RdP.nil (w : World) : RdP w (.slice none 0 0) [] := ⟨none, 0, rfl, by simp, by simp, .inl rfl, fun _ => rfl⟩

theorem awake_any (w : World) : Calls Try.prog 13 #[] w fun e w' => e = .returned (.bool true) ∧ Below w.heap.size w w' := by
  obtain ⟨res, hres⟩ := Option.isSome_iff_exists.1 aw_walk
  have HR := Lib.hid (route_path 4 3 10 5 (.slice none 0 0) [] (0, 0) (3, 2) w (RdP.nil w) (by decide +kernel) (by decide +kernel) (by decide +kernel) (by decide) (grK 4 3 10 5 [] 0) rfl 55 0 10 res aw_begins (by decide) (by decide) (by decide +kernel) hres (by decide))
  clear hres
  go_enter Try.func13, Try.ntmps13
  go_wp2_with (go_at_call 17; refine HR.out.mono ?_; rintro e w1 ⟨⟨v, rfl, _⟩, hb1⟩)
  go_ret
  exact ⟨rfl, hb1⟩
end Go.Proofs.Ytpakkjkjppibnaa

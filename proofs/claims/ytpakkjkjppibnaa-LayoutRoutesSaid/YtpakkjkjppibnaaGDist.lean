/- Layout: the distances to a place, walked. -/
import Derived.Test.YtpakkjkjppibnaaGFar
import Derived.Lib.MinMax
namespace Go.Proofs.Ytpakkjkjppibnaa
open Go.RowKit

def distCell (w : Nat) (mv : Int) (to : Int × Int) (i : Nat) : Int := mv * (max (((i % w : Nat) : Int) - to.1) (-(((i % w : Nat) : Int) - to.1)) + max (((i / w : Nat) : Int) - to.2) (-(((i / w : Nat) : Int) - to.2)))
def distL (w : Nat) (mv : Int) (to : Int × Int) (k : Nat) : List Int := (List.range k).map (distCell w mv to)
theorem distL_succ (w : Nat) (mv : Int) (to : Int × Int) (k : Nat) : distL w mv to (k + 1) = distL w mv to k ++ [distCell w mv to k] := by simp [distL, List.range_succ]
theorem distL_len (w : Nat) (mv : Int) (to : Int × Int) (k : Nat) : (distL w mv to k).length = k := by simp [distL]

set_option maxRecDepth 100000 in
theorem dist_any (w h : Nat) (mv bd : Int) (bv : Value) (to : Int × Int) (W : World) (hw : 1 ≤ w ∧ w ≤ 30) (hh : 1 ≤ h ∧ h ≤ 30) (hm : 1 ≤ mv ∧ mv ≤ 1000) (h1 : 0 ≤ to.1 ∧ to.1 ≤ 30) (h2 : 0 ≤ to.2 ∧ to.2 ≤ 30) :
    Calls Try.prog 23 #[.agg #[.int .i64 w, .int .i64 h, .int .i64 mv, .int .i64 bd, bv], .agg #[.int .i64 to.1, .int .i64 to.2]] W fun e w' => ∃ v, e = .returned v ∧ w'.ownsRow W.heap.size 3 1 v (w * h) (ints (distL w mv to (w * h))) ∧ Below W.heap.size W w' := by
  have hbW := Lib.hid (((Below.refl W.heap.size W).alloc (Nat.le_refl _) (.cells #[.int .i64 w, .int .i64 h, .int .i64 mv, .int .i64 bd, bv] 24)).alloc (by simp) (.cells #[.int .i64 to.1, .int .i64 to.2] 26))
  have HBX := Lib.hid (BxAt.new W (.cells #[.int .i64 w, .int .i64 h, .int .i64 mv, .int .i64 bd, bv] 24) to.1 to.2 26)
  have HGX := Lib.hid (GBx.new W w h mv bd bv 24 (.cells #[.int .i64 to.1, .int .i64 to.2] 26))
  have hcells : 1 ≤ w * h ∧ w * h ≤ 900 := ⟨Nat.mul_le_mul hw.1 hh.1, Nat.mul_le_mul hw.2 hh.2⟩
  obtain ⟨N, hN⟩ : ∃ N, w * h = N := ⟨_, rfl⟩
  have hNi : (w : Int) * (h : Int) = (N : Int) := by rw [← hN]; simp
  rw [hN] at hcells ⊢
  have hwN : IntKind.i64.wrap (N : Int) = (N : Int) := IntWalk.i64_in _ (by clear hNi; omega)
  have HH := Lib.hid hh
  clear hN hh
  obtain ⟨t1, t2⟩ := to
  dsimp only at *
  go_enter Try.func23, Try.ntmps23
  go_wp2_with fail
  generalize hW1 : (W.alloc (.cells #[.int .i64 w, .int .i64 h, .int .i64 mv, .int .i64 bd, bv] 24)).alloc (.cells #[.int .i64 t1, .int .i64 t2] 26) = W1 at *
  clear hW1
  go_loopw [5, 14] (fun o i wr => ∃ k : Nat, k ≤ N ∧ i = .int .i64 k ∧ Hid (wr.ownsRow W1.heap.size 3 1 o k (ints (distL w mv (t1, t2) k))) ∧ Hid (Below W1.heap.size W1 wr)) (fun _ i _ => N - (intOf i).toNat)
  case atStart => exact ⟨0, Nat.zero_le _, rfl, Lib.hid (World.ownsRow_nil _ _ _ _), Lib.hid (Below.refl _ _)⟩
  case round =>
    obtain ⟨k, hk, rfl, HO, HR⟩ := hrel
    by_cases hkN : k < N
    · have hkN' : (k : Int) < (N : Int) := by omega
      obtain ⟨x1, x2⟩ := HBX.out.below HR.out
      obtain ⟨q0, q1, q2, q3, q4⟩ := HGX.out.below HR.out
      have hr : ((k : Int)).tmod (w : Int) = ((k % w : Nat) : Int) := (Int.ofNat_tmod _ _).symm
      have hq : ((k : Int)).tdiv (w : Int) = ((k / w : Nat) : Int) := (Int.ofNat_tdiv _ _).symm
      have hle : k / w ≤ k := Nat.div_le_self _ _
      have hlm : k % w < w := Nat.mod_lt _ (by omega)
      have HLS := Lib.hid (distL_succ w mv (t1, t2) k)
      have HDC : Hid (distCell w mv (t1, t2) k = mv * (max (((k % w : Nat) : Int) - t1) (-(((k % w : Nat) : Int) - t1)) + max (((k / w : Nat) : Int) - t2) (-(((k / w : Nat) : Int) - t2)))) := Lib.hid rfl
      have hn0 : ¬ ((w : Int) = 0) := by omega
      have hnz : ¬ (w = 0) := by omega
      obtain ⟨q, hq'⟩ : ∃ q, k / w = q := ⟨_, rfl⟩
      obtain ⟨r, hr'⟩ : ∃ r, k % w = r := ⟨_, rfl⟩
      rw [hq'] at hq hle HDC
      rw [hr'] at hr hlm HDC
      clear hq' hr'
      have hwq : IntKind.i64.wrap (q : Int) = (q : Int) := IntWalk.i64_in _ (by omega)
      obtain ⟨x, hx⟩ : ∃ x, (r : Int) - t1 = x := ⟨_, rfl⟩
      obtain ⟨y, hy⟩ : ∃ y, (q : Int) - t2 = y := ⟨_, rfl⟩
      have hx9 : -1000 ≤ x ∧ x ≤ 1000 := by omega
      have hy9 : -1000 ≤ y ∧ y ≤ 1000 := by omega
      rw [hx, hy] at HDC
      have hwx : IntKind.i64.wrap x = x := IntWalk.i64_in _ (by omega)
      have hwy : IntKind.i64.wrap y = y := IntWalk.i64_in _ (by omega)
      have hwnx : IntKind.i64.wrap (-x) = -x := IntWalk.i64_in _ (by omega)
      have hwny : IntKind.i64.wrap (-y) = -y := IntWalk.i64_in _ (by omega)
      have hmx : 0 ≤ max x (-x) ∧ max x (-x) ≤ 1000 := by omega
      have hmy : 0 ≤ max y (-y) ∧ max y (-y) ≤ 1000 := by omega
      have hws : IntKind.i64.wrap (max x (-x) + max y (-y)) = max x (-x) + max y (-y) := IntWalk.i64_in _ (by omega)
      have hwm : IntKind.i64.wrap (mv * (max x (-x) + max y (-y))) = mv * (max x (-x) + max y (-y)) := IntWalk.i64_in _ (by
        have a1 : 0 ≤ mv * (max x (-x) + max y (-y)) := Int.mul_nonneg (by omega) (by omega)
        have a2 : mv * (max x (-x) + max y (-y)) ≤ 1000 * 2000 := Int.mul_le_mul hm.2 (by omega) (by omega) (by omega)
        omega)
      go_wp2_with fail
      have e0 := fun x : Grow wr => grow_cell q0 x
      have e1 := fun x : Grow wr => grow_cell x1 x
      have e2 := fun x : Grow wr => grow_cell x2 x
      refine wp_region_grow (by kernel_rfl) (by kernel_rfl) ?_
      repeat (go_big_quiet_step (fail))
      refine wpQuiet_nil ?_
      intro _ hw'
      obtain ⟨xq, hw''⟩ := hw'
      subst hw''
      have HBq := Lib.hid (grow_below xq)
      clear e0 e1 e2
      generalize grow xq = w3 at *
      obtain ⟨q0, q1, q2, q3, q4⟩ := HGX.out.below (HR.out.trans (HBq.out.mono HR.out.size))
      have HBt := Lib.hid (HR.out.trans (HBq.out.mono HR.out.size))
      have HOt := Lib.hid (own_below HO.out HBq.out)
      clear hmx hmy hx9 hy9
      go_wp2_with (at_builtin; refine app1 el_num rfl rfl (w0 := W1) rfl (by rfl) (by exact HBt.out) (by exact HOt.out) rfl (by omega) ?_; intro v9 w9 ho9 hb9 hg9)
      go_roundw
      case rel => exact ⟨k + 1, by omega, by go_num, Lib.hid (by rw [HLS.out, HDC.out, ints_append]; exact ho9), Lib.hid hb9⟩
      case measure => simp [intOf]; omega
    · obtain rfl : k = N := by omega
      go_wp2_with fail
      go_ret
      exact ⟨_, rfl, own_le HO.out hbW.out.size, hbW.out.trans (HR.out.mono hbW.out.size)⟩
end Go.Proofs.Ytpakkjkjppibnaa

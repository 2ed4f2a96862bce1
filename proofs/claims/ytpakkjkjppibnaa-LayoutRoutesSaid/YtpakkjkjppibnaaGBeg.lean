/- Layout: the field in memory, and the least cost of a path that begins at a cell. -/
import Derived.Test.YtpakkjkjppibnaaGOpen
namespace Go.Proofs.Ytpakkjkjppibnaa
open Go.RowKit

/-- the table of a field in memory -/
def FldAt (W : World) (fb n : Nat) (o : List (List Int)) : Prop := ∀ i d, i < n → d < 4 → W.cell? ⟨fb, i * 4 + d, none⟩ = some (.int .i64 (outGet o i d))
theorem FldAt.below {W W' : World} {fb n : Nat} {o : List (List Int)} (h : FldAt W fb n o) (hb : Below W.heap.size W W') : FldAt W' fb n o := fun i d hi hd => cell_below (h i d hi hd) hb
def begStep (g : Gr) (o : List (List Int)) (c : Int × Int) (s : Int × Int) (d : Nat) : Int × Int :=
  if openP g (besideP c d) then
    if outGet o (indexP g (besideP c d)).toNat d < 0 then s
    else if s.1 < 0 then (g.move + outGet o (indexP g (besideP c d)).toNat d, (d : Int))
    else if g.move + outGet o (indexP g (besideP c d)).toNat d < s.1 then (g.move + outGet o (indexP g (besideP c d)).toNat d, (d : Int)) else s
  else s
def beginsP (g : Gr) (o : List (List Int)) (c : Int × Int) (k : Nat) : Int × Int := (List.range k).foldl (begStep g o c) (-1, 0)
theorem beginsP_succ (g : Gr) (o : List (List Int)) (c : Int × Int) (k : Nat) : beginsP g o c (k + 1) = begStep g o c (beginsP g o c k) k := by
  unfold beginsP; rw [List.range_succ, List.foldl_append]; rfl
theorem openP_on {g : Gr} {c : Int × Int} (h : openP g c = true) : onP g.w g.h c = true := by unfold openP at h; simp at h; exact h.1
theorem beside_near {c : Int × Int} {d : Nat} {B : Int} (h1 : -B ≤ c.1) (h2 : c.1 ≤ B) (h3 : -B ≤ c.2) (h4 : c.2 ≤ B) : -(B + 1) ≤ (besideP c d).1 ∧ (besideP c d).1 ≤ B + 1 ∧ -(B + 1) ≤ (besideP c d).2 ∧ (besideP c d).2 ≤ B + 1 := by
  unfold besideP; split <;> refine ⟨?_, ?_, ?_, ?_⟩ <;> dsimp only <;> omega

set_option maxRecDepth 100000 in
set_option maxHeartbeats 4000000 in
theorem begins_any (Bg : Nat) (g : Gr) (bl : Value) (sa : Option Addr) (sc : Nat) (fb cap : Nat) (o : List (List Int)) (c : Int × Int) (w : World) (hg : GridAt w Bg g bl sa sc) (hf : FldAt w fb (g.w * g.h) o)
    (hob : ∀ i d, outGet o i d ≤ 1000000000) (h1 : -1000 ≤ c.1) (h2 : c.1 ≤ 1000) (h3 : -1000 ≤ c.2) (h4 : c.2 ≤ 1000) :
    Calls Try.prog 42 #[.pointer (some ⟨Bg, 0, none⟩), .slice (some ⟨fb, 0, none⟩) (g.w * g.h) cap, .agg #[.int .i64 c.1, .int .i64 c.2]] w fun e w' => e = .returned (.tuple #[.int .i64 (beginsP g o c 4).1, .int .i64 (beginsP g o c 4).2]) ∧ Below w.heap.size w w' := by
  have HG := Lib.hid hg
  have HF := Lib.hid hf
  have HOB := Lib.hid hob
  have HM1 := hg.m1
  have HM2 := hg.m2
  obtain ⟨N, hN⟩ : ∃ N, g.w * g.h = N := ⟨_, rfl⟩
  have HN := Lib.hid hN
  rw [hN] at HF ⊢
  have hz : N < 4294967296 := by have := hg.w2; have := hg.h2; rw [← hN]; exact Nat.lt_of_le_of_lt (Nat.mul_le_mul hg.w2 hg.h2) (by omega)
  obtain ⟨x, y⟩ := c
  dsimp only at *
  have HB0 := Lib.hid (beginsP_succ g o (x, y))
  have HZ : Hid (beginsP g o (x, y) 0 = (-1, 0)) := Lib.hid rfl
  clear hg hf hob hN
  go_enter Try.func42, Try.ntmps42
  go_wp2_with fail
  have hbW := (Below.refl w.heap.size w).alloc (Nat.le_refl _) (.cells #[.int .i64 x, .int .i64 y] 26)
  have HD0 := Lib.hid (show (w.alloc (.cells #[.int .i64 x, .int .i64 y] 26)).cell? ⟨w.heap.size, 0, none⟩ = some (.int .i64 x) from World.cell?_alloc_at _ _ _ _ rfl)
  have HD1 := Lib.hid (show (w.alloc (.cells #[.int .i64 x, .int .i64 y] 26)).cell? ⟨w.heap.size, 1, none⟩ = some (.int .i64 y) from World.cell?_alloc_at _ _ _ _ rfl)
  generalize hW : w.alloc (.cells #[.int .i64 x, .int .i64 y] 26) = W at *
  clear hW
  have HBW := Lib.hid hbW
  clear hbW
  go_loopw [6, 7, 11] (fun a b p wr => ∃ k : Nat, k ≤ 4 ∧ p = .int .i64 k ∧ a = .int .i64 (beginsP g o (x, y) k).1 ∧ b = .int .i64 (beginsP g o (x, y) k).2 ∧ Hid (Below W.heap.size W wr)) (fun _ _ p _ => 4 - (intOf p).toNat)
  case atStart => exact ⟨0, by omega, rfl, by rw [HZ.out], by rw [HZ.out], Lib.hid (Below.refl _ _)⟩
  case round =>
    obtain ⟨k, hk, rfl, rfl, rfl, HR⟩ := hrel
    by_cases hk4 : k < 4
    · have HS := Lib.hid (HB0.out k)
      have c0 := cell_below HD0.out HR.out
      have c1 := cell_below HD1.out HR.out
      obtain ⟨nx, hnx⟩ : ∃ nx, besideP (x, y) k = nx := ⟨_, rfl⟩
      have HNX := Lib.hid hnx
      have hnear := beside_near (d := k) (c := (x, y)) (B := 1000) h1 h2 h3 h4
      rw [hnx] at hnear
      have HBS := Lib.hid (fun W => beside_any (x, y) k (by omega) W (by dsimp only; omega) (by dsimp only; omega) (by dsimp only; omega) (by dsimp only; omega))
      rw [hnx] at HBS
      have HOP := Lib.hid (fun (V : World) (h : Below wr.heap.size wr V) => open_any Bg g bl sa sc nx V (((HG.out.below HBW.out).below HR.out).below h))
      have hlt := World.block_lt_of_cell? _ _ c0
      obtain ⟨nx1, nx2⟩ := nx
      obtain ⟨⟨b1, b2⟩, hbb⟩ : ∃ q, beginsP g o (x, y) k = q := ⟨_, rfl⟩
      have HBB := Lib.hid hbb
      rw [hbb]
      dsimp only at *
      clear hnx hbb
      cases hop : openP g (nx1, nx2) with
      | false =>
        rw [hop] at HOP
        have HST : Hid (begStep g o (x, y) (b1, b2) k = (b1, b2)) := Lib.hid (by unfold begStep; rw [HNX.out, hop]; rfl)
        clear hop
        go_wp2_with (first
          | (go_at_call 46; refine (HBS.out _).mono ?_; rintro e w1 ⟨rfl, hb1⟩; have hs1 := hb1.size)
          | (go_at_call 39; refine (HOP.out _ (hb1.alloc (by omega) _)).mono ?_; rintro e w2 ⟨rfl, hb2⟩))
        go_roundw
        case rel => exact ⟨k + 1, by omega, by go_num, by rw [HS.out, HBB.out, HST.out], by rw [HS.out, HBB.out, HST.out], Lib.hid (HR.out.trans (((hb1.alloc (by omega) _).trans (hb2.mono (by simp; omega))).mono HR.out.size))⟩
        case measure => simp [intOf]; omega
      | true =>
        have hon := openP_on hop
        have hsm := Gr.small (((HG.out.below HBW.out).below HR.out)) hon
        obtain ⟨j, hj⟩ : ∃ j : Nat, indexP g (nx1, nx2) = j := ⟨(indexP g (nx1, nx2)).toNat, by omega⟩
        rw [hj] at hsm
        have hjN : j < N := by have := hsm.2.2.2.2.2.1; rw [← HN.out]; exact_mod_cast this
        have hjN' : (j : Int) < (N : Int) := by omega
        have HIX := Lib.hid (fun (V : World) (h : Below wr.heap.size wr V) => index_any Bg g bl sa sc (nx1, nx2) V (((HG.out.below HBW.out).below HR.out).below h) hon)
        rw [hj] at HIX
        rw [hop] at HOP
        obtain ⟨v, hv⟩ : ∃ v, outGet o j k = v := ⟨_, rfl⟩
        have hv9 : v ≤ 1000000000 := by rw [← hv]; exact HOB.out j k
        have HFC := Lib.hid (fun (V : World) (h : Below wr.heap.size wr V) => cell_below (cell_below (cell_below (HF.out j k hjN hk4) HBW.out) HR.out) h)
        have HGC := Lib.hid (fun (V : World) (h : Below wr.heap.size wr V) => (((HG.out.below HBW.out).below HR.out).below h).c2)
        rw [hv] at HFC
        have HST : Hid (begStep g o (x, y) (b1, b2) k = if v < 0 then (b1, b2) else if b1 < 0 then (g.move + v, (k : Int)) else if g.move + v < b1 then (g.move + v, (k : Int)) else (b1, b2)) := Lib.hid (by unfold begStep; rw [HNX.out, hop, if_pos rfl, hj, Int.toNat_natCast, hv])
        clear hop hon hj hv hsm
        by_cases hv0 : v < 0
        · rw [if_pos hv0] at HST
          go_wp2_with (first
            | (go_at_call 46; refine (HBS.out _).mono ?_; rintro e w1 ⟨rfl, hb1⟩; have hs1 := hb1.size; have HB1 := Lib.hid (hb1.alloc hs1 (.cells #[.int .i64 nx1, .int .i64 nx2] 26)))
            | (go_at_call 39; refine (HOP.out _ (HB1.out)).mono ?_; rintro e w2 ⟨rfl, hb2⟩; have n0 : w2.cell? ⟨w1.heap.size, 0, none⟩ = some (.int .i64 nx1) := cell_below (World.cell?_alloc_at _ _ _ _ rfl) hb2; have n1 : w2.cell? ⟨w1.heap.size, 1, none⟩ = some (.int .i64 nx2) := cell_below (World.cell?_alloc_at _ _ _ _ rfl) hb2; have HB2 := Lib.hid (HB1.out.trans (hb2.mono HB1.out.size)))
            | (go_at_call 47; refine (HIX.out _ HB2.out).mono ?_; rintro e w3 ⟨rfl, hb3⟩; have HB3 := Lib.hid (HB2.out.trans (hb3.mono HB2.out.size)); have f3 := HFC.out _ HB3.out))
          go_roundw
          case rel => exact ⟨k + 1, by omega, by go_num, by rw [HS.out, HBB.out, HST.out], by rw [HS.out, HBB.out, HST.out], Lib.hid (HR.out.trans (HB3.out.mono HR.out.size))⟩
          case measure => simp [intOf]; omega
        · rw [if_neg hv0] at HST
          have hv0' : ¬ v < 0 := hv0
          have hw1 : wrap64 (g.move + v) = g.move + v := by unfold wrap64; omega
          go_wp2_with (first
            | (go_at_call 46; refine (HBS.out _).mono ?_; rintro e w1 ⟨rfl, hb1⟩; have hs1 := hb1.size; have HB1 := Lib.hid (hb1.alloc hs1 (.cells #[.int .i64 nx1, .int .i64 nx2] 26)))
            | (go_at_call 39; refine (HOP.out _ (HB1.out)).mono ?_; rintro e w2 ⟨rfl, hb2⟩; have n0 : w2.cell? ⟨w1.heap.size, 0, none⟩ = some (.int .i64 nx1) := cell_below (World.cell?_alloc_at _ _ _ _ rfl) hb2; have n1 : w2.cell? ⟨w1.heap.size, 1, none⟩ = some (.int .i64 nx2) := cell_below (World.cell?_alloc_at _ _ _ _ rfl) hb2; have HB2 := Lib.hid (HB1.out.trans (hb2.mono HB1.out.size)))
            | (go_at_call 47; refine (HIX.out _ HB2.out).mono ?_; rintro e w3 ⟨rfl, hb3⟩; have HB3 := Lib.hid (HB2.out.trans (hb3.mono HB2.out.size)); have f3 := HFC.out _ HB3.out; have m0 := cell_below n0 hb3; have m1 := cell_below n1 hb3))
          have HW3 := Lib.hid hb3
          have e1 := fun x : Grow w3 => grow_cell f3 x
          have e2 := fun x : Grow w3 => grow_cell m0 x
          have e3 := fun x : Grow w3 => grow_cell m1 x
          have e4 := fun x : Grow w3 => grow_cell (HGC.out _ HB3.out) x
          clear c0 c1 n0 n1 f3 m0 m1 hb1 hb2 hb3
          refine wp_region_grow (by kernel_rfl) (by kernel_rfl) ?_
          repeat (go_big_quiet_step (first
            | (go_at_call 47; refine grow_of (HIX.out _ (HB3.out.trans ((grow_below _).mono HB3.out.size))))))
          refine wpQuiet_nil ?_
          intro _ hw'
          obtain ⟨xq, hw''⟩ := hw'
          subst hw''
          have HB4 := Lib.hid (HB3.out.trans ((grow_below xq).mono HB3.out.size))
          clear e1 e2 e3 e4
          by_cases hb10 : b1 < 0
          · rw [if_pos hb10] at HST
            go_wp2_with fail
            go_roundw
            case rel => exact ⟨k + 1, by omega, by go_num, by rw [HS.out, HBB.out, HST.out], by rw [HS.out, HBB.out, HST.out], Lib.hid (HR.out.trans (HB4.out.mono HR.out.size))⟩
            case measure => simp [intOf]; omega
          · rw [if_neg hb10] at HST
            by_cases hlt2 : g.move + v < b1
            · rw [if_pos hlt2] at HST
              go_wp2_with fail
              go_roundw
              case rel => exact ⟨k + 1, by omega, by go_num, by rw [HS.out, HBB.out, HST.out], by rw [HS.out, HBB.out, HST.out], Lib.hid (HR.out.trans (HB4.out.mono HR.out.size))⟩
              case measure => simp [intOf]; omega
            · rw [if_neg hlt2] at HST
              go_wp2_with fail
              go_roundw
              case rel => exact ⟨k + 1, by omega, by go_num, by rw [HS.out, HBB.out, HST.out], by rw [HS.out, HBB.out, HST.out], Lib.hid (HR.out.trans (HB4.out.mono HR.out.size))⟩
              case measure => simp [intOf]; omega
    · obtain rfl : k = 4 := by omega
      go_wp2_with fail
      go_ret2
      exact ⟨rfl, HBW.out.trans (HR.out.mono HBW.out.size)⟩
end Go.Proofs.Ytpakkjkjppibnaa

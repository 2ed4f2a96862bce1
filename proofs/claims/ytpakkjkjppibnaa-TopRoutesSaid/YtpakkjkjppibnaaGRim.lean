/- Layout: the rim of a grid. -/
import Derived.Test.YtpakkjkjppibnaaGDel2
import Derived.Test.YtpakkjkjppibnaaKRoute
namespace Go.Proofs.Ytpakkjkjppibnaa
open Go.RowKit

def preB (w k : Nat) : List Ce := (List.range k).map fun (y : Nat) => ((w : Int) - 1, (y : Int) + 1)
def preC (w h k : Nat) : List Ce := (List.range k).map fun (j : Nat) => ((w : Int) - 2 - j, (h : Int) - 1)
def preD (h k : Nat) : List Ce := (List.range k).map fun (j : Nat) => ((0 : Int), (h : Int) - 2 - j)
theorem rimA_succ (k : Nat) : rimA (k + 1) = rimA k ++ [((k : Int), (0 : Int))] := by unfold rimA; rw [List.range_succ, List.map_append]; rfl
theorem preB_succ (w k : Nat) : preB w (k + 1) = preB w k ++ [((w : Int) - 1, (k : Int) + 1)] := by unfold preB; rw [List.range_succ, List.map_append]; rfl
theorem preC_succ (w h k : Nat) : preC w h (k + 1) = preC w h k ++ [((w : Int) - 2 - k, (h : Int) - 1)] := by unfold preC; rw [List.range_succ, List.map_append]; rfl
theorem preD_succ (h k : Nat) : preD h (k + 1) = preD h k ++ [((0 : Int), (h : Int) - 2 - k)] := by unfold preD; rw [List.range_succ, List.map_append]; rfl
/-- an owned list of cells -/
def OwnL (w wr : World) (v : Value) (L : List Ce) : Prop := wr.ownsRow w.heap.size 26 2 v L.length (pairs L) ∧ Below w.heap.size w wr
theorem OwnL.snoc {w w' : World} {v : Value} {L : List Ce} {x y : Int} (h : w'.ownsRow w.heap.size 26 2 v (L.length + 1) (pairs L ++ #[Value.int .i64 x, Value.int .i64 y].toList)) (hb : Below w.heap.size w w') : OwnL w w' v (L ++ [(x, y)]) := by
  refine ⟨?_, hb⟩
  rw [pairs_append, List.length_append]
  exact h
theorem litK {x : Int} (h1 : -1000 ≤ x) (h2 : x ≤ 1000) : (Lit.int .i64 x).wf = true := by
  simp [Lit.wf]
  have e1 : IntKind.i64.min = -9223372036854775808 := by decide
  have e2 : IntKind.i64.max = 9223372036854775807 := by decide
  omega
theorem rim_eg : ∀ args w, (callFunc 81 args).run Try.prog w = .ok (.enter 81 args) w := by
  intro args w
  exact enters_of Try.func81 (by kernel_rfl) rfl args w

set_option maxRecDepth 100000 in
set_option maxHeartbeats 4000000 in
theorem rim_any (Bg : Nat) (g : Gr) (bl : Value) (sa : Option Addr) (sc : Nat) (w : World) (hg : GridAt w Bg g bl sa sc) :
    Calls Try.prog 56 #[.pointer (some ⟨Bg, 0, none⟩)] w fun e w' => ∃ u, e = .returned u ∧ w'.ownsRow w.heap.size 26 2 u (rimL g.w g.h).length (pairs (rimL g.w g.h)) ∧ Below w.heap.size w w' := by
  have h1 := hg.w1
  have h2 := hg.w2
  have h3 := hg.h1
  have h4 := hg.h2
  have HC0 := Lib.hid hg.c0
  have HC1 := Lib.hid hg.c1
  clear hg
  obtain ⟨X, hX⟩ : ∃ X, g.w = X := ⟨_, rfl⟩
  obtain ⟨Y, hY⟩ : ∃ Y, g.h = Y := ⟨_, rfl⟩
  rw [hX] at HC0 h1 h2
  rw [hY] at HC1 h3 h4
  rw [hX, hY]
  clear hX hY
  have c0 := HC0.out
  have c1 := HC1.out
  have hr1 : IntKind.i64.wrap ((X : Int) - 1) = (X : Int) - 1 := IntWalk.i64_in _ (by omega)
  have hr2 : IntKind.i64.wrap ((X : Int) - 2) = (X : Int) - 2 := IntWalk.i64_in _ (by omega)
  have hr3 : IntKind.i64.wrap ((Y : Int) - 1) = (Y : Int) - 1 := IntWalk.i64_in _ (by omega)
  have hr4 : IntKind.i64.wrap ((Y : Int) - 2) = (Y : Int) - 2 := IntWalk.i64_in _ (by omega)
  go_enter Try.func56, Try.ntmps56
  go_wp2
  clear c0 c1
  go_loopw [3, 14] (fun v i wr => ∃ (k : Nat) (L : List Ce), k ≤ X ∧ i = .int .i64 k ∧ Hid (L = rimA k) ∧ Hid (OwnL w wr v L)) (fun _ i _ => X - (intOf i).toNat)
  case atStart => exact ⟨0, [], Nat.zero_le _, rfl, Lib.hid rfl, Lib.hid ⟨World.ownsRow_nil _ _ _ _, Below.refl _ _⟩⟩
  case round =>
    obtain ⟨k, L, hk, rfl, HL, HO⟩ := hrel
    by_cases hlt : k < X
    · have hlt' : (k : Int) < (X : Int) := by omega
      have HB := Lib.hid HO.out.2
      have hle : L.length ≤ 4000 := by rw [HL.out]; simp [rimA]; omega
      go_wp2_with (at_builtin; refine appK el_xy rfl rfl (w0 := w) rfl rfl (by exact HO.out.2) (by exact HO.out.1) rfl (by simp [Value.oneCell']) (by omega) ?_; intro v2 w2 ho2 hb2 _)
      go_roundw
      case rel => exact ⟨k + 1, _, by omega, by go_num, Lib.hid (by rw [rimA_succ, ← HL.out]), Lib.hid (OwnL.snoc ho2 hb2)⟩
      case measure => simp [intOf]; omega
    · obtain rfl : X = k := by omega
      have HO1 := Lib.hid HO.out
      have HL1 := Lib.hid HL.out
      obtain ⟨wo1, rfl⟩ : ∃ wo, wo = wr := ⟨_, rfl⟩
      go_wp2_with fail
      go_loopw [3, 5] (fun v i wr => ∃ (k : Nat) (L : List Ce), k ≤ Y - 1 ∧ i = .int .i64 ((k : Int) + 1) ∧ Hid (L = rimA X ++ preB X k) ∧ Hid (OwnL w wr v L)) (fun _ i _ => Y - (intOf i).toNat)
      case atStart => exact ⟨0, _, Nat.zero_le _, by go_num, Lib.hid (by rw [HL1.out]; simp [preB]), Lib.hid HO1.out⟩
      case round =>
        clear HL HO
        obtain ⟨k, L, hk, rfl, HL, HO⟩ := hrel
        have c0 := cell_below HC0.out HO.out.2
        have c1 := cell_below HC1.out HO.out.2
        by_cases hlt : k + 1 < Y
        · have hlt' : (k : Int) + 1 < (Y : Int) := by omega
          have hle : L.length ≤ 4000 := by rw [HL.out]; simp [rimA, preB]; omega
          go_wp2_with (at_builtin; refine appK el_xy rfl rfl (w0 := w) rfl rfl (by exact HO.out.2) (by exact HO.out.1) rfl (by simp [Value.oneCell']) (by omega) ?_; intro v2 w2 ho2 hb2 _)
          go_roundw
          case rel => exact ⟨k + 1, _, by omega, by go_num, Lib.hid (by rw [preB_succ, ← List.append_assoc, ← HL.out]), Lib.hid (OwnL.snoc ho2 hb2)⟩
          case measure => simp [intOf]; omega
        · have hlt' : ¬ (k : Int) + 1 < (Y : Int) := by omega
          have HO2 := Lib.hid HO.out
          have HL2 : Hid (L = rimA X ++ rimB X Y) := Lib.hid (by rw [HL.out, show k = Y - 1 by omega]; rfl)
          obtain ⟨wo2, rfl⟩ : ∃ wo, wo = wr := ⟨_, rfl⟩
          go_wp2_with fail
          clear c0 c1
          go_loopw [3, 6] (fun v i wr => ∃ (k : Nat) (L : List Ce), k ≤ X - 1 ∧ i = .int .i64 ((X : Int) - 2 - (k : Int)) ∧ Hid (L = rimA X ++ rimB X Y ++ preC X Y k) ∧ Hid (OwnL w wr v L)) (fun _ i _ => (intOf i + 1).toNat)
          case atStart => exact ⟨0, _, Nat.zero_le _, by go_num, Lib.hid (by rw [HL2.out]; simp [preC]), Lib.hid HO2.out⟩
          case round =>
            clear HL HO
            obtain ⟨k, L, hk, rfl, HL, HO⟩ := hrel
            have c0 := cell_below HC0.out HO.out.2
            have c1 := cell_below HC1.out HO.out.2
            by_cases hlt : k < X - 1
            · have hlt' : (0 : Int) ≤ (X : Int) - 2 - (k : Int) := by omega
              have hle : L.length ≤ 4000 := by rw [HL.out]; simp [rimA, rimB, preC]; omega
              go_wp2_with (at_builtin; refine appK el_xy rfl rfl (w0 := w) rfl rfl (by exact HO.out.2) (by exact HO.out.1) rfl (by simp [Value.oneCell']) (by omega) ?_; intro v2 w2 ho2 hb2 _)
              go_roundw
              case rel => exact ⟨k + 1, _, by omega, by go_num, Lib.hid (by rw [preC_succ, ← List.append_assoc, ← HL.out]), Lib.hid (OwnL.snoc ho2 hb2)⟩
              case measure => simp [intOf]; omega
            · have hlt' : ¬ (0 : Int) ≤ (X : Int) - 2 - (k : Int) := by omega
              have HO3 := Lib.hid HO.out
              have HL3 : Hid (L = rimA X ++ rimB X Y ++ rimC' X Y) := Lib.hid (by rw [HL.out, show k = X - 1 by omega]; rfl)
              obtain ⟨wo3, rfl⟩ : ∃ wo, wo = wr := ⟨_, rfl⟩
              go_wp2_with fail
              clear c0 c1
              go_loopw [3, 7] (fun v i wr => ∃ (k : Nat) (L : List Ce), k ≤ Y - 2 ∧ i = .int .i64 ((Y : Int) - 2 - (k : Int)) ∧ Hid (L = rimA X ++ rimB X Y ++ rimC' X Y ++ preD Y k) ∧ Hid (OwnL w wr v L)) (fun _ i _ => (intOf i + 1).toNat)
              case atStart => exact ⟨0, _, Nat.zero_le _, by go_num, Lib.hid (by rw [HL3.out]; simp [preD]), Lib.hid HO3.out⟩
              case round =>
                clear HL HO
                obtain ⟨k, L, hk, rfl, HL, HO⟩ := hrel
                by_cases hlt : k < Y - 2
                · have hlt' : (0 : Int) < (Y : Int) - 2 - (k : Int) := by omega
                  have hle : L.length ≤ 4000 := by rw [HL.out]; simp [rimA, rimB, rimC', preD]; omega
                  go_wp2_with (at_builtin; refine appK el_xy rfl rfl (w0 := w) rfl rfl (by exact HO.out.2) (by exact HO.out.1) rfl (by simp [Value.oneCell']) (by omega) ?_; intro v2 w2 ho2 hb2 _)
                  go_roundw
                  case rel => exact ⟨k + 1, _, by omega, by go_num, Lib.hid (by rw [preD_succ, ← List.append_assoc, ← HL.out]), Lib.hid (OwnL.snoc ho2 hb2)⟩
                  case measure => simp [intOf]; omega
                · have hlt' : ¬ (0 : Int) < (Y : Int) - 2 - (k : Int) := by omega
                  have HL4 : Hid (L = rawR X Y) := Lib.hid (by rw [HL.out, show k = Y - 2 by omega]; rfl)
                  obtain ⟨N, hN⟩ : ∃ N, L.length = N := ⟨_, rfl⟩
                  have hlen := rawR_len X Y ⟨h1, h2⟩ ⟨h3, h4⟩
                  rw [← HL4.out, hN] at hlen
                  have HW : Hid (∀ c ∈ L, WfC c) := Lib.hid fun c hc => by
                    have := rawR_small X Y ⟨h1, h2⟩ ⟨h3, h4⟩ c (by rw [← HL4.out]; exact hc)
                    exact ⟨litK (by omega) (by omega), litK (by omega) (by omega)⟩
                  have hO := HO.out
                  have HBE := Lib.hid hO.2
                  have hO := hO.1
                  rw [hN] at hO
                  obtain ⟨gb, cp, rfl, hg1, hg2⟩ := own_some hO (by omega)
                  have HOW := Lib.hid hO
                  have HN := Lib.hid hN
                  have HLN := Lib.hid hlen
                  clear hO hN hlen HO HL
                  have hmm := @run_makeMap Try.prog
                  have hgl := (HOW.out.lt gb rfl)
                  have HDEL := Lib.hid (del_any 81 rim_eg gb N cp w.heap.size (wr.heap.size + 1) wr.heap.size L ((wr.alloc (.map #[] 0)).alloc (.cells #[.map (some wr.heap.size)] 120))
                    (fun c W n l hS hc hn => rim1_any c W _ _ n l hS hc hn) ((HOW.out.alloc _).alloc _) HN.out (by have := HLN.out; omega)
                    ⟨World.cell?_alloc_at _ _ _ _ (by simp), (MSet.made wr).below ((Below.refl _ _).alloc (Nat.le_refl _) _), by omega⟩ (by omega) (by omega) HW.out (by have := HBE.out.size; simp; omega) hgl.1 HBE.out.size)
                  have HBV : Hid (Below w.heap.size w ((wr.alloc (.map #[] 0)).alloc (.cells #[.map (some wr.heap.size)] 120))) := Lib.hid ((HBE.out.alloc HBE.out.size _).alloc (by have := HBE.out.size; simp; omega) _)
                  clear hgl
                  go_wp2_with (go_at_call 80; (with_reducible refine HDEL.out.mono ?_); rintro e w5 ⟨M, rfl, ho5, hb5⟩)
                  go_ret
                  have hM : M = (rimL X Y).length := by
                    have h5 := ho5.1
                    rw [pairs_length] at h5
                    rw [show rimL X Y = ddL L by rw [HL4.out]; rfl]
                    omega
                  refine ⟨_, rfl, ?_, HBV.out.trans hb5⟩
                  rw [← hM, show rimL X Y = ddL L by rw [HL4.out]; rfl]
                  exact ho5
end Go.Proofs.Ytpakkjkjppibnaa

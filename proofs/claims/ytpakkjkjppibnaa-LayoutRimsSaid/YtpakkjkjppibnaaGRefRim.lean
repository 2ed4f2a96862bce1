/- Layout: the reference's put, index, rim, Rim. -/
import Derived.Test.YtpakkjkjppibnaaGRim2
import Derived.Test.YtpakkjkjppibnaaKRefCk
namespace Go.Proofs.Ytpakkjkjppibnaa
open Go.RowKit

set_option maxHeartbeats 1000000 in
theorem refIndex_any (l : List Ce) (v : Value) (x y : Int) (w : World) (hv : RdP w v l) (hn : l.length ≤ 4000000) :
    Calls Try.prog 57 #[v, .agg #[.int .i64 x, .int .i64 y]] w fun e w' => e = .returned (.int .i64 (idxC l (x, y))) ∧ Below w.heap.size w w' := by
  have hbw : Below w.heap.size w (w.alloc (.cells #[.int .i64 x, .int .i64 y] 26)) := (Below.refl w.heap.size w).alloc (Nat.le_refl _) _
  have hEQ := fun a b c d W => eqXY a b c d W
  obtain ⟨a, cap, rfl, hc, hcm, ha, _⟩ := hv
  have c0 : (w.alloc (.cells #[.int .i64 x, .int .i64 y] 26)).cell? ⟨w.heap.size, 0, none⟩ = some (.int .i64 x) := World.cell?_alloc_at _ _ _ _ rfl
  have c1 : (w.alloc (.cells #[.int .i64 x, .int .i64 y] 26)).cell? ⟨w.heap.size, 1, none⟩ = some (.int .i64 y) := World.cell?_alloc_at _ _ _ _ rfl
  obtain ⟨n, hnn⟩ : ∃ n, l.length = n := ⟨_, rfl⟩
  have HN := Lib.hid hnn
  rw [hnn] at hc hn ⊢
  obtain ⟨wb, hwb⟩ : ∃ wb, w.alloc (.cells #[.int .i64 x, .int .i64 y] 26) = wb := ⟨_, rfl⟩
  have HWB := Lib.hid hwb
  rw [hwb] at hbw c0 c1
  have HBW := Lib.hid hbw
  have HC0 := Lib.hid c0
  have HC1 := Lib.hid c1
  clear hwb hbw hnn c0 c1
  go_enter Try.func57, Try.ntmps57
  go_wp2_with fail
  rw [HWB.out]
  go_loopw [9] (fun p wr => ∃ k : Nat, k ≤ n ∧ p = .int .i64 k ∧ Hid (Below wb.heap.size wb wr) ∧ Hid (∀ j z, j < k → l[j]? = some z → z ≠ (x, y))) (fun p _ => n - (intOf p).toNat)
  case atStart => exact ⟨0, Nat.zero_le _, rfl, Lib.hid (Below.refl _ _), Lib.hid fun j z h => absurd h (Nat.not_lt_zero _)⟩
  case round =>
    obtain ⟨k, hk, rfl, HR, HA⟩ := hrel
    have HBB := Lib.hid (HBW.out.trans (HR.out.mono HBW.out.size))
    have d0 := cell_below HC0.out HR.out
    have d1 := cell_below HC1.out HR.out
    have hlt := World.block_lt_of_cell? _ _ d0
    by_cases hkn : k < n
    · obtain ⟨⟨p, q⟩, hz⟩ : ∃ z, l[k]? = some z := ⟨_, List.getElem?_eq_getElem (by rw [HN.out]; exact hkn)⟩
      obtain ⟨b, off, rfl, e1, e2⟩ := RdP.cell (ha.below HBB.out (Nat.le_refl _)) hz
      have HZ := Lib.hid hz
      clear hz
      dsimp only at e1 e2
      by_cases hpq : p = x ∧ q = y
      · obtain ⟨rfl, rfl⟩ := hpq
        have HD : Hid (idxC l (p, q) = k) := Lib.hid (idxC_hit HZ.out HA.out)
        go_wp2_with fail
        go_ret
        exact ⟨by rw [HD.out]; rfl, HBB.out.alloc HBB.out.size _⟩
      · have hpq' : (p == x && q == y) = false := by
          rw [Bool.eq_false_iff]; intro hh; simp at hh; exact hpq hh
        have HA' : Hid (∀ j z, j < k + 1 → l[j]? = some z → z ≠ (x, y)) := Lib.hid fun j z hj hz e => by
          rcases (by omega : j < k ∨ j = k) with h1 | rfl
          · exact HA.out j z h1 hz e
          · rw [HZ.out] at hz
            cases hz
            exact hpq ⟨by injection e, by injection e⟩
        go_wp2_with fail
        go_roundw
        case rel => exact ⟨k + 1, by omega, by go_num, Lib.hid (HR.out.alloc HR.out.size _), HA'⟩
        case measure => simp [intOf]; omega
    · obtain rfl : k = n := by omega
      have HD : Hid (idxC l (x, y) = -1) := Lib.hid (idxC_miss fun j z hj hz => HA.out j z (by rw [← HN.out]; exact hj) hz)
      go_wp2_with fail
      go_ret
      exact ⟨by rw [HD.out]; rfl, HBB.out⟩

theorem own_lowerR {w : World} {base base' : Nat} {e : TypeId} {size : Nat} {v : Value} {n : Nat} {xs : List Value} (h : w.ownsRow base e size v n xs) (hb : base' ≤ base) : w.ownsRow base' e size v n xs := by
  rcases h with ⟨h1, h2 | ⟨g, cap, cur, r1, r2, r3⟩⟩
  · exact ⟨h1, .inl h2⟩
  · exact ⟨h1, .inr ⟨g, cap, cur, r1, Nat.le_trans hb r2, r3⟩⟩
theorem OwnL.rd {w wr : World} {v : Value} {L : List Ce} (h : OwnL w wr v L) : RdP wr v L := RdP.own h.1 rfl
set_option maxHeartbeats 1000000 in
theorem put_any (w : World) (v : Value) (L : List Ce) (x y : Int) (W : World) (ho : OwnL w W v L) (hn : L.length ≤ 4000) :
    Calls Try.prog 82 #[v, .int .i64 x, .int .i64 y] W fun e w' => ∃ u, e = .returned u ∧ OwnL w w' u (putL L (x, y)) := by
  have HHS := Lib.hid (fun V (hV : Below W.heap.size W V) => refHas_any L v x y V (ho.rd.below hV) (by omega))
  have HB0 := Lib.hid ((Below.refl W.heap.size W).alloc (Nat.le_refl _) (.cells #[.int .i64 x, .int .i64 y] 26))
  have HO := Lib.hid ho
  obtain ⟨a, c, hform, _⟩ := ho.rd
  subst hform
  have b0 : (W.alloc (.cells #[.int .i64 x, .int .i64 y] 26)).cell? ⟨W.heap.size, 0, none⟩ = some (.int .i64 x) := World.cell?_alloc_at _ _ _ _ rfl
  have b1 : (W.alloc (.cells #[.int .i64 x, .int .i64 y] 26)).cell? ⟨W.heap.size, 1, none⟩ = some (.int .i64 y) := World.cell?_alloc_at _ _ _ _ rfl
  have HC0 := Lib.hid b0
  have HC1 := Lib.hid b1
  obtain ⟨P, hP⟩ : ∃ P, putL L (x, y) = P := ⟨_, rfl⟩
  have HP := Lib.hid hP
  rw [hP]
  clear ho hP b0 b1
  by_cases hm : (x, y) ∈ L
  · have HE : Hid (P = L) := Lib.hid (by rw [← HP.out]; unfold putL; rw [if_pos hm])
    rw [decide_eq_true hm] at HHS
    clear hm
    go_enter Try.func82, Try.ntmps82
    go_wp2_with (go_at_call 85; (with_reducible refine (HHS.out _ HB0.out).mono ?_); rintro e w2 ⟨rfl, hb2⟩)
    go_ret
    have hb := HB0.out.trans (hb2.mono HB0.out.size)
    exact ⟨_, rfl, by rw [HE.out]; exact ⟨own_below HO.out.1 hb, HO.out.2.trans (hb.mono HO.out.2.size)⟩⟩
  · have HE : Hid (P = L ++ [(x, y)]) := Lib.hid (by rw [← HP.out]; unfold putL; rw [if_neg hm])
    rw [decide_eq_false hm] at HHS
    clear hm
    go_enter Try.func82, Try.ntmps82
    go_wp2_with (first
      | (go_at_call 85; (with_reducible refine (HHS.out _ HB0.out).mono ?_); rintro e w2 ⟨rfl, hb2⟩; have HB2 := Lib.hid (HB0.out.trans (hb2.mono HB0.out.size)); have d0 := cell_below HC0.out hb2; have d1 := cell_below HC1.out hb2; have HO2 := Lib.hid (own_below HO.out.1 HB2.out); have HBL := Lib.hid (HO.out.2.trans (HB2.out.mono HO.out.2.size)); clear hb2)
      | (at_builtin; refine appK el_xy rfl rfl (w0 := w) rfl rfl (by exact HBL.out) (by exact HO2.out) rfl (by simp [Value.oneCell']) (by omega) ?_; intro v3 w3 ho3 hb3 _))
    go_ret
    exact ⟨_, rfl, by rw [HE.out]; exact OwnL.snoc ho3 hb3⟩

def preB2 (w k : Nat) : List Ce := (List.range k).map fun (y : Nat) => ((w : Int) - 1, (y : Int))
def preC2 (w h k : Nat) : List Ce := (List.range k).map fun (j : Nat) => ((w : Int) - 1 - j, (h : Int) - 1)
def preD2 (h k : Nat) : List Ce := (List.range k).map fun (j : Nat) => ((0 : Int), (h : Int) - 1 - j)
theorem preB2_succ (w k : Nat) : preB2 w (k + 1) = preB2 w k ++ [((w : Int) - 1, (k : Int))] := by unfold preB2; rw [List.range_succ, List.map_append]; rfl
theorem preC2_succ (w h k : Nat) : preC2 w h (k + 1) = preC2 w h k ++ [((w : Int) - 1 - k, (h : Int) - 1)] := by unfold preC2; rw [List.range_succ, List.map_append]; rfl
theorem preD2_succ (h k : Nat) : preD2 h (k + 1) = preD2 h k ++ [((0 : Int), (h : Int) - 1 - k)] := by unfold preD2; rw [List.range_succ, List.map_append]; rfl
theorem ddL_add (l : List Ce) (c : Ce) (m : List Ce) : putL (ddL (l ++ m)) c = ddL (l ++ (m ++ [c])) := by rw [← List.append_assoc, ddL_snoc]

set_option maxRecDepth 100000 in
set_option maxHeartbeats 4000000 in
theorem refRim_any (X Y : Nat) (mv bd : Int) (bv : Value) (w : World) (h1 : 1 ≤ X) (h2 : X ≤ 30) (h3 : 1 ≤ Y) (h4 : Y ≤ 30) :
    Calls Try.prog 58 #[.agg #[.int .i64 X, .int .i64 Y, .int .i64 mv, .int .i64 bd, bv]] w fun e w' => ∃ u, e = .returned u ∧ OwnL w w' u (rimL X Y) := by
  have HGX := Lib.hid (GBx.new1 w X Y mv bd bv 24)
  have HBW := Lib.hid ((Below.refl w.heap.size w).alloc (Nat.le_refl _) (.cells #[.int .i64 X, .int .i64 Y, .int .i64 mv, .int .i64 bd, bv] 24))
  have hsz : w.heap.size ≤ (w.alloc (.cells #[.int .i64 X, .int .i64 Y, .int .i64 mv, .int .i64 bd, bv] 24)).heap.size := by simp
  have HSZ := Lib.hid hsz
  obtain ⟨wb, hwb⟩ : ∃ wb, w.alloc (.cells #[.int .i64 X, .int .i64 Y, .int .i64 mv, .int .i64 bd, bv] 24) = wb := ⟨_, rfl⟩
  have HWB := Lib.hid hwb
  rw [hwb] at HGX HBW HSZ
  have HPU := Lib.hid (fun (v : Value) (L : List Ce) (x y : Int) (W : World) (ho : OwnL wb W v L) (hn : L.length ≤ 4000) => put_any wb v L x y W ho hn)
  have hr1 : IntKind.i64.wrap ((X : Int) - 1) = (X : Int) - 1 := IntWalk.i64_in _ (by omega)
  have hr3 : IntKind.i64.wrap ((Y : Int) - 1) = (Y : Int) - 1 := IntWalk.i64_in _ (by omega)
  have e0 := HGX.out.1
  have e1 := HGX.out.2.1
  clear hsz hwb
  go_enter Try.func58, Try.ntmps58
  go_wp2_with fail
  rw [HWB.out]
  go_wp2_with fail
  clear e0 e1
  go_loopw [3, 10] (fun v i wr => ∃ (k : Nat) (L : List Ce), k ≤ X ∧ i = .int .i64 k ∧ Hid (L = ddL (rimA k)) ∧ Hid (OwnL wb wr v L)) (fun _ i _ => X - (intOf i).toNat)
  case atStart => exact ⟨0, [], Nat.zero_le _, rfl, Lib.hid rfl, Lib.hid ⟨World.ownsRow_nil _ _ _ _, Below.refl _ _⟩⟩
  case round =>
    obtain ⟨k, L, hk, rfl, HL, HO⟩ := hrel
    by_cases hlt : k < X
    · have hlt' : (k : Int) < (X : Int) := by omega
      have hle : L.length ≤ 4000 := by rw [HL.out]; refine Nat.le_trans (ddL_len _) ?_; simp [rimA]; omega
      go_wp2_with (go_at_call 82; (with_reducible refine (HPU.out _ _ _ _ _ HO.out hle).mono ?_); rintro e w2 ⟨u2, rfl, ho2⟩; have HO2 := Lib.hid ho2; clear ho2)
      go_roundw
      case rel => exact ⟨k + 1, _, by omega, by go_num, Lib.hid (by rw [rimA_succ, ddL_snoc, ← HL.out]), HO2⟩
      case measure => simp [intOf]; omega
    · obtain rfl : X = k := by omega
      have HO1 := Lib.hid HO.out
      have HL1 := Lib.hid HL.out
      obtain ⟨wo1, rfl⟩ : ∃ wo, wo = wr := ⟨_, rfl⟩
      have e0 := (HGX.out.below HO1.out.2).1
      have e1 := (HGX.out.below HO1.out.2).2.1
      go_wp2_with fail
      clear e0 e1
      go_loopw [3, 19] (fun v i wr => ∃ (k : Nat) (L : List Ce), k ≤ Y ∧ i = .int .i64 k ∧ Hid (L = ddL (rimA X ++ preB2 X k)) ∧ Hid (OwnL wb wr v L)) (fun _ i _ => Y - (intOf i).toNat)
      case atStart => exact ⟨0, _, Nat.zero_le _, by go_num, Lib.hid (by rw [HL1.out]; simp [preB2]), Lib.hid HO1.out⟩
      case round =>
        clear HL HO
        obtain ⟨k, L, hk, rfl, HL, HO⟩ := hrel
        have e0 := (HGX.out.below HO.out.2).1
        have e1 := (HGX.out.below HO.out.2).2.1
        by_cases hlt : k < Y
        · have hlt' : (k : Int) < (Y : Int) := by omega
          have hle : L.length ≤ 4000 := by rw [HL.out]; refine Nat.le_trans (ddL_len _) ?_; simp [rimA, preB2]; omega
          go_wp2_with (go_at_call 82; (with_reducible refine (HPU.out _ _ _ _ _ HO.out hle).mono ?_); rintro e w2 ⟨u2, rfl, ho2⟩; have HO2 := Lib.hid ho2; clear ho2)
          go_roundw
          case rel => exact ⟨k + 1, _, by omega, by go_num, Lib.hid (by rw [preB2_succ, ← ddL_add, ← HL.out]), HO2⟩
          case measure => simp [intOf]; omega
        · obtain rfl : Y = k := by omega
          have HO2 := Lib.hid HO.out
          have HL2 : Hid (L = ddL (rimA X ++ rimB2 X Y)) := Lib.hid HL.out
          obtain ⟨wo2, rfl⟩ : ∃ wo, wo = wr := ⟨_, rfl⟩
          go_wp2_with fail
          clear e0 e1
          go_loopw [3, 6] (fun v i wr => ∃ (k : Nat) (L : List Ce), k ≤ X ∧ i = .int .i64 ((X : Int) - 1 - (k : Int)) ∧ Hid (L = ddL (rimA X ++ rimB2 X Y ++ preC2 X Y k)) ∧ Hid (OwnL wb wr v L)) (fun _ i _ => (intOf i + 1).toNat)
          case atStart => exact ⟨0, _, Nat.zero_le _, by go_num, Lib.hid (by rw [HL2.out]; simp [preC2]), Lib.hid HO2.out⟩
          case round =>
            clear HL HO
            obtain ⟨k, L, hk, rfl, HL, HO⟩ := hrel
            have e0 := (HGX.out.below HO.out.2).1
            have e1 := (HGX.out.below HO.out.2).2.1
            by_cases hlt : k < X
            · have hlt' : (0 : Int) ≤ (X : Int) - 1 - (k : Int) := by omega
              have hle : L.length ≤ 4000 := by rw [HL.out]; refine Nat.le_trans (ddL_len _) ?_; simp [rimA, rimB2, preC2]; omega
              go_wp2_with (go_at_call 82; (with_reducible refine (HPU.out _ _ _ _ _ HO.out hle).mono ?_); rintro e w2 ⟨u2, rfl, ho2⟩; have HO2 := Lib.hid ho2; clear ho2)
              go_roundw
              case rel => exact ⟨k + 1, _, by omega, by go_num, Lib.hid (by rw [preC2_succ, ← ddL_add, ← HL.out]), HO2⟩
              case measure => simp [intOf]; omega
            · have hlt' : ¬ (0 : Int) ≤ (X : Int) - 1 - (k : Int) := by omega
              have HO3 := Lib.hid HO.out
              have HL3 : Hid (L = ddL (rimA X ++ rimB2 X Y ++ rimC2 X Y)) := Lib.hid (by rw [HL.out, show k = X by omega]; rfl)
              obtain ⟨wo3, rfl⟩ : ∃ wo, wo = wr := ⟨_, rfl⟩
              go_wp2_with fail
              clear e0 e1
              go_loopw [3, 7] (fun v i wr => ∃ (k : Nat) (L : List Ce), k ≤ Y ∧ i = .int .i64 ((Y : Int) - 1 - (k : Int)) ∧ Hid (L = ddL (rimA X ++ rimB2 X Y ++ rimC2 X Y ++ preD2 Y k)) ∧ Hid (OwnL wb wr v L)) (fun _ i _ => (intOf i + 1).toNat)
              case atStart => exact ⟨0, _, Nat.zero_le _, by go_num, Lib.hid (by rw [HL3.out]; simp [preD2]), Lib.hid HO3.out⟩
              case round =>
                clear HL HO
                obtain ⟨k, L, hk, rfl, HL, HO⟩ := hrel
                by_cases hlt : k < Y
                · have hlt' : (0 : Int) ≤ (Y : Int) - 1 - (k : Int) := by omega
                  have hle : L.length ≤ 4000 := by rw [HL.out]; refine Nat.le_trans (ddL_len _) ?_; simp [rimA, rimB2, rimC2, preD2]; omega
                  go_wp2_with (go_at_call 82; (with_reducible refine (HPU.out _ _ _ _ _ HO.out hle).mono ?_); rintro e w2 ⟨u2, rfl, ho2⟩; have HO2 := Lib.hid ho2; clear ho2)
                  go_roundw
                  case rel => exact ⟨k + 1, _, by omega, by go_num, Lib.hid (by rw [preD2_succ, ← ddL_add, ← HL.out]), HO2⟩
                  case measure => simp [intOf]; omega
                · have hlt' : ¬ (0 : Int) ≤ (Y : Int) - 1 - (k : Int) := by omega
                  have HL4 : Hid (L = rimL X Y) := Lib.hid (by rw [HL.out, show k = Y by omega, ← rim_same X Y h1 h3]; rfl)
                  go_wp2_with fail
                  go_ret
                  refine ⟨_, rfl, ?_⟩
                  rw [← HL4.out]
                  exact ⟨own_lowerR HO.out.1 HSZ.out, HBW.out.trans (HO.out.2.mono HSZ.out)⟩
end Go.Proofs.Ytpakkjkjppibnaa

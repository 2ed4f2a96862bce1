/- Heat: lists of pairs, read; predicates over them handed to the library. -/
import Derived.Test.YtnaoanmkepcinaaHApp
namespace Go.Proofs.Ytnaoanmkepcinaa
open Go.RowKit

/-- a list of pairs, read -/
def RdP (w : World) (v : Value) (l : List (Int × Int)) : Prop :=
  ∃ a cap, v = .slice a l.length cap ∧ l.length ≤ cap ∧ cap ≤ maxLen ∧ CellsAt w a (pairs l) ∧ (a = none → cap = 0)
theorem RdP.below {w w' : World} {v : Value} {l : List (Int × Int)} (h : RdP w v l) (hb : Below w.heap.size w w') : RdP w' v l := by
  obtain ⟨a, cap, h1, h2, h3, h4, h5⟩ := h
  exact ⟨a, cap, h1, h2, h3, h4.below hb (Nat.le_refl _), h5⟩
theorem RdP.own {w : World} {B n : Nat} {e : TypeId} {v : Value} {l : List (Int × Int)} (h : w.ownsRow B e 2 v n (pairs l)) (hn : n = l.length) : RdP w v l := by
  subst hn
  rcases h.2 with ⟨rfl, h0⟩ | ⟨g, cap, cur, rfl, hb, hg, hcn, hcm, hcs, htake⟩
  · obtain rfl : l = [] := List.eq_nil_of_length_eq_zero h0
    exact ⟨none, 0, rfl, by simp, by simp, .inl rfl, fun _ => rfl⟩
  · refine ⟨some ⟨g, 0, none⟩, cap, rfl, hcn, hcm, .inr ⟨g, 0, rfl, fun j u hj => ?_⟩, by simp⟩
    have hjl : j < l.length * 2 := by
      have := (List.getElem?_eq_some_iff.1 hj).1
      rwa [pairs_length] at this
    rw [Nat.zero_add, h.cellAt j (by omega), hj]

/-- the cells of one pair -/
theorem RdP.cell {w : World} {a : Option Addr} {l : List (Int × Int)} (h : CellsAt w a (pairs l)) {j : Nat} {x : Int × Int} (hx : l[j]? = some x) :
    ∃ b off, a = some ⟨b, off, none⟩ ∧ w.cell? ⟨b, off + j * 2, none⟩ = some (.int .i64 x.1) ∧ w.cell? ⟨b, off + j * 2 + 1, none⟩ = some (.int .i64 x.2) := by
  have hp := pairs_get hx
  have hj := (List.getElem?_eq_some_iff.1 hx).1
  obtain ⟨b, off, rfl, hc⟩ := h.cell (j := j * 2) (by rw [pairs_length]; omega)
  exact ⟨b, off, rfl, hc _ _ hp.1, hc _ _ hp.2⟩

/-- A predicate over pairs handed to the library. -/
def PredP (g : Nat) (lb : Array Value) (l : List (Int × Int)) (p : Nat → Bool) (w : World) : Prop :=
  ∀ (W : World) (j : Nat) (x : Int × Int), l[j]? = some x → Below w.heap.size w W → Calls Try.prog g (#[.agg #[.int .i64 x.1, .int .i64 x.2]] ++ lb) W fun e w' => e = .returned (.bool (p j)) ∧ Below W.heap.size W w'

set_option maxHeartbeats 1000000 in
theorem idx_rat (p : Nat → Bool) (g : Nat) (lb : Array Value) (eg : ∀ args w, (callFunc g args).run Try.prog w = .ok (.enter g args) w) (l : List (Int × Int)) (v : Value) (w : World) (hp : PredP g lb l p w) (hv : RdP w v l) (hn : l.length ≤ 4000000) :
    Calls Try.prog 83 #[v, .func (.func g) #[] lb] w fun e w' => e = .returned (.int .i64 (firstP p l.length)) ∧ Below w.heap.size w w' := by
  obtain ⟨a, cap, rfl, hc, hcm, ha, _⟩ := hv
  have HP := Lib.hid hp
  clear hp
  go_enter Try.func83, Try.ntmps83
  go_wp2
  go_loopw [5, 8] (fun _ s8 wr => ∃ kk : Nat, kk ≤ l.length ∧ s8 = .int .i64 kk ∧ Below w.heap.size w wr ∧ Hid (∀ j, j < kk → p j = false)) (fun _ s8 _ => l.length - (intOf s8).toNat)
  case atStart => exact ⟨0, Nat.zero_le _, rfl, Below.refl _ w, Lib.hid fun j hj => absurd hj (Nat.not_lt_zero _)⟩
  case round =>
    obtain ⟨kk, hkk, rfl, BW, A⟩ := hrel
    by_cases hlt : kk < l.length
    · obtain ⟨x, hx⟩ : ∃ x, l[kk]? = some x := ⟨_, List.getElem?_eq_getElem hlt⟩
      obtain ⟨b, off, rfl, c1, c2⟩ := RdP.cell (ha.below BW (Nat.le_refl _)) hx
      have hcall := Lib.hid (HP.out wr kk x hx BW)
      clear hx ha
      cases hq : p kk with
      | true =>
        rw [hq] at hcall
        have HF := Lib.hid (firstP_hit hlt hq A.out)
        clear hq
        go_wp2_with (go_at_fn g; refine hcall.out.mono ?_; rintro e w' ⟨rfl, hb'⟩)
        go_ret
        exact ⟨by rw [HF.out]; rfl, BW.trans (hb'.mono BW.size)⟩
      | false =>
        rw [hq] at hcall
        have HA : Hid (∀ j, j < kk + 1 → p j = false) := Lib.hid fun j hj => by
          by_cases e : j = kk
          · subst e; exact hq
          · exact A.out j (by omega)
        clear hq
        go_wp2_with (go_at_fn g; refine hcall.out.mono ?_; rintro e w' ⟨rfl, hb'⟩)
        go_roundw
        case rel => exact ⟨kk + 1, by omega, by go_num, BW.trans (hb'.mono BW.size), HA⟩
        case measure => simp [intOf]; omega
    · obtain rfl : kk = l.length := by omega
      have HF := Lib.hid (firstP_miss A.out)
      go_wp2
      go_ret
      exact ⟨by rw [HF.out]; rfl, BW⟩

theorem has_rat (p : Nat → Bool) (g : Nat) (lb : Array Value) (eg : ∀ args w, (callFunc g args).run Try.prog w = .ok (.enter g args) w) (l : List (Int × Int)) (v : Value) (w : World) (hp : PredP g lb l p w) (hv : RdP w v l) (hn : l.length ≤ 4000000) (t : Bool) (ht : (List.range l.length).any p = t) :
    Calls Try.prog 68 #[v, .func (.func g) #[] lb] w fun e w' => e = .returned (.bool t) ∧ Below w.heap.size w w' := by
  have hcall := Lib.hid (idx_rat p g lb eg l v w hp hv hn)
  have ht2 : Hid (decide (0 ≤ firstP p l.length) = t) := Lib.hid (by rw [firstP_any]; exact ht)
  obtain ⟨a, cap, rfl, hc, hcm, ha, _⟩ := hv
  generalize firstP p l.length = y at hcall ht2
  clear ht hp ha
  go_enter Try.func68, Try.ntmps68
  go_wp2_with (go_at_call 83; refine hcall.out.mono ?_; rintro e w' ⟨rfl, hb'⟩)
  go_ret
  exact ⟨by rw [ht2.out]; rfl, hb'⟩

set_option maxHeartbeats 1000000 in
theorem idx_stp (p : Nat → Bool) (g : Nat) (lb : Array Value) (eg : ∀ args w, (callFunc g args).run Try.prog w = .ok (.enter g args) w) (l : List (Int × Int)) (v : Value) (w : World) (hp : PredP g lb l p w) (hv : RdP w v l) (hn : l.length ≤ 4000000) :
    Calls Try.prog 79 #[v, .func (.func g) #[] lb] w fun e w' => e = .returned (.int .i64 (firstP p l.length)) ∧ Below w.heap.size w w' := by
  obtain ⟨a, cap, rfl, hc, hcm, ha, _⟩ := hv
  have HP := Lib.hid hp
  clear hp
  go_enter Try.func79, Try.ntmps79
  go_wp2
  go_loopw [5, 8] (fun _ s8 wr => ∃ kk : Nat, kk ≤ l.length ∧ s8 = .int .i64 kk ∧ Below w.heap.size w wr ∧ Hid (∀ j, j < kk → p j = false)) (fun _ s8 _ => l.length - (intOf s8).toNat)
  case atStart => exact ⟨0, Nat.zero_le _, rfl, Below.refl _ w, Lib.hid fun j hj => absurd hj (Nat.not_lt_zero _)⟩
  case round =>
    obtain ⟨kk, hkk, rfl, BW, A⟩ := hrel
    by_cases hlt : kk < l.length
    · obtain ⟨x, hx⟩ : ∃ x, l[kk]? = some x := ⟨_, List.getElem?_eq_getElem hlt⟩
      obtain ⟨b, off, rfl, c1, c2⟩ := RdP.cell (ha.below BW (Nat.le_refl _)) hx
      have hcall := Lib.hid (HP.out wr kk x hx BW)
      clear hx ha
      cases hq : p kk with
      | true =>
        rw [hq] at hcall
        have HF := Lib.hid (firstP_hit hlt hq A.out)
        clear hq
        go_wp2_with (go_at_fn g; refine hcall.out.mono ?_; rintro e w' ⟨rfl, hb'⟩)
        go_ret
        exact ⟨by rw [HF.out]; rfl, BW.trans (hb'.mono BW.size)⟩
      | false =>
        rw [hq] at hcall
        have HA : Hid (∀ j, j < kk + 1 → p j = false) := Lib.hid fun j hj => by
          by_cases e : j = kk
          · subst e; exact hq
          · exact A.out j (by omega)
        clear hq
        go_wp2_with (go_at_fn g; refine hcall.out.mono ?_; rintro e w' ⟨rfl, hb'⟩)
        go_roundw
        case rel => exact ⟨kk + 1, by omega, by go_num, BW.trans (hb'.mono BW.size), HA⟩
        case measure => simp [intOf]; omega
    · obtain rfl : kk = l.length := by omega
      have HF := Lib.hid (firstP_miss A.out)
      go_wp2
      go_ret
      exact ⟨by rw [HF.out]; rfl, BW⟩

theorem has_stp (p : Nat → Bool) (g : Nat) (lb : Array Value) (eg : ∀ args w, (callFunc g args).run Try.prog w = .ok (.enter g args) w) (l : List (Int × Int)) (v : Value) (w : World) (hp : PredP g lb l p w) (hv : RdP w v l) (hn : l.length ≤ 4000000) (t : Bool) (ht : (List.range l.length).any p = t) :
    Calls Try.prog 51 #[v, .func (.func g) #[] lb] w fun e w' => e = .returned (.bool t) ∧ Below w.heap.size w w' := by
  have hcall := Lib.hid (idx_stp p g lb eg l v w hp hv hn)
  have ht2 : Hid (decide (0 ≤ firstP p l.length) = t) := Lib.hid (by rw [firstP_any]; exact ht)
  obtain ⟨a, cap, rfl, hc, hcm, ha, _⟩ := hv
  generalize firstP p l.length = y at hcall ht2
  clear ht hp ha
  go_enter Try.func51, Try.ntmps51
  go_wp2_with (go_at_call 79; refine hcall.out.mono ?_; rintro e w' ⟨rfl, hb'⟩)
  go_ret
  exact ⟨by rw [ht2.out]; rfl, hb'⟩

end Go.Proofs.Ytnaoanmkepcinaa

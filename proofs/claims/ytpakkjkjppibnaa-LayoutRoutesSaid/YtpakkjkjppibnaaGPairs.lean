/- Layout: lists of cells (pairs of numbers), read; predicates over them handed to the library. -/
import Derived.Test.YtpakkjkjppibnaaGField
namespace Go.Proofs.Ytpakkjkjppibnaa
open Go.RowKit

/-- pairs as cells -/
def pairs (l : List (Int × Int)) : List Value := l.flatMap fun x => [.int .i64 x.1, .int .i64 x.2]
theorem pairs_append (l m : List (Int × Int)) : pairs (l ++ m) = pairs l ++ pairs m := by simp [pairs]
theorem pairs_length (l : List (Int × Int)) : (pairs l).length = l.length * 2 := by
  induction l with
  | nil => rfl
  | cons x l ih => simp only [pairs, List.flatMap_cons, List.length_append, List.length_cons, List.length_nil] at *; omega
theorem pairs_get {l : List (Int × Int)} : ∀ {j : Nat} {x : Int × Int}, l[j]? = some x → (pairs l)[j * 2]? = some (.int .i64 x.1) ∧ (pairs l)[j * 2 + 1]? = some (.int .i64 x.2) := by
  induction l with
  | nil => intro j x h; simp at h
  | cons y l ih =>
    intro j x h
    match j, h with
    | 0, h => simp at h; subst h; exact ⟨rfl, rfl⟩
    | j + 1, h =>
      simp at h
      have := ih h
      have e : pairs (y :: l) = .int .i64 y.1 :: .int .i64 y.2 :: pairs l := rfl
      rw [e, show (j + 1) * 2 = j * 2 + 1 + 1 by omega]
      simpa using this

/-- a list of pairs, read -/
def RdP (w : World) (v : Value) (l : List (Int × Int)) : Prop :=
  ∃ a cap, v = .slice a l.length cap ∧ l.length ≤ cap ∧ cap ≤ maxLen ∧ CellsAt w a (pairs l) ∧ (a = none → cap = 0)
theorem RdP.below {w w' : World} {v : Value} {l : List (Int × Int)} (h : RdP w v l) (hb : Below w.heap.size w w') : RdP w' v l := by
  obtain ⟨a, cap, h1, h2, h3, h4, h5⟩ := h
  exact ⟨a, cap, h1, h2, h3, h4.below hb (Nat.le_refl _), h5⟩
theorem RdP.own {w : World} {B n : Nat} {e : TypeId} {v : Value} {l : List (Int × Int)} (h : w.ownsRow B e 2 v n (pairs l)) (hn : n = l.length) : RdP w v l := by
  subst hn
  rcases h.2 with ⟨rfl, h0⟩ | ⟨g, cap, cur, rfl, hb, hg, hcn, hcm, hcs, htake⟩
  · obtain rfl : l = [] := List.eq_nil_of_length_eq_zero h0
    exact ⟨none, 0, rfl, by simp, by simp, .inl rfl, fun _ => rfl⟩
  · refine ⟨some ⟨g, 0, none⟩, cap, rfl, hcn, hcm, .inr ⟨g, 0, rfl, fun j u hj => ?_⟩, by simp⟩
    have hjl : j < l.length * 2 := by
      have := (List.getElem?_eq_some_iff.1 hj).1
      rwa [pairs_length] at this
    rw [Nat.zero_add, h.cellAt j (by omega), hj]

/-- the cells of one pair -/
theorem RdP.cell {w : World} {a : Option Addr} {l : List (Int × Int)} (h : CellsAt w a (pairs l)) {j : Nat} {x : Int × Int} (hx : l[j]? = some x) :
    ∃ b off, a = some ⟨b, off, none⟩ ∧ w.cell? ⟨b, off + j * 2, none⟩ = some (.int .i64 x.1) ∧ w.cell? ⟨b, off + j * 2 + 1, none⟩ = some (.int .i64 x.2) := by
  have hp := pairs_get hx
  have hj := (List.getElem?_eq_some_iff.1 hx).1
  obtain ⟨b, off, rfl, hc⟩ := h.cell (j := j * 2) (by rw [pairs_length]; omega)
  exact ⟨b, off, rfl, hc _ _ hp.1, hc _ _ hp.2⟩

/-- A predicate over pairs handed to the library. -/
def PredP (g : Nat) (lb : Array Value) (l : List (Int × Int)) (p : Nat → Bool) (w : World) : Prop :=
  ∀ (W : World) (j : Nat) (x : Int × Int), l[j]? = some x → Below w.heap.size w W → Calls Try.prog g (#[.agg #[.int .i64 x.1, .int .i64 x.2]] ++ lb) W fun e w' => e = .returned (.bool (p j)) ∧ Below W.heap.size W w'

/-- the first index at which p holds, or -1 -/
def firstP (p : Nat → Bool) (n : Nat) : Int := match (List.range n).find? p with | some j => (j : Int) | none => -1
theorem firstP_hit {p : Nat → Bool} {n k : Nat} (hk : k < n) (h : p k = true) (hb : ∀ j, j < k → p j = false) : firstP p n = k := by
  unfold firstP
  have : (List.range n).find? p = some k := by
    rw [List.find?_eq_some_iff_append]
    refine ⟨h, List.range k, (List.range (n - k - 1)).map (· + (k + 1)), ?_, fun j hj => by simp [hb j (List.mem_range.1 hj)]⟩
    apply List.ext_getElem
    · simp; omega
    · intro i h1 h2
      simp only [List.getElem_range]
      by_cases e : i < k
      · rw [List.getElem_append_left (by simpa using e)]; simp
      · rw [List.getElem_append_right (by simp; omega)]
        by_cases e2 : i = k
        · subst e2; simp
        · rw [List.getElem_cons]; rw [dif_neg (by simp; omega)]; simp; omega
  rw [this]
theorem firstP_miss {p : Nat → Bool} {n : Nat} (hb : ∀ j, j < n → p j = false) : firstP p n = -1 := by
  unfold firstP
  have : (List.range n).find? p = none := by rw [List.find?_eq_none]; intro j hj; simp [hb j (List.mem_range.1 hj)]
  rw [this]
theorem firstP_any (p : Nat → Bool) (n : Nat) : decide (0 ≤ firstP p n) = (List.range n).any p := by
  unfold firstP
  cases h : (List.range n).find? p with
  | none =>
    rw [List.find?_eq_none] at h
    have : (List.range n).any p = false := by rw [List.any_eq_false]; exact fun x hx => h x hx
    rw [this]; rfl
  | some j =>
    have h1 := List.find?_some h
    have h2 := List.mem_of_find?_eq_some h
    have : (List.range n).any p = true := List.any_eq_true.2 ⟨j, h2, h1⟩
    rw [this]; simp

set_option maxHeartbeats 1000000 in
theorem idx_xy (p : Nat → Bool) (g : Nat) (lb : Array Value) (eg : ∀ args w, (callFunc g args).run Try.prog w = .ok (.enter g args) w) (l : List (Int × Int)) (v : Value) (w : World) (hp : PredP g lb l p w) (hv : RdP w v l) (hn : l.length ≤ 4000000) :
    Calls Try.prog 83 #[v, .func (.func g) #[] lb] w fun e w' => e = .returned (.int .i64 (firstP p l.length)) ∧ Below w.heap.size w w' := by
  obtain ⟨a, cap, rfl, hc, hcm, ha, _⟩ := hv
  have HP := Lib.hid hp
  clear hp
  go_enter Try.func83, Try.ntmps83
  go_wp2
  go_loopw [5, 8] (fun _ s8 wr => ∃ kk : Nat, kk ≤ l.length ∧ s8 = .int .i64 kk ∧ Below w.heap.size w wr ∧ Hid (∀ j, j < kk → p j = false)) (fun _ s8 _ => l.length - (intOf s8).toNat)
  case atStart => exact ⟨0, Nat.zero_le _, rfl, Below.refl _ w, Lib.hid fun j hj => absurd hj (Nat.not_lt_zero _)⟩
  case round =>
    obtain ⟨kk, hkk, rfl, BW, A⟩ := hrel
    by_cases hlt : kk < l.length
    · obtain ⟨x, hx⟩ : ∃ x, l[kk]? = some x := ⟨_, List.getElem?_eq_getElem hlt⟩
      obtain ⟨b, off, rfl, c1, c2⟩ := RdP.cell (ha.below BW (Nat.le_refl _)) hx
      have hcall := Lib.hid (HP.out wr kk x hx BW)
      clear hx ha
      cases hq : p kk with
      | true =>
        rw [hq] at hcall
        have HF := Lib.hid (firstP_hit hlt hq A.out)
        clear hq
        go_wp2_with (go_at_fn g; refine hcall.out.mono ?_; rintro e w' ⟨rfl, hb'⟩)
        go_ret
        exact ⟨by rw [HF.out]; rfl, BW.trans (hb'.mono BW.size)⟩
      | false =>
        rw [hq] at hcall
        have HA : Hid (∀ j, j < kk + 1 → p j = false) := Lib.hid fun j hj => by
          by_cases e : j = kk
          · subst e; exact hq
          · exact A.out j (by omega)
        clear hq
        go_wp2_with (go_at_fn g; refine hcall.out.mono ?_; rintro e w' ⟨rfl, hb'⟩)
        go_roundw
        case rel => exact ⟨kk + 1, by omega, by go_num, BW.trans (hb'.mono BW.size), HA⟩
        case measure => simp [intOf]; omega
    · obtain rfl : kk = l.length := by omega
      have HF := Lib.hid (firstP_miss A.out)
      go_wp2
      go_ret
      exact ⟨by rw [HF.out]; rfl, BW⟩

theorem has_xy (p : Nat → Bool) (g : Nat) (lb : Array Value) (eg : ∀ args w, (callFunc g args).run Try.prog w = .ok (.enter g args) w) (l : List (Int × Int)) (v : Value) (w : World) (hp : PredP g lb l p w) (hv : RdP w v l) (hn : l.length ≤ 4000000) (t : Bool) (ht : (List.range l.length).any p = t) :
    Calls Try.prog 59 #[v, .func (.func g) #[] lb] w fun e w' => e = .returned (.bool t) ∧ Below w.heap.size w w' := by
  have hcall := Lib.hid (idx_xy p g lb eg l v w hp hv hn)
  have ht2 : Hid (decide (0 ≤ firstP p l.length) = t) := Lib.hid (by rw [firstP_any]; exact ht)
  obtain ⟨a, cap, rfl, hc, hcm, ha, _⟩ := hv
  generalize firstP p l.length = y at hcall ht2
  clear ht hp ha
  go_enter Try.func59, Try.ntmps59
  go_wp2_with (go_at_call 83; refine hcall.out.mono ?_; rintro e w' ⟨rfl, hb'⟩)
  go_ret
  exact ⟨by rw [ht2.out]; rfl, hb'⟩

end Go.Proofs.Ytpakkjkjppibnaa

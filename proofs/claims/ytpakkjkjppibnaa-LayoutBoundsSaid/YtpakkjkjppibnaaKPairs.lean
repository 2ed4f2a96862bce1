/- Layout: lists of cells (pairs of numbers), read; predicates over them handed to the library.
   Layout: which grids are valid. -/
import Derived.Test.YtpakkjkjppibnaaGField
namespace Go.Proofs.Ytpakkjkjppibnaa
open Go.RowKit

/-- pairs as cells -/
def pairs (l : List (Int × Int)) : List Value := l.flatMap fun x => [.int .i64 x.1, .int .i64 x.2]
theorem pairs_append (l m : List (Int × Int)) : pairs (l ++ m) = pairs l ++ pairs m := by simp [pairs]
theorem pairs_length (l : List (Int × Int)) : (pairs l).length = l.length * 2 := by
  induction l with
  | nil => rfl
  | cons x l ih => simp only [pairs, List.flatMap_cons, List.length_append, List.length_cons, List.length_nil] at *; omega
theorem pairs_get {l : List (Int × Int)} : ∀ {j : Nat} {x : Int × Int}, l[j]? = some x → (pairs l)[j * 2]? = some (.int .i64 x.1) ∧ (pairs l)[j * 2 + 1]? = some (.int .i64 x.2) := by
  induction l with
  | nil => intro j x h; simp at h
  | cons y l ih =>
    intro j x h
    match j, h with
    | 0, h => simp at h; subst h; exact ⟨rfl, rfl⟩
    | j + 1, h =>
      simp at h
      have := ih h
      have e : pairs (y :: l) = .int .i64 y.1 :: .int .i64 y.2 :: pairs l := rfl
      rw [e, show (j + 1) * 2 = j * 2 + 1 + 1 by omega]
      simpa using this

/-- a list of pairs, read -/
def RdP (w : World) (v : Value) (l : List (Int × Int)) : Prop :=
  ∃ a cap, v = .slice a l.length cap ∧ l.length ≤ cap ∧ cap ≤ maxLen ∧ CellsAt w a (pairs l) ∧ (a = none → cap = 0)
theorem RdP.below {w w' : World} {v : Value} {l : List (Int × Int)} (h : RdP w v l) (hb : Below w.heap.size w w') : RdP w' v l := by
  obtain ⟨a, cap, h1, h2, h3, h4, h5⟩ := h
  exact ⟨a, cap, h1, h2, h3, h4.below hb (Nat.le_refl _), h5⟩
theorem RdP.own {w : World} {B n : Nat} {e : TypeId} {v : Value} {l : List (Int × Int)} (h : w.ownsRow B e 2 v n (pairs l)) (hn : n = l.length) : RdP w v l := by
  subst hn
  rcases h.2 with ⟨rfl, h0⟩ | ⟨g, cap, cur, rfl, hb, hg, hcn, hcm, hcs, htake⟩
  · obtain rfl : l = [] := List.eq_nil_of_length_eq_zero h0
    exact ⟨none, 0, rfl, by simp, by simp, .inl rfl, fun _ => rfl⟩
  · refine ⟨some ⟨g, 0, none⟩, cap, rfl, hcn, hcm, .inr ⟨g, 0, rfl, fun j u hj => ?_⟩, by simp⟩
    have hjl : j < l.length * 2 := by
      have := (List.getElem?_eq_some_iff.1 hj).1
      rwa [pairs_length] at this
    rw [Nat.zero_add, h.cellAt j (by omega), hj]

/-- the cells of one pair -/
theorem RdP.cell {w : World} {a : Option Addr} {l : List (Int × Int)} (h : CellsAt w a (pairs l)) {j : Nat} {x : Int × Int} (hx : l[j]? = some x) :
    ∃ b off, a = some ⟨b, off, none⟩ ∧ w.cell? ⟨b, off + j * 2, none⟩ = some (.int .i64 x.1) ∧ w.cell? ⟨b, off + j * 2 + 1, none⟩ = some (.int .i64 x.2) := by
  have hp := pairs_get hx
  have hj := (List.getElem?_eq_some_iff.1 hx).1
  obtain ⟨b, off, rfl, hc⟩ := h.cell (j := j * 2) (by rw [pairs_length]; omega)
  exact ⟨b, off, rfl, hc _ _ hp.1, hc _ _ hp.2⟩

/-- A predicate over pairs handed to the library. -/
def PredP (g : Nat) (lb : Array Value) (l : List (Int × Int)) (p : Nat → Bool) (w : World) : Prop :=
  ∀ (W : World) (j : Nat) (x : Int × Int), l[j]? = some x → Below w.heap.size w W → Calls Try.prog g (#[.agg #[.int .i64 x.1, .int .i64 x.2]] ++ lb) W fun e w' => e = .returned (.bool (p j)) ∧ Below W.heap.size W w'

/-- the first index at which p holds, or -1 -/
def firstP (p : Nat → Bool) (n : Nat) : Int := match (List.range n).find? p with | some j => (j : Int) | none => -1
theorem firstP_hit {p : Nat → Bool} {n k : Nat} (hk : k < n) (h : p k = true) (hb : ∀ j, j < k → p j = false) : firstP p n = k := by
  unfold firstP
  have : (List.range n).find? p = some k := by
    rw [List.find?_eq_some_iff_append]
    refine ⟨h, List.range k, (List.range (n - k - 1)).map (· + (k + 1)), ?_, fun j hj => by simp [hb j (List.mem_range.1 hj)]⟩
    apply List.ext_getElem
    · simp; omega
    · intro i h1 h2
      simp only [List.getElem_range]
      by_cases e : i < k
      · rw [List.getElem_append_left (by simpa using e)]; simp
      · rw [List.getElem_append_right (by simp; omega)]
        by_cases e2 : i = k
        · subst e2; simp
        · rw [List.getElem_cons]; rw [dif_neg (by simp; omega)]; simp; omega
  rw [this]
theorem firstP_miss {p : Nat → Bool} {n : Nat} (hb : ∀ j, j < n → p j = false) : firstP p n = -1 := by
  unfold firstP
  have : (List.range n).find? p = none := by rw [List.find?_eq_none]; intro j hj; simp [hb j (List.mem_range.1 hj)]
  rw [this]
theorem firstP_any (p : Nat → Bool) (n : Nat) : decide (0 ≤ firstP p n) = (List.range n).any p := by
  unfold firstP
  cases h : (List.range n).find? p with
  | none =>
    rw [List.find?_eq_none] at h
    have : (List.range n).any p = false := by rw [List.any_eq_false]; exact fun x hx => h x hx
    rw [this]; rfl
  | some j =>
    have h1 := List.find?_some h
    have h2 := List.mem_of_find?_eq_some h
    have : (List.range n).any p = true := List.any_eq_true.2 ⟨j, h2, h1⟩
    rw [this]; simp

set_option maxHeartbeats 1000000 in
theorem idx_xy (p : Nat → Bool) (g : Nat) (lb : Array Value) (eg : ∀ args w, (callFunc g args).run Try.prog w = .ok (.enter g args) w) (l : List (Int × Int)) (v : Value) (w : World) (hp : PredP g lb l p w) (hv : RdP w v l) (hn : l.length ≤ 4000000) :
    Calls Try.prog 83 #[v, .func (.func g) #[] lb] w fun e w' => e = .returned (.int .i64 (firstP p l.length)) ∧ Below w.heap.size w w' := by
  obtain ⟨a, cap, rfl, hc, hcm, ha, _⟩ := hv
  have HP := Lib.hid hp
  clear hp
  go_enter Try.func83, Try.ntmps83
  go_wp2
  go_loopw [5, 8] (fun _ s8 wr => ∃ kk : Nat, kk ≤ l.length ∧ s8 = .int .i64 kk ∧ Below w.heap.size w wr ∧ Hid (∀ j, j < kk → p j = false)) (fun _ s8 _ => l.length - (intOf s8).toNat)
  case atStart => exact ⟨0, Nat.zero_le _, rfl, Below.refl _ w, Lib.hid fun j hj => absurd hj (Nat.not_lt_zero _)⟩
  case round =>
    obtain ⟨kk, hkk, rfl, BW, A⟩ := hrel
    by_cases hlt : kk < l.length
    · obtain ⟨x, hx⟩ : ∃ x, l[kk]? = some x := ⟨_, List.getElem?_eq_getElem hlt⟩
      obtain ⟨b, off, rfl, c1, c2⟩ := RdP.cell (ha.below BW (Nat.le_refl _)) hx
      have hcall := Lib.hid (HP.out wr kk x hx BW)
      clear hx ha
      cases hq : p kk with
      | true =>
        rw [hq] at hcall
        have HF := Lib.hid (firstP_hit hlt hq A.out)
        clear hq
        go_wp2_with (go_at_fn g; refine hcall.out.mono ?_; rintro e w' ⟨rfl, hb'⟩)
        go_ret
        exact ⟨by rw [HF.out]; rfl, BW.trans (hb'.mono BW.size)⟩
      | false =>
        rw [hq] at hcall
        have HA : Hid (∀ j, j < kk + 1 → p j = false) := Lib.hid fun j hj => by
          by_cases e : j = kk
          · subst e; exact hq
          · exact A.out j (by omega)
        clear hq
        go_wp2_with (go_at_fn g; refine hcall.out.mono ?_; rintro e w' ⟨rfl, hb'⟩)
        go_roundw
        case rel => exact ⟨kk + 1, by omega, by go_num, BW.trans (hb'.mono BW.size), HA⟩
        case measure => simp [intOf]; omega
    · obtain rfl : kk = l.length := by omega
      have HF := Lib.hid (firstP_miss A.out)
      go_wp2
      go_ret
      exact ⟨by rw [HF.out]; rfl, BW⟩

theorem has_xy (p : Nat → Bool) (g : Nat) (lb : Array Value) (eg : ∀ args w, (callFunc g args).run Try.prog w = .ok (.enter g args) w) (l : List (Int × Int)) (v : Value) (w : World) (hp : PredP g lb l p w) (hv : RdP w v l) (hn : l.length ≤ 4000000) (t : Bool) (ht : (List.range l.length).any p = t) :
    Calls Try.prog 59 #[v, .func (.func g) #[] lb] w fun e w' => e = .returned (.bool t) ∧ Below w.heap.size w w' := by
  have hcall := Lib.hid (idx_xy p g lb eg l v w hp hv hn)
  have ht2 : Hid (decide (0 ≤ firstP p l.length) = t) := Lib.hid (by rw [firstP_any]; exact ht)
  obtain ⟨a, cap, rfl, hc, hcm, ha, _⟩ := hv
  generalize firstP p l.length = y at hcall ht2
  clear ht hp ha
  go_enter Try.func59, Try.ntmps59
  go_wp2_with (go_at_call 83; refine hcall.out.mono ?_; rintro e w' ⟨rfl, hb'⟩)
  go_ret
  exact ⟨by rw [ht2.out]; rfl, hb'⟩

end Go.Proofs.Ytpakkjkjppibnaa

namespace Go.Proofs.Ytpakkjkjppibnaa
open Go.RowKit

/-- whether n is from lo to hi -/
def inB (lo n hi : Int) : Bool := decide (lo ≤ n) && decide (n ≤ hi)
/-- whether a grid is valid -/
def validP (w h mv bd : Int) (bl : List (Int × Int)) : Bool :=
  inB 1 w 30 && inB 1 h 30 && inB 1 mv 1000 && inB 0 bd 1000 && decide (bl.length ≤ 900) && bl.all fun c => onP w h c

theorem any_off (w h : Int) (bl : List (Int × Int)) : (List.range bl.length).any (fun j => !onP w h (bl.getD j (0, 0))) = !bl.all fun c => onP w h c := by
  rw [Bool.eq_iff_iff]
  simp only [List.any_eq_true, List.mem_range, Bool.not_eq_true', List.all_eq_false]
  constructor
  · rintro ⟨j, hj, h⟩
    exact ⟨bl.getD j (0, 0), by rw [List.getD_eq_getElem?_getD, List.getElem?_eq_getElem hj]; exact List.getElem_mem hj, by rw [h]; decide⟩
  · rintro ⟨x, hx, h⟩
    obtain ⟨j, hj, rfl⟩ := List.mem_iff_getElem.1 hx
    refine ⟨j, hj, ?_⟩
    rw [List.getD_eq_getElem?_getD, List.getElem?_eq_getElem hj]
    simpa using h

/-- the closure of Valid -/
theorem offC (w h mv bd : Int) (bv : Value) (bl : List (Int × Int)) (B : Nat) (W : World) (hw : 1 ≤ w ∧ w ≤ 30) (hh : 1 ≤ h ∧ h ≤ 30)
    (h0 : W.cell? ⟨B, 0, none⟩ = some (.int .i64 w)) (h1 : W.cell? ⟨B, 1, none⟩ = some (.int .i64 h)) (h2 : W.cell? ⟨B, 2, none⟩ = some (.int .i64 mv)) (h3 : W.cell? ⟨B, 3, none⟩ = some (.int .i64 bd)) (h4 : W.cell? ⟨B, 4, none⟩ = some bv) :
    PredP 97 #[.pointer (some ⟨B, 0, none⟩)] bl (fun j => !onP w h (bl.getD j (0, 0))) W := fun V j x hx hb => by
  have e0 := cell_below h0 hb
  have e1 := cell_below h1 hb
  have e2 := cell_below h2 hb
  have e3 := cell_below h3 hb
  have e4 := cell_below h4 hb
  have hlt := World.block_lt_of_cell? _ _ e0
  have hgx : bl.getD j (0, 0) = x := by rw [List.getD_eq_getElem?_getD, hx]; rfl
  dsimp only
  rw [hgx]
  clear hgx
  obtain ⟨x, y⟩ := x
  show Calls Try.prog 97 #[.agg #[.int .i64 x, .int .i64 y], .pointer (some ⟨B, 0, none⟩)] V fun e w' => e = .returned (.bool (!onP w h (x, y))) ∧ Below V.heap.size V w'
  have HO := Lib.hid (fun U => on_any w h mv bd bv x y U (by omega) (by omega) (by omega) (by omega))
  generalize onP w h (x, y) = t at *
  clear h0 h1 h2 h3 h4 hx hb hw hh
  go_enter Try.func97, Try.ntmps97
  go_wp2_with (go_at_call 54; refine (HO.out _).mono ?_; rintro e w1 ⟨rfl, hb1⟩)
  go_ret
  exact ⟨rfl, ((Below.refl _ _).alloc (Nat.le_refl _) _).trans (hb1.mono (by simp))⟩

set_option maxRecDepth 100000 in
theorem valid_any (w h mv bd : Int) (bv : Value) (bl : List (Int × Int)) (W : World) (hv : RdP W bv bl) :
    Calls Try.prog 75 #[.agg #[.int .i64 w, .int .i64 h, .int .i64 mv, .int .i64 bd, bv]] W fun e w' => e = .returned (.bool (validP w h mv bd bl)) ∧ Below W.heap.size W w' := by
  have eg : ∀ args w, (callFunc 97 args).run Try.prog w = .ok (.enter 97 args) w := enters_of Try.func97 (by kernel_rfl) rfl
  have HB1 := Lib.hid (between_any 1 w 30)
  have HB2 := Lib.hid (between_any 1 h 30)
  have HB3 := Lib.hid (between_any 1 mv 1000)
  have HB4 := Lib.hid (between_any 0 bd 1000)
  have HVP : Hid (validP w h mv bd bl = (inB 1 w 30 && inB 1 h 30 && inB 1 mv 1000 && inB 0 bd 1000 && decide (bl.length ≤ 900) && bl.all fun c => onP w h c)) := Lib.hid rfl
  change Hid (∀ W, Calls Try.prog 52 #[.int .i64 1, .int .i64 w, .int .i64 30] W fun e w' => e = .returned (.bool (inB 1 w 30)) ∧ W = w') at HB1
  change Hid (∀ W, Calls Try.prog 52 #[.int .i64 1, .int .i64 h, .int .i64 30] W fun e w' => e = .returned (.bool (inB 1 h 30)) ∧ W = w') at HB2
  change Hid (∀ W, Calls Try.prog 52 #[.int .i64 1, .int .i64 mv, .int .i64 1000] W fun e w' => e = .returned (.bool (inB 1 mv 1000)) ∧ W = w') at HB3
  change Hid (∀ W, Calls Try.prog 52 #[.int .i64 0, .int .i64 bd, .int .i64 1000] W fun e w' => e = .returned (.bool (inB 0 bd 1000)) ∧ W = w') at HB4
  have HV := Lib.hid hv
  have HA := any_off w h bl
  have HCC : Hid (inB 1 w 30 = true → inB 1 h 30 = true → bl.length ≤ 900 → ∀ (t : Bool), (bl.all fun c => onP w h c) = t → ∀ V : World, Below W.heap.size W V → ∀ B, V.cell? ⟨B, 0, none⟩ = some (.int .i64 w) → V.cell? ⟨B, 1, none⟩ = some (.int .i64 h) → V.cell? ⟨B, 2, none⟩ = some (.int .i64 mv) → V.cell? ⟨B, 3, none⟩ = some (.int .i64 bd) → V.cell? ⟨B, 4, none⟩ = some bv →
      Calls Try.prog 59 #[bv, .func (.func 97) #[] #[.pointer (some ⟨B, 0, none⟩)]] V fun e w' => e = .returned (.bool (!t)) ∧ Below V.heap.size V w') := Lib.hid (fun g1 g2 g3 t ht V hV B h0 h1 h2 h3 h4 => by
    unfold inB at g1 g2
    simp at g1 g2
    exact has_xy _ 97 _ eg bl _ V (offC w h mv bd bv bl B V (by omega) (by omega) h0 h1 h2 h3 h4) (HV.out.below hV) (by omega) (!t) (by rw [HA, ht]))
  obtain ⟨a, cap, rfl, hc, hcm, _, _⟩ := hv
  obtain ⟨n, hn⟩ : ∃ n, bl.length = n := ⟨_, rfl⟩
  rw [hn] at HVP HCC hc ⊢
  obtain ⟨t, ht⟩ : ∃ t, (bl.all fun c => onP w h c) = t := ⟨_, rfl⟩
  rw [ht] at HVP
  have HT := Lib.hid ht
  have hbW := Lib.hid ((Below.refl W.heap.size W).alloc (Nat.le_refl _) (.cells #[.int .i64 w, .int .i64 h, .int .i64 mv, .int .i64 bd, .slice a n cap] 24))
  clear HA ht hn eg
  cases h1 : inB 1 w 30 with
  | false =>
    rw [h1] at HB1
    rw [h1] at HVP
    clear h1
    go_enter Try.func75, Try.ntmps75
    go_wp2_with (first
      | (go_at_call 52; (with_reducible refine (HB1.out _).mono ?_); rintro e w1 ⟨rfl, rfl⟩))
    go_ret
    exact ⟨by rw [HVP.out]; rfl, hbW.out⟩
  | true =>
    have K1 := Lib.hid h1
    rw [h1] at HB1
    rw [h1] at HVP
    clear h1
    cases h2 : inB 1 h 30 with
    | false =>
      rw [h2] at HB2
      rw [h2] at HVP
      clear h2
      go_enter Try.func75, Try.ntmps75
      go_wp2_with (first
        | (go_at_call 52; (with_reducible refine (HB1.out _).mono ?_); rintro e w1 ⟨rfl, rfl⟩)
        | (go_at_call 52; (with_reducible refine (HB2.out _).mono ?_); rintro e w1 ⟨rfl, rfl⟩))
      go_ret
      exact ⟨by rw [HVP.out]; rfl, hbW.out⟩
    | true =>
      have K2 := Lib.hid h2
      rw [h2] at HB2
      rw [h2] at HVP
      clear h2
      cases h3 : inB 1 mv 1000 with
      | false =>
        rw [h3] at HB3
        rw [h3] at HVP
        clear h3
        go_enter Try.func75, Try.ntmps75
        go_wp2_with (first
          | (go_at_call 52; (with_reducible refine (HB1.out _).mono ?_); rintro e w1 ⟨rfl, rfl⟩)
          | (go_at_call 52; (with_reducible refine (HB2.out _).mono ?_); rintro e w1 ⟨rfl, rfl⟩)
          | (go_at_call 52; (with_reducible refine (HB3.out _).mono ?_); rintro e w1 ⟨rfl, rfl⟩))
        go_ret
        exact ⟨by rw [HVP.out]; rfl, hbW.out⟩
      | true =>
        rw [h3] at HB3
        rw [h3] at HVP
        clear h3
        cases h4 : inB 0 bd 1000 with
        | false =>
          rw [h4] at HB4
          rw [h4] at HVP
          clear h4
          go_enter Try.func75, Try.ntmps75
          go_wp2_with (first
            | (go_at_call 52; (with_reducible refine (HB1.out _).mono ?_); rintro e w1 ⟨rfl, rfl⟩)
            | (go_at_call 52; (with_reducible refine (HB2.out _).mono ?_); rintro e w1 ⟨rfl, rfl⟩)
            | (go_at_call 52; (with_reducible refine (HB3.out _).mono ?_); rintro e w1 ⟨rfl, rfl⟩)
            | (go_at_call 52; (with_reducible refine (HB4.out _).mono ?_); rintro e w1 ⟨rfl, rfl⟩))
          go_ret
          exact ⟨by rw [HVP.out]; rfl, hbW.out⟩
        | true =>
          rw [h4] at HB4
          rw [h4] at HVP
          clear h4
          by_cases h5 : n ≤ 900
          · have HL := Lib.hid h5
            have h5' : (n : Int) ≤ 900 := by omega
            rw [decide_eq_true h5] at HVP
            clear h5
            go_enter Try.func75, Try.ntmps75
            go_wp2_with (first
              | (go_at_call 52; (with_reducible refine (HB1.out _).mono ?_); rintro e w1 ⟨rfl, rfl⟩)
              | (go_at_call 52; (with_reducible refine (HB2.out _).mono ?_); rintro e w1 ⟨rfl, rfl⟩)
              | (go_at_call 52; (with_reducible refine (HB3.out _).mono ?_); rintro e w1 ⟨rfl, rfl⟩)
              | (go_at_call 52; (with_reducible refine (HB4.out _).mono ?_); rintro e w1 ⟨rfl, rfl⟩)
              | (go_at_call 59; (with_reducible refine (HCC.out K1.out K2.out HL.out t HT.out _ hbW.out W.heap.size (World.cell?_alloc_at _ _ _ _ rfl) (World.cell?_alloc_at _ _ _ _ rfl) (World.cell?_alloc_at _ _ _ _ rfl) (World.cell?_alloc_at _ _ _ _ rfl) (World.cell?_alloc_at _ _ _ _ rfl)).mono ?_); rintro e w1 ⟨rfl, hb1⟩))
            go_ret
            exact ⟨by rw [HVP.out]; simp, hbW.out.trans (hb1.mono (by simp))⟩
          · have h5' : ¬ (n : Int) ≤ 900 := by omega
            rw [decide_eq_false h5] at HVP
            clear h5
            go_enter Try.func75, Try.ntmps75
            go_wp2_with (first
              | (go_at_call 52; (with_reducible refine (HB1.out _).mono ?_); rintro e w1 ⟨rfl, rfl⟩)
              | (go_at_call 52; (with_reducible refine (HB2.out _).mono ?_); rintro e w1 ⟨rfl, rfl⟩)
              | (go_at_call 52; (with_reducible refine (HB3.out _).mono ?_); rintro e w1 ⟨rfl, rfl⟩)
              | (go_at_call 52; (with_reducible refine (HB4.out _).mono ?_); rintro e w1 ⟨rfl, rfl⟩))
            go_ret
            exact ⟨by rw [HVP.out]; rfl, hbW.out⟩
end Go.Proofs.Ytpakkjkjppibnaa

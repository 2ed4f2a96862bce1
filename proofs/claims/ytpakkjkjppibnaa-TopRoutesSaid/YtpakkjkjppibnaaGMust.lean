/- Layout: Must, its parts: Index and Contains at []int, the two closures. -/
import Derived.Test.YtpakkjkjppibnaaGRim2
namespace Go.Proofs.Ytpakkjkjppibnaa
open Go.RowKit

set_option maxHeartbeats 1000000 in
theorem offM (w h mv bd : Int) (bv : Value) (bl : List (Int × Int)) (B : Nat) (W : World) (hw : 1 ≤ w ∧ w ≤ 30) (hh : 1 ≤ h ∧ h ≤ 30)
    (h0 : W.cell? ⟨B, 0, none⟩ = some (.int .i64 w)) (h1 : W.cell? ⟨B, 1, none⟩ = some (.int .i64 h)) (h2 : W.cell? ⟨B, 2, none⟩ = some (.int .i64 mv)) (h3 : W.cell? ⟨B, 3, none⟩ = some (.int .i64 bd)) (h4 : W.cell? ⟨B, 4, none⟩ = some bv) :
    PredP 60 #[.pointer (some ⟨B, 0, none⟩)] bl (fun j => !onP w h (bl.getD j (0, 0))) W := fun V j x hx hb => by
  have e0 := cell_below h0 hb
  have e1 := cell_below h1 hb
  have e2 := cell_below h2 hb
  have e3 := cell_below h3 hb
  have e4 := cell_below h4 hb
  have hlt := World.block_lt_of_cell? _ _ e0
  have hgx : bl.getD j (0, 0) = x := by rw [List.getD_eq_getElem?_getD, hx]; rfl
  dsimp only
  rw [hgx]
  clear hgx
  obtain ⟨x, y⟩ := x
  show Calls Try.prog 60 #[.agg #[.int .i64 x, .int .i64 y], .pointer (some ⟨B, 0, none⟩)] V fun e w' => e = .returned (.bool (!onP w h (x, y))) ∧ Below V.heap.size V w'
  have HO := Lib.hid (fun U => on_any w h mv bd bv x y U (by omega) (by omega) (by omega) (by omega))
  generalize onP w h (x, y) = t at *
  clear h0 h1 h2 h3 h4 hx hb hw hh
  go_enter Try.func60, Try.ntmps60
  go_wp2_with (go_at_call 54; refine (HO.out _).mono ?_; rintro e w1 ⟨rfl, hb1⟩)
  go_ret
  exact ⟨rfl, ((Below.refl _ _).alloc (Nat.le_refl _) _).trans (hb1.mono (by simp))⟩

def idxN (l : List Int) (c : Int) : Int := if c ∈ l then (l.idxOf c : Nat) else -1
theorem idxN_hit {l : List Int} {c : Int} {k : Nat} (h : l[k]? = some c) (hb : ∀ j z, j < k → l[j]? = some z → z ≠ c) : idxN l c = k := by
  have hm := List.mem_of_getElem? h
  obtain ⟨hk, e⟩ := List.getElem?_eq_some_iff.1 h
  have hlt := List.idxOf_lt_length_of_mem hm
  have he : l[l.idxOf c]? = some c := by rw [List.getElem?_eq_getElem hlt, List.getElem_idxOf]
  have h1 : ¬ l.idxOf c < k := fun h1 => hb _ _ h1 he rfl
  have h2 : ¬ k < l.idxOf c := fun h2 => by
    have := List.not_of_lt_findIdx (p := fun x => x == c) (xs := l) (i := k) h2
    rw [e] at this
    simp at this
  unfold idxN
  rw [if_pos hm]
  omega
theorem idxN_miss {l : List Int} {c : Int} (hb : ∀ j z, j < l.length → l[j]? = some z → z ≠ c) : idxN l c = -1 := by
  unfold idxN
  rw [if_neg]
  intro hm
  obtain ⟨j, hj, e⟩ := List.mem_iff_getElem.1 hm
  exact hb j c hj (by rw [List.getElem?_eq_getElem hj, e]) rfl
theorem idxN_ge (l : List Int) (c : Int) : decide (0 ≤ idxN l c) = decide (c ∈ l) := by
  unfold idxN
  by_cases h : c ∈ l
  · rw [if_pos h, decide_eq_true h, decide_eq_true (by omega)]
  · rw [if_neg h, decide_eq_false h]; decide

set_option maxHeartbeats 1000000 in
theorem index_int (l : List Int) (v : Value) (x : Int) (w : World) (hv : Rd w v (ints l)) (hn : l.length ≤ 4000000) :
    Calls Try.prog 84 #[v, .int .i64 x] w fun e w' => e = .returned (.int .i64 (idxN l x)) ∧ Below w.heap.size w w' := by
  obtain ⟨n, hnn⟩ : ∃ n, l.length = n := ⟨_, rfl⟩
  have HN := Lib.hid hnn
  obtain ⟨a, cap, rfl, hc, hcm, ha, _⟩ := Rd.parts hv (n := n) (by rw [ints_length, hnn])
  rw [hnn] at hn
  clear hnn
  go_enter Try.func84, Try.ntmps84
  go_wp2_with fail
  go_loopw [5, 8] (fun _ p wr => ∃ k : Nat, k ≤ n ∧ p = .int .i64 k ∧ Hid (Below w.heap.size w wr) ∧ Hid (∀ j z, j < k → l[j]? = some z → z ≠ x)) (fun _ p _ => n - (intOf p).toNat)
  case atStart => exact ⟨0, Nat.zero_le _, rfl, Lib.hid (Below.refl _ _), Lib.hid fun j z h => absurd h (Nat.not_lt_zero _)⟩
  case round =>
    obtain ⟨k, hk, rfl, HR, HA⟩ := hrel
    by_cases hkn : k < n
    · have hkn' : (k : Int) < (n : Int) := by omega
      obtain ⟨z, hz⟩ : ∃ z, l[k]? = some z := ⟨_, List.getElem?_eq_getElem (by rw [HN.out]; exact hkn)⟩
      rcases ha with hnil | ⟨b, off, rfl, hcell⟩
      · have := congrArg List.length hnil
        rw [ints_length, HN.out] at this
        exact absurd this (by simp; omega)
      have e1 := cell_below (hcell k _ (ints_get hz)) HR.out
      have HZ := Lib.hid hz
      have HCE := Lib.hid hcell
      clear hz hcell
      by_cases hq : x = z
      · subst hq
        have HD : Hid (idxN l x = k) := Lib.hid (idxN_hit HZ.out HA.out)
        go_wp2_with fail
        go_ret
        exact ⟨by rw [HD.out]; rfl, HR.out⟩
      · have hq' : (x == z) = false := by simpa using hq
        have HA' : Hid (∀ j z, j < k + 1 → l[j]? = some z → z ≠ x) := Lib.hid fun j z' hj hz e => by
          rcases (by omega : j < k ∨ j = k) with h1 | rfl
          · exact HA.out j z' h1 hz e
          · rw [HZ.out] at hz
            cases hz
            exact hq e.symm
        clear hq
        go_wp2_with fail
        go_roundw
        case rel => exact ⟨k + 1, by omega, by go_num, Lib.hid HR.out, HA'⟩
        case measure => simp [intOf]; omega
    · obtain rfl : k = n := by omega
      have HD : Hid (idxN l x = -1) := Lib.hid (idxN_miss (by rw [HN.out]; exact HA.out))
      go_wp2_with fail
      go_ret
      exact ⟨by rw [HD.out]; rfl, HR.out⟩
theorem contains_int (l : List Int) (v : Value) (x : Int) (w : World) (hv : Rd w v (ints l)) (hn : l.length ≤ 4000000) :
    Calls Try.prog 61 #[v, .int .i64 x] w fun e w' => e = .returned (.bool (decide (x ∈ l))) ∧ Below w.heap.size w w' := by
  have HI := Lib.hid (index_int l v x w hv hn)
  have HGE := Lib.hid (idxN_ge l x)
  obtain ⟨a, cap, rfl, hc, hcm, ha, _⟩ := hv
  obtain ⟨i, hi⟩ : ∃ i, idxN l x = i := ⟨_, rfl⟩
  obtain ⟨t, ht⟩ : ∃ t, decide (x ∈ l) = t := ⟨_, rfl⟩
  rw [hi, ht] at HGE
  rw [hi] at HI
  rw [ht]
  clear ha hi ht
  go_enter Try.func61, Try.ntmps61
  go_wp2_with (go_at_call 84; refine HI.out.mono ?_; rintro e w2 ⟨rfl, hb2⟩)
  go_ret
  exact ⟨by rw [HGE.out]; rfl, hb2⟩

set_option maxRecDepth 100000 in
set_option maxHeartbeats 2000000 in
theorem inside_any (nb g cap N : Nat) (i0 i1 i : Int) (W : World) (hN : 1 < N) (hb : W.cell? ⟨nb, 0, none⟩ = some (.slice (some ⟨g, 0, none⟩) N cap)) (h0 : W.cell? ⟨g, 0, none⟩ = some (.int .i64 i0)) (h1 : W.cell? ⟨g, 1, none⟩ = some (.int .i64 i1)) :
    Calls Try.prog 62 #[.int .i64 i, .pointer (some ⟨nb, 0, none⟩)] W fun e w' => e = .returned (.bool (decide (min i0 i1 ≤ i) && decide (i ≤ max i0 i1))) ∧ Below W.heap.size W w' := by
  have HBT := Lib.hid (fun V => between_any (min i0 i1) i (max i0 i1) V)
  have hN1 : (1 : Int) < (N : Int) := by omega
  have hN2 : (0 : Int) < (N : Int) := by omega
  have hN3 : 0 < N := by omega
  have hb := fun x : Grow W => grow_cell hb x
  have h0 := fun x : Grow W => grow_cell h0 x
  have h1 := fun x : Grow W => grow_cell h1 x
  obtain ⟨t, ht⟩ : ∃ t, (decide (min i0 i1 ≤ i) && decide (i ≤ max i0 i1)) = t := ⟨_, rfl⟩
  rw [ht] at HBT ⊢
  clear ht
  go_enter Try.func62, Try.ntmps62
  go_wp2_with fail
  refine wp_region_grow (by kernel_rfl) (by kernel_rfl) ?_
  repeat (go_big_quiet_step (first
    | (go_at_call 52; refine grow_of_same (HBT.out _))))
  refine wpQuiet_nil ?_
  intro _ hw'
  obtain ⟨xq, hw''⟩ := hw'
  subst hw''
  have HBx := Lib.hid (grow_below xq)
  generalize grow xq = w6 at *
  go_wp2_with fail
  go_ret
  exact ⟨rfl, HBx.out⟩
end Go.Proofs.Ytpakkjkjppibnaa

/- Benes: around, walked (under way: the base case). -/
import Derived.Test.YtelnlmhelkcliaaBWk
import Derived.Test.YtelnlmhelkcliaaBArdQ
namespace Go.Proofs.Ytelnlmhelkcliaa
open Go.RowKit Go.Shelf
attribute [local go_sem] Oper.semAt_some
theorem around0 (a : Option Addr) (cap cap2 b off : Nat) (x : Int) (ok set : Bool) (w : World) (_hlt : b < w.heap.size) (_hlt1 : b < ((w.alloc (.cells #[.slice a 2 cap] 24)).alloc (.cells #[.slice none 0 0] 22)).heap.size) (c1 : ((w.alloc (.cells #[.slice a 2 cap] 24)).alloc (.cells #[.slice none 0 0] 22)).cell? ⟨b, off, none⟩ = some (.int .i64 x))
    (_c2 : ((w.alloc (.cells #[.slice a 2 cap] 24)).alloc (.cells #[.slice none 0 0] 22)).cell? ⟨w.heap.size, 0, none⟩ = some (.slice a 2 cap)) (_c3 : ((w.alloc (.cells #[.slice a 2 cap] 24)).alloc (.cells #[.slice none 0 0] 22)).cell? ⟨w.heap.size + 1, 0, none⟩ = some (.slice none 0 0))
    (HSI : Hid (∀ n, Calls Try.prog 66 #[.slice a 2 cap, .int .i64 x] (((w.alloc (.cells #[.slice a 2 cap] 24)).alloc (.cells #[.slice none 0 0] 22)).drewN n) fun e w' => e = .returned (.tuple #[.bool set, .bool ok]) ∧ w' = ((w.alloc (.cells #[.slice a 2 cap] 24)).alloc (.cells #[.slice none 0 0] 22)).drewN n)) (_hc : 1 ≤ cap2) :
    Calls Try.prog 58 #[.slice a 2 cap, .slice (some ⟨b, off, none⟩) 1 cap2] w fun e w' => (∃ u, e = .returned u ∧ (ok = true → w'.ownsRow w.heap.size 4 1 u 1 (bools [set])) ∧ (ok = false → u = .slice none 0 0)) ∧ Below w.heap.size w w' := by
  go_enter Try.func58, Try.ntmps58
  go_wp2_with fail
  go_quiet (first | (go_at_call 66; refine Calls.quiet_of_same (HSI.out _)))
  cases ok with
  | true =>
    go_wp2_with fail
    have hb0 : Below w.heap.size w (((w.alloc (.cells #[.slice a 2 cap] 24)).alloc (.cells #[.slice none 0 0] 22)).drewN nq) := bel_drewN (((Below.refl _ _).alloc (Nat.le_refl _) _).alloc (by simp) _) _
    have hz : (((w.alloc (.cells #[.slice a 2 cap] 24)).alloc (.cells #[.slice none 0 0] 22)).drewN nq).cell? ⟨w.heap.size + 1, 0, none⟩ = some (.slice none 0 0) := _c3
    have hs : (((w.alloc (.cells #[.slice a 2 cap] 24)).alloc (.cells #[.slice none 0 0] 22)).drewN nq).heap.size = w.heap.size + 1 + 1 := by simp
    generalize ((w.alloc (.cells #[.slice a 2 cap] 24)).alloc (.cells #[.slice none 0 0] 22)).drewN nq = V at *
    have k1 := cell_alloc (World.cell?_setCell_same V ⟨w.heap.size + 1, 0, none⟩ (.slice (some ⟨w.heap.size + 1 + 1, 0, none⟩) 1 1) hz) (.cells #[.bool set] 4)
    refine bodyPost_ret (v := .slice (some ⟨w.heap.size + 1 + 1, 0, none⟩) 1 1) (by simp [results, Try.results58, go_sem, k1]) rfl ?_
    have hv := hb0.setCell (p := ⟨w.heap.size + 1, 0, none⟩) (by dsimp only; omega) (.slice (some ⟨w.heap.size + 1 + 1, 0, none⟩) 1 1)
    have hsz : (V.setCell ⟨w.heap.size + 1, 0, none⟩ (.slice (some ⟨w.heap.size + 1 + 1, 0, none⟩) 1 1)).heap.size = w.heap.size + 1 + 1 := by simp [hs]
    have ho := own_lit (V.setCell ⟨w.heap.size + 1, 0, none⟩ (.slice (some ⟨w.heap.size + 1 + 1, 0, none⟩) 1 1)) w.heap.size 4 #[.bool set] 1 hv.size rfl (by decide)
    rw [hsz] at ho
    exact ⟨⟨_, rfl, ho⟩, hv.alloc hv.size _⟩
  | false =>
    go_wp2_with fail
    have hb0 : Below w.heap.size w (((w.alloc (.cells #[.slice a 2 cap] 24)).alloc (.cells #[.slice none 0 0] 22)).drewN nq) := bel_drewN (((Below.refl _ _).alloc (Nat.le_refl _) _).alloc (by simp) _) _
    have hz : (((w.alloc (.cells #[.slice a 2 cap] 24)).alloc (.cells #[.slice none 0 0] 22)).drewN nq).cell? ⟨w.heap.size + 1, 0, none⟩ = some (.slice none 0 0) := _c3
    generalize ((w.alloc (.cells #[.slice a 2 cap] 24)).alloc (.cells #[.slice none 0 0] 22)).drewN nq = V at *
    have k1 := World.cell?_setCell_same V ⟨w.heap.size + 1, 0, none⟩ (.slice none 0 0) hz
    refine bodyPost_ret (v := .slice none 0 0) (by simp [results, Try.results58, go_sem, k1]) rfl ?_
    exact ⟨rfl, hb0.setCell (p := ⟨w.heap.size + 1, 0, none⟩) (by dsimp only; omega) _⟩
/-- what around gives: an own row, or nil -/
def ArdR (w w' : World) (u : Value) (n : Nat) (o : Option (List Bool)) : Prop :=
  match o with
  | none => u = .slice none 0 0
  | some l => w'.ownsRow w.heap.size 4 1 u n (bools l)
theorem around_zero (p S : List Int) (v sv : Value) (w : World) (hl : p.length = 2) (hS : S.length = 1) (hv : Rd w v (ints p)) (hs : Rd w sv (ints S)) :
    Calls Try.prog 58 #[v, sv] w fun e w' => (∃ u, e = .returned u ∧ ArdR w w' u 1 (aroundR 0 p fun i => S.getD i 0)) ∧ Below w.heap.size w w' := by
  have HV := Lib.hid hv
  obtain ⟨a, cap, rfl, hc, hcm, ha, _⟩ := hv
  obtain ⟨a2, cap2, rfl, hc2, _, ha2, _⟩ := hs
  obtain ⟨b, off, rfl, hcell⟩ := ha2.cell (j := 0) (by rw [ints_length, hS]; decide)
  have c0 := hcell 0 _ (ints_getD (by rw [hS]; decide))
  rw [Nat.add_zero] at c0
  rw [ints_length, hS] at hc2
  rw [ints_length, hl] at HV
  rw [ints_length, ints_length, hS, hl]
  have hb : Below w.heap.size w ((w.alloc (.cells #[.slice a 2 cap] 24)).alloc (.cells #[.slice none 0 0] 22)) := ((Below.refl _ _).alloc (Nat.le_refl _) _).alloc (by simp) _
  have c1 := cell_below c0 hb
  have HSI := Lib.hid (fun n => (single_any p (S.getD 0 0) (.slice a 2 cap) (((w.alloc (.cells #[.slice a 2 cap] 24)).alloc (.cells #[.slice none 0 0] 22)).drewN n) hl (HV.out.below (bel_drewN hb n) (Nat.le_refl _))).mono fun e w' ⟨h1, h2⟩ => (show e = _ ∧ w' = _ from ⟨h1, h2.symm⟩))
  refine (around0 a cap cap2 b off _ _ _ w (World.block_lt_of_cell? _ _ c0) (World.block_lt_of_cell? _ _ c1) c1 (cell_alloc (World.cell?_alloc_at _ _ _ _ rfl) _) (World.cell?_alloc_at _ _ _ _ (by simp)) HSI hc2).mono ?_
  rintro e w' ⟨⟨u, rfl, h1, h2⟩, hb'⟩
  refine ⟨⟨u, rfl, ?_⟩, hb'⟩
  unfold aroundR
  cases hm : mayB (S.getD 0 0) (p.getD 0 0 == 1) with
  | true => rw [if_pos rfl]; exact h1 hm
  | false => rw [if_neg (by decide)]; exact h2 hm
/-- a row of ints lies elsewhere than a boxed value that is no int -/
theorem off_boxed {W : World} {X : Nat} {t : TypeId} {v : Value} (hb : Boxed W X t v) (hv : ∀ y, v ≠ Value.int .i64 y) {u : Value} {l : List Int} (h : Rd W u (ints l)) (hn : 0 < l.length) : Off (some X) u := by
  intro a n c e
  subst e
  obtain ⟨a', c', e, _, _, hc, _⟩ := h
  injection e with e1 e2 e3
  subst e1
  obtain ⟨b, off, e4, hh⟩ := hc.cell (j := 0) (by rw [ints_length]; exact hn)
  cases e4
  have h0 := hh 0 _ (ints_getD hn)
  rw [Nat.add_zero] at h0
  intro e'
  have e5 : b = X := Option.some.inj e'
  subst e5
  have hv' : W.heap[b]? = some (.cells #[v] t (0, 0)) := hb
  simp only [World.cell?, hv'] at h0
  cases off with
  | zero => simp at h0; exact hv _ h0
  | succ k => simp at h0
end Go.Proofs.Ytelnlmhelkcliaa

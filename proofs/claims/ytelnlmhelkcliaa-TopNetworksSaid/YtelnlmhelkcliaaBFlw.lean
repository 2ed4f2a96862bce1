/- Benes: a switch that is set and what follows, walked. -/
import Derived.Test.YtelnlmhelkcliaaBMap
import Derived.Test.YtelnlmhelkcliaaTrace
namespace Go.Proofs.Ytelnlmhelkcliaa
open Go.RowKit

/-- as 'Below', but for two blocks -/
structure Kp2 (b1 b2 : Nat) (w w' : World) : Prop where
  os : w'.os = w.os
  tape : w'.tape = w.tape
  output : w'.output = w.output
  size : w.heap.size ≤ w'.heap.size
  block : ∀ k, k < w.heap.size → k ≠ b1 → k ≠ b2 → w'.heap[k]? = w.heap[k]?
theorem Kp2.refl (b1 b2 : Nat) (w : World) : Kp2 b1 b2 w w := ⟨rfl, rfl, rfl, Nat.le_refl _, fun _ _ _ _ => rfl⟩
theorem Kp2.trans {b1 b2 : Nat} {w w1 w2 : World} (h : Kp2 b1 b2 w w1) (k : Kp2 b1 b2 w1 w2) : Kp2 b1 b2 w w2 :=
  ⟨k.os.trans h.os, k.tape.trans h.tape, k.output.trans h.output, Nat.le_trans h.size k.size, fun i hi h1 h2 => (k.block i (Nat.lt_of_lt_of_le hi h.size) h1 h2).trans (h.block i hi h1 h2)⟩
theorem Kp2.of_below {b1 b2 : Nat} {w w' : World} (h : Below w.heap.size w w') : Kp2 b1 b2 w w' := ⟨h.os, h.tape, h.output, h.size, fun i hi _ _ => h.block i hi⟩
theorem Kp2.of_grown1 {b1 b2 : Nat} {w w' : World} (h : w.grownBy w' (some b1)) : Kp2 b1 b2 w w' := ⟨h.os, h.tape, h.output, h.size, fun i hi h1 _ => h.block i hi (fun e => h1 (Option.some.inj e))⟩
theorem Kp2.of_grown2 {b1 b2 : Nat} {w w' : World} (h : w.grownBy w' (some b2)) : Kp2 b1 b2 w w' := ⟨h.os, h.tape, h.output, h.size, fun i hi _ h2 => h.block i hi (fun e => h2 (Option.some.inj e))⟩
theorem Kp2.toBelow {b1 b2 B : Nat} {w w' : World} (h : Kp2 b1 b2 w w') (hB : B ≤ w.heap.size) (h1 : B ≤ b1) (h2 : B ≤ b2) : Below B w w' := ⟨h.os, h.tape, h.output, h.size, fun i hi => h.block i (by omega) (by omega) (by omega)⟩
theorem MB.nocell {w : World} {b N : Nat} {F : Nat → Option Bool} (h : MB w b N F) {a : Addr} {v : Value} (hc : w.cell? a = some v) : a.block ≠ b := by
  obtain ⟨D, ⟨es, clock, hb, _⟩, _⟩ := h
  intro e
  unfold World.cell? at hc
  rw [e, hb] at hc
  simp at hc
theorem Kp2.cell {b1 b2 : Nat} {w w' : World} (h : Kp2 b1 b2 w w') {a : Addr} {v : Value} (hc : w.cell? a = some v) (h1 : a.block ≠ b1) (h2 : a.block ≠ b2) : w'.cell? a = some v :=
  (World.cell?_of_block (h.block _ (World.block_lt_of_cell? _ _ hc) h1 h2)).trans hc
theorem Kp2.cells {b1 b2 N : Nat} {F L : Nat → Option Bool} {w w' : World} (h : Kp2 b1 b2 w w') (m1 : MB w b1 N F) (m2 : MB w b2 N L) {a : Option Addr} {cs : List Value} (hc : CellsAt w a cs) : CellsAt w' a cs := by
  rcases hc with hc | ⟨b, off, rfl, hc⟩
  · exact .inl hc
  · exact .inr ⟨b, off, rfl, fun j v hj => h.cell (hc j v hj) (m1.nocell (hc j v hj)) (m2.nocell (hc j v hj))⟩

theorem index_any (p : List Int) (v : Value) (x : Int) (w : World) (hv : Rd w v (ints p)) (hn : p.length ≤ 4000000) (q : Nat) (hq : p.idxOf x = q) (hm : q < p.length) :
    Calls Try.prog 88 #[v, .int .i64 x] w fun e w' => e = .returned (.int .i64 (q : Int)) ∧ w = w' := by
  obtain ⟨a, cap, rfl, hc, hcm, ha, _⟩ := hv
  have HNE : Hid (∀ j, j < q → ∀ y, p[j]? = some y → y ≠ x) := Lib.hid fun j hj y hy e => by
    rw [← hq] at hj
    obtain ⟨hl, he⟩ := List.getElem?_eq_some_iff.1 hy
    have := List.not_of_lt_findIdx hj
    rw [he, e] at this
    simp at this
  have HEQ : Hid (p[q]? = some x) := Lib.hid (by
    subst hq
    rw [List.getElem?_eq_getElem hm, List.getElem_idxOf])
  rw [ints_length] at hc ⊢
  obtain ⟨n, hnn⟩ : ∃ n, p.length = n := ⟨_, rfl⟩
  rw [hnn] at hm hn ⊢
  clear hq hc
  go_enter Try.func88, Try.ntmps88
  go_wp2
  go_loop [5, 8] (fun _ s8 => ∃ k : Nat, k ≤ q ∧ s8 = .int .i64 k) (fun _ s8 => n - (intOf s8).toNat)
  case atStart => exact ⟨0, Nat.zero_le _, rfl⟩
  case round =>
    obtain ⟨k, hk, rfl⟩ := hrel
    have hkn : k < n := by omega
    obtain ⟨y, hy⟩ : ∃ y, p[k]? = some y := ⟨_, List.getElem?_eq_getElem (by omega)⟩
    obtain ⟨b, off, rfl, hcell⟩ := ha.cell (j := k) (by rw [ints_length]; omega)
    have c1 := hcell k _ (ints_get hy)
    clear hcell ha hnn
    by_cases hkq : k = q
    · subst hkq
      rw [HEQ.out] at hy
      obtain rfl := Option.some.inj hy
      clear hy
      go_wp2
      go_ret
      exact ⟨rfl, rfl⟩
    · have hne : (x == y) = false := by
        have := HNE.out k (by omega) y hy
        rw [Bool.eq_false_iff]; intro e; simp at e; exact this e.symm
      clear hy
      go_wp2
      go_round
      case rel => exact ⟨k + 1, by omega, by go_num⟩
      case measure => simp [intOf]; omega
end Go.Proofs.Ytelnlmhelkcliaa

/- Layout: places in memory. -/
import Derived.Test.YtpakkjkjppibnaaRows
import Derived.Test.YtpakkjkjppibnaaGHeap
import Derived.Shelf.Abstract
import Derived.RangeFuncBox
namespace Go.Proofs.Ytpakkjkjppibnaa
open Go.RowKit

theorem plcs_cons (x : Pl) (l : List Pl) : plcs (x :: l) = .int .i64 x.1 :: .int .i64 x.2.1 :: .int .i64 x.2.2 :: plcs l := by simp [plcs, plc]
theorem plcs_get {x : Pl} : ∀ {l : List Pl} {i : Nat}, l[i]? = some x → (plcs l)[3 * i]? = some (.int .i64 x.1) ∧ (plcs l)[3 * i + 1]? = some (.int .i64 x.2.1) ∧ (plcs l)[3 * i + 2]? = some (.int .i64 x.2.2)
  | y :: l, 0, h => by
    simp at h; subst h
    rw [plcs_cons]; simp
  | y :: l, i + 1, h => by
    have ih := plcs_get (l := l) (i := i) (by simpa using h)
    rw [plcs_cons, show 3 * (i + 1) = 3 * i + 1 + 1 + 1 by omega]
    simpa using ih
theorem plcs_set (x : Pl) : ∀ (l : List Pl) (i : Nat), (((plcs l).set (3 * i) (.int .i64 x.1)).set (3 * i + 1) (.int .i64 x.2.1)).set (3 * i + 2) (.int .i64 x.2.2) = plcs (l.set i x)
  | [], i => by simp [plcs]
  | y :: l, 0 => by simp [plcs_cons]
  | y :: l, i + 1 => by
    rw [List.set_cons_succ, plcs_cons, plcs_cons, show 3 * (i + 1) = 3 * i + 1 + 1 + 1 by omega, ← plcs_set x l i]
    simp
theorem plcs_take (l : List Pl) (n : Nat) : (plcs l).take (n * 3) = plcs (l.take n) := by
  induction l generalizing n with
  | nil => simp [plcs]
  | cons y l ih =>
    cases n with
    | zero => simp [plcs]
    | succ n => rw [List.take_succ_cons, plcs_cons, plcs_cons, show (n + 1) * 3 = n * 3 + 1 + 1 + 1 by omega, ← ih n]; simp

theorem own_some {w : World} {B n : Nat} {e : TypeId} {size : Nat} {v : Value} {xs : List Value} (h : w.ownsRow B e size v n xs) (hn : 0 < n) : ∃ g c, v = .slice (some ⟨g, 0, none⟩) n c ∧ B ≤ g ∧ g < w.heap.size := by
  have := h.lt
  rcases h.2 with ⟨_, rfl⟩ | ⟨g, cap, cur, rfl, hg, _⟩
  · omega
  · exact ⟨g, cap, rfl, this g rfl⟩
/-- a heap: a variable that holds a slice of places of its own -/
def HeapAt (W : World) (Bp B : Nat) (v : Value) (l : List Pl) : Prop := Boxed W Bp 113 v ∧ W.ownsRow B 116 3 v l.length (plcs l)
theorem HeapAt.below {W W' : World} {Bp B : Nat} {v : Value} {l : List Pl} (h : HeapAt W Bp B v l) (hb : Below W.heap.size W W') : HeapAt W' Bp B v l :=
  ⟨(hb.block Bp h.1.lt).trans h.1, own_below h.2 hb⟩
/-- the three cells of a place -/
theorem own_place {W : World} {B g c n : Nat} {l : List Pl} (h : W.ownsRow B 116 3 (.slice (some ⟨g, 0, none⟩) n c) n (plcs l)) (hn : l.length = n) {i : Nat} {x : Pl} (hx : l[i]? = some x) :
    W.cell? ⟨g, i * 3, none⟩ = some (.int .i64 x.1) ∧ W.cell? ⟨g, i * 3 + 1, none⟩ = some (.int .i64 x.2.1) ∧ W.cell? ⟨g, i * 3 + 2, none⟩ = some (.int .i64 x.2.2) := by
  have hi := (List.getElem?_eq_some_iff.1 hx).1
  obtain ⟨h1, h2, h3⟩ := plcs_get hx
  rw [Nat.mul_comm i 3]
  exact ⟨by rw [h.cellAt _ (by omega)]; exact h1, by rw [h.cellAt _ (by omega)]; exact h2, by rw [h.cellAt _ (by omega)]; exact h3⟩
/-- a place stored -/
theorem own_setPlace {W : World} {B g c n : Nat} {l : List Pl} (h : W.ownsRow B 116 3 (.slice (some ⟨g, 0, none⟩) n c) n (plcs l)) (i : Nat) (x : Pl) :
    (((W.setCell ⟨g, i * 3, none⟩ (.int .i64 x.1)).setCell ⟨g, i * 3 + 1, none⟩ (.int .i64 x.2.1)).setCell ⟨g, i * 3 + 2, none⟩ (.int .i64 x.2.2)).ownsRow B 116 3 (.slice (some ⟨g, 0, none⟩) n c) n (plcs (l.set i x)) := by
  rw [Nat.mul_comm i 3]
  have h3 := (((h.stored (3 * i) (.int .i64 x.1)).1.stored (3 * i + 1) (.int .i64 x.2.1)).1.stored (3 * i + 2) (.int .i64 x.2.2)).1
  rwa [plcs_set] at h3
/-- a row cut short -/
theorem own_take {W : World} {B g c n k : Nat} {e : TypeId} {size : Nat} {xs : List Value} (h : W.ownsRow B e size (.slice (some ⟨g, 0, none⟩) n c) n xs) (hk : k ≤ n) : W.ownsRow B e size (.slice (some ⟨g, 0, none⟩) k c) k (xs.take (k * size)) := by
  have hl := h.1
  have hks : k * size ≤ n * size := Nat.mul_le_mul_right _ hk
  rcases h.2 with ⟨h', _⟩ | ⟨g', cap, cur, h', hb, hg, hnc, hcm, hcs, htake⟩
  · simp at h'
  · simp only [Value.slice.injEq, Option.some.injEq, Addr.mk.injEq, and_true, true_and] at h'
    obtain ⟨rfl, rfl⟩ := h'
    refine ⟨by rw [List.length_take, hl]; omega, .inr ⟨g, c, cur, rfl, hb, hg, by omega, hcm, hcs, ?_⟩⟩
    rw [← htake, List.take_take, Nat.min_eq_left hks]

/-! ### what the heap's calls leave alone: all blocks but the heap's two -/
structure Kp (Bp : Nat) (v : Value) (w w' : World) : Prop where
  os : w'.os = w.os
  tape : w'.tape = w.tape
  output : w'.output = w.output
  size : w.heap.size ≤ w'.heap.size
  block : ∀ k, k < w.heap.size → k ≠ Bp → v.ownBlock ≠ some k → w'.heap[k]? = w.heap[k]?
/-- the new slice lies where the elder one lay, or is new -/
def Moved (w : World) (v v' : Value) : Prop := ∀ k, v'.ownBlock = some k → v.ownBlock = some k ∨ w.heap.size ≤ k
theorem Kp.refl (Bp : Nat) (v : Value) (w : World) : Kp Bp v w w := ⟨rfl, rfl, rfl, Nat.le_refl _, fun _ _ _ _ => rfl⟩
theorem Moved.refl (w : World) (v : Value) : Moved w v v := fun _ h => .inl h
theorem Kp.below {Bp : Nat} {v : Value} {w w1 w2 : World} (h : Kp Bp v w w1) (hb : Below w1.heap.size w1 w2) : Kp Bp v w w2 :=
  ⟨hb.os.trans h.os, hb.tape.trans h.tape, hb.output.trans h.output, Nat.le_trans h.size hb.size, fun k a b c => (hb.block k (Nat.lt_of_lt_of_le a h.size)).trans (h.block k a b c)⟩
theorem Kp.grown {Bp : Nat} {v : Value} {w w1 w2 : World} (h : Kp Bp v w w1) (hb : w1.grownBy w2 v.ownBlock) : Kp Bp v w w2 :=
  ⟨hb.os.trans h.os, hb.tape.trans h.tape, hb.output.trans h.output, Nat.le_trans h.size hb.size, fun k a b c => (hb.block k (Nat.lt_of_lt_of_le a h.size) (fun e => c e.symm)).trans (h.block k a b c)⟩
theorem Kp.setCell {Bp : Nat} {v : Value} {w w1 : World} (h : Kp Bp v w w1) (u : Value) : Kp Bp v w (w1.setCell ⟨Bp, 0, none⟩ u) :=
  have g := grownBy_setCell' w1 Bp u
  ⟨g.os.trans h.os, g.tape.trans h.tape, g.output.trans h.output, Nat.le_trans h.size g.size, fun k a b c => (g.block k (Nat.lt_of_lt_of_le a h.size) (fun e => b (Option.some.inj e))).trans (h.block k a b c)⟩
theorem Kp.trans {Bp : Nat} {v v1 : Value} {w w1 w2 : World} (h : Kp Bp v w w1) (hv : Moved w v v1) (k2 : Kp Bp v1 w1 w2) : Kp Bp v w w2 :=
  ⟨k2.os.trans h.os, k2.tape.trans h.tape, k2.output.trans h.output, Nat.le_trans h.size k2.size, fun k a b c => (k2.block k (Nat.lt_of_lt_of_le a h.size) b (fun e => by
    rcases hv k e with e1 | e1
    · exact c e1
    · omega)).trans (h.block k a b c)⟩
theorem Moved.trans {v v1 v2 : Value} {w w1 : World} (h : Moved w v v1) (hs : w.heap.size ≤ w1.heap.size) (h2 : Moved w1 v1 v2) : Moved w v v2 := fun k e => by
  rcases h2 k e with e1 | e1
  · exact h k e1
  · exact .inr (by omega)
/-- as 'Below', where the heap is new -/
theorem Kp.toBelow {Bp B : Nat} {v : Value} {w w' : World} (h : Kp Bp v w w') (hB : B ≤ w.heap.size) (hp : B ≤ Bp) (hv : ∀ k, v.ownBlock = some k → B ≤ k) : Below B w w' :=
  ⟨h.os, h.tape, h.output, h.size, fun k hk => h.block k (by omega) (by omega) (fun e => absurd (hv k e) (by omega))⟩
theorem Kp.cell {Bp : Nat} {v : Value} {w w' : World} (h : Kp Bp v w w') {a : Addr} {u : Value} (hc : w.cell? a = some u) (hp : a.block ≠ Bp) (hv : v.ownBlock ≠ some a.block) : w'.cell? a = some u :=
  (World.cell?_of_block (h.block _ (World.block_lt_of_cell? _ _ hc) hp hv)).trans hc
theorem Kp.own {Bp : Nat} {v : Value} {w w' : World} (h : Kp Bp v w w') {B n size g c : Nat} {e : TypeId} {xs : List Value} (ho : w.ownsRow B e size (.slice (some ⟨g, 0, none⟩) n c) n xs) (hp : g ≠ Bp) (hv : v.ownBlock ≠ some g) : w'.ownsRow B e size (.slice (some ⟨g, 0, none⟩) n c) n xs := by
  refine ⟨ho.1, ?_⟩
  rcases ho.2 with hn | ⟨g', cap, cur, hv', hg, hgg, rest⟩
  · exact .inl hn
  · simp only [Value.slice.injEq, Option.some.injEq, Addr.mk.injEq, and_true, true_and] at hv'
    obtain ⟨rfl, rfl⟩ := hv'
    exact .inr ⟨g, c, cur, rfl, hg, (h.block g (Array.getElem?_eq_some_iff.1 hgg).1 hp hv).trans hgg, rest⟩
/-- the world cut at a block -/
def cutW (w : World) (B : Nat) : World := { w with heap := w.heap.extract 0 B }
theorem cutW_size {w : World} {B : Nat} (h : B ≤ w.heap.size) : (cutW w B).heap.size = B := by simp [cutW]; omega
theorem cutW_below {w : World} {B : Nat} (h : B ≤ w.heap.size) : Below B (cutW w B) w :=
  ⟨rfl, rfl, rfl, by rw [cutW_size h]; exact h, fun k hk => by simp [cutW, Array.getElem?_extract]; omega⟩
end Go.Proofs.Ytpakkjkjppibnaa

/- Layout: places in memory.
   Appends of elements of more cells than one, in regions of either kind.
   Layout: the methods of the heap's list. -/
import Derived.Test.YtpakkjkjppibnaaRows
import Derived.Test.YtpakkjkjppibnaaKHeap
import Derived.Shelf.Abstract
import Derived.RangeFuncBox
import Derived.Test.YtpakkjkjppibnaaBase
import Derived.Deep.AppendLies
import Derived.Deep.RegionLaw
namespace Go.Proofs.Ytpakkjkjppibnaa
open Go.RowKit

theorem plcs_cons (x : Pl) (l : List Pl) : plcs (x :: l) = .int .i64 x.1 :: .int .i64 x.2.1 :: .int .i64 x.2.2 :: plcs l := by simp [plcs, plc]
theorem plcs_get {x : Pl} : ∀ {l : List Pl} {i : Nat}, l[i]? = some x → (plcs l)[3 * i]? = some (.int .i64 x.1) ∧ (plcs l)[3 * i + 1]? = some (.int .i64 x.2.1) ∧ (plcs l)[3 * i + 2]? = some (.int .i64 x.2.2)
  | y :: l, 0, h => by
    simp at h; subst h
    rw [plcs_cons]; simp
  | y :: l, i + 1, h => by
    have ih := plcs_get (l := l) (i := i) (by simpa using h)
    rw [plcs_cons, show 3 * (i + 1) = 3 * i + 1 + 1 + 1 by omega]
    simpa using ih
theorem plcs_set (x : Pl) : ∀ (l : List Pl) (i : Nat), (((plcs l).set (3 * i) (.int .i64 x.1)).set (3 * i + 1) (.int .i64 x.2.1)).set (3 * i + 2) (.int .i64 x.2.2) = plcs (l.set i x)
  | [], i => by simp [plcs]
  | y :: l, 0 => by simp [plcs_cons]
  | y :: l, i + 1 => by
    rw [List.set_cons_succ, plcs_cons, plcs_cons, show 3 * (i + 1) = 3 * i + 1 + 1 + 1 by omega, ← plcs_set x l i]
    simp
theorem plcs_take (l : List Pl) (n : Nat) : (plcs l).take (n * 3) = plcs (l.take n) := by
  induction l generalizing n with
  | nil => simp [plcs]
  | cons y l ih =>
    cases n with
    | zero => simp [plcs]
    | succ n => rw [List.take_succ_cons, plcs_cons, plcs_cons, show (n + 1) * 3 = n * 3 + 1 + 1 + 1 by omega, ← ih n]; simp

theorem own_some {w : World} {B n : Nat} {e : TypeId} {size : Nat} {v : Value} {xs : List Value} (h : w.ownsRow B e size v n xs) (hn : 0 < n) : ∃ g c, v = .slice (some ⟨g, 0, none⟩) n c ∧ B ≤ g ∧ g < w.heap.size := by
  have := h.lt
  rcases h.2 with ⟨_, rfl⟩ | ⟨g, cap, cur, rfl, hg, _⟩
  · omega
  · exact ⟨g, cap, rfl, this g rfl⟩
/-- a heap: a variable that holds a slice of places of its own -/
def HeapAt (W : World) (Bp B : Nat) (v : Value) (l : List Pl) : Prop := Boxed W Bp 113 v ∧ W.ownsRow B 116 3 v l.length (plcs l)
theorem HeapAt.below {W W' : World} {Bp B : Nat} {v : Value} {l : List Pl} (h : HeapAt W Bp B v l) (hb : Below W.heap.size W W') : HeapAt W' Bp B v l :=
  ⟨(hb.block Bp h.1.lt).trans h.1, own_below h.2 hb⟩
/-- the three cells of a place -/
theorem own_place {W : World} {B g c n : Nat} {l : List Pl} (h : W.ownsRow B 116 3 (.slice (some ⟨g, 0, none⟩) n c) n (plcs l)) (hn : l.length = n) {i : Nat} {x : Pl} (hx : l[i]? = some x) :
    W.cell? ⟨g, i * 3, none⟩ = some (.int .i64 x.1) ∧ W.cell? ⟨g, i * 3 + 1, none⟩ = some (.int .i64 x.2.1) ∧ W.cell? ⟨g, i * 3 + 2, none⟩ = some (.int .i64 x.2.2) := by
  have hi := (List.getElem?_eq_some_iff.1 hx).1
  obtain ⟨h1, h2, h3⟩ := plcs_get hx
  rw [Nat.mul_comm i 3]
  exact ⟨by rw [h.cellAt _ (by omega)]; exact h1, by rw [h.cellAt _ (by omega)]; exact h2, by rw [h.cellAt _ (by omega)]; exact h3⟩
/-- a place stored -/
theorem own_setPlace {W : World} {B g c n : Nat} {l : List Pl} (h : W.ownsRow B 116 3 (.slice (some ⟨g, 0, none⟩) n c) n (plcs l)) (i : Nat) (x : Pl) :
    (((W.setCell ⟨g, i * 3, none⟩ (.int .i64 x.1)).setCell ⟨g, i * 3 + 1, none⟩ (.int .i64 x.2.1)).setCell ⟨g, i * 3 + 2, none⟩ (.int .i64 x.2.2)).ownsRow B 116 3 (.slice (some ⟨g, 0, none⟩) n c) n (plcs (l.set i x)) := by
  rw [Nat.mul_comm i 3]
  have h3 := (((h.stored (3 * i) (.int .i64 x.1)).1.stored (3 * i + 1) (.int .i64 x.2.1)).1.stored (3 * i + 2) (.int .i64 x.2.2)).1
  rwa [plcs_set] at h3
/-- a row cut short -/
theorem own_take {W : World} {B g c n k : Nat} {e : TypeId} {size : Nat} {xs : List Value} (h : W.ownsRow B e size (.slice (some ⟨g, 0, none⟩) n c) n xs) (hk : k ≤ n) : W.ownsRow B e size (.slice (some ⟨g, 0, none⟩) k c) k (xs.take (k * size)) := by
  have hl := h.1
  have hks : k * size ≤ n * size := Nat.mul_le_mul_right _ hk
  rcases h.2 with ⟨h', _⟩ | ⟨g', cap, cur, h', hb, hg, hnc, hcm, hcs, htake⟩
  · simp at h'
  · simp only [Value.slice.injEq, Option.some.injEq, Addr.mk.injEq, and_true, true_and] at h'
    obtain ⟨rfl, rfl⟩ := h'
    refine ⟨by rw [List.length_take, hl]; omega, .inr ⟨g, c, cur, rfl, hb, hg, by omega, hcm, hcs, ?_⟩⟩
    rw [← htake, List.take_take, Nat.min_eq_left hks]

/-! ### what the heap's calls leave alone: all blocks but the heap's two -/
structure Kp (Bp : Nat) (v : Value) (w w' : World) : Prop where
  os : w'.os = w.os
  tape : w'.tape = w.tape
  output : w'.output = w.output
  size : w.heap.size ≤ w'.heap.size
  block : ∀ k, k < w.heap.size → k ≠ Bp → v.ownBlock ≠ some k → w'.heap[k]? = w.heap[k]?
/-- the new slice lies where the elder one lay, or is new -/
def Moved (w : World) (v v' : Value) : Prop := ∀ k, v'.ownBlock = some k → v.ownBlock = some k ∨ w.heap.size ≤ k
theorem Kp.refl (Bp : Nat) (v : Value) (w : World) : Kp Bp v w w := ⟨rfl, rfl, rfl, Nat.le_refl _, fun _ _ _ _ => rfl⟩
theorem Moved.refl (w : World) (v : Value) : Moved w v v := fun _ h => .inl h
theorem Kp.below {Bp : Nat} {v : Value} {w w1 w2 : World} (h : Kp Bp v w w1) (hb : Below w1.heap.size w1 w2) : Kp Bp v w w2 :=
  ⟨hb.os.trans h.os, hb.tape.trans h.tape, hb.output.trans h.output, Nat.le_trans h.size hb.size, fun k a b c => (hb.block k (Nat.lt_of_lt_of_le a h.size)).trans (h.block k a b c)⟩
theorem Kp.grown {Bp : Nat} {v : Value} {w w1 w2 : World} (h : Kp Bp v w w1) (hb : w1.grownBy w2 v.ownBlock) : Kp Bp v w w2 :=
  ⟨hb.os.trans h.os, hb.tape.trans h.tape, hb.output.trans h.output, Nat.le_trans h.size hb.size, fun k a b c => (hb.block k (Nat.lt_of_lt_of_le a h.size) (fun e => c e.symm)).trans (h.block k a b c)⟩
theorem Kp.setCell {Bp : Nat} {v : Value} {w w1 : World} (h : Kp Bp v w w1) (u : Value) : Kp Bp v w (w1.setCell ⟨Bp, 0, none⟩ u) :=
  have g := grownBy_setCell' w1 Bp u
  ⟨g.os.trans h.os, g.tape.trans h.tape, g.output.trans h.output, Nat.le_trans h.size g.size, fun k a b c => (g.block k (Nat.lt_of_lt_of_le a h.size) (fun e => b (Option.some.inj e))).trans (h.block k a b c)⟩
theorem Kp.trans {Bp : Nat} {v v1 : Value} {w w1 w2 : World} (h : Kp Bp v w w1) (hv : Moved w v v1) (k2 : Kp Bp v1 w1 w2) : Kp Bp v w w2 :=
  ⟨k2.os.trans h.os, k2.tape.trans h.tape, k2.output.trans h.output, Nat.le_trans h.size k2.size, fun k a b c => (k2.block k (Nat.lt_of_lt_of_le a h.size) b (fun e => by
    rcases hv k e with e1 | e1
    · exact c e1
    · omega)).trans (h.block k a b c)⟩
theorem Moved.trans {v v1 v2 : Value} {w w1 : World} (h : Moved w v v1) (hs : w.heap.size ≤ w1.heap.size) (h2 : Moved w1 v1 v2) : Moved w v v2 := fun k e => by
  rcases h2 k e with e1 | e1
  · exact h k e1
  · exact .inr (by omega)
/-- as 'Below', where the heap is new -/
theorem Kp.toBelow {Bp B : Nat} {v : Value} {w w' : World} (h : Kp Bp v w w') (hB : B ≤ w.heap.size) (hp : B ≤ Bp) (hv : ∀ k, v.ownBlock = some k → B ≤ k) : Below B w w' :=
  ⟨h.os, h.tape, h.output, h.size, fun k hk => h.block k (by omega) (by omega) (fun e => absurd (hv k e) (by omega))⟩
theorem Kp.cell {Bp : Nat} {v : Value} {w w' : World} (h : Kp Bp v w w') {a : Addr} {u : Value} (hc : w.cell? a = some u) (hp : a.block ≠ Bp) (hv : v.ownBlock ≠ some a.block) : w'.cell? a = some u :=
  (World.cell?_of_block (h.block _ (World.block_lt_of_cell? _ _ hc) hp hv)).trans hc
theorem Kp.own {Bp : Nat} {v : Value} {w w' : World} (h : Kp Bp v w w') {B n size g c : Nat} {e : TypeId} {xs : List Value} (ho : w.ownsRow B e size (.slice (some ⟨g, 0, none⟩) n c) n xs) (hp : g ≠ Bp) (hv : v.ownBlock ≠ some g) : w'.ownsRow B e size (.slice (some ⟨g, 0, none⟩) n c) n xs := by
  refine ⟨ho.1, ?_⟩
  rcases ho.2 with hn | ⟨g', cap, cur, hv', hg, hgg, rest⟩
  · exact .inl hn
  · simp only [Value.slice.injEq, Option.some.injEq, Addr.mk.injEq, and_true, true_and] at hv'
    obtain ⟨rfl, rfl⟩ := hv'
    exact .inr ⟨g, c, cur, rfl, hg, (h.block g (Array.getElem?_eq_some_iff.1 hgg).1 hp hv).trans hgg, rest⟩
/-- the world cut at a block -/
def cutW (w : World) (B : Nat) : World := { w with heap := w.heap.extract 0 B }
theorem cutW_size {w : World} {B : Nat} (h : B ≤ w.heap.size) : (cutW w B).heap.size = B := by simp [cutW]; omega
theorem cutW_below {w : World} {B : Nat} (h : B ≤ w.heap.size) : Below B (cutW w B) w :=
  ⟨rfl, rfl, rfl, by rw [cutW_size h]; exact h, fun k hk => by simp [cutW, Array.getElem?_extract]; omega⟩
end Go.Proofs.Ytpakkjkjppibnaa

namespace Go.Proofs.Ytpakkjkjppibnaa
open Go.RowKit

/-- What the append laws ask of an element's type of k cells. -/
structure ElemK (P : Program) (t e : TypeId) (z : Value) (size bytes : Nat) : Prop where
  und : P.underlying t = some (.slice e)
  info : ∃ i, P.info? e = some i ∧ i.zero = some z ∧ i.size = size ∧ i.bytes = bytes
  zc : z.cells.size = size
  pos : 0 < size
  small : bytes ≤ 96

section
variable {P : Program} {ops : Array Oper} {rest : List Oper} {o : Oper} {a : Act} {Q : Exit → Act → World → Prop}
theorem appK {t e : TypeId} {z : Value} {size bytes : Nat} (EO : ElemK P t e z size bytes) (hgd : o.guard = none) {s x : Operand}
    (ho : o.op = .call { callee := .builtin .append, args := #[s, x], argTypes := #[t, t] })
    {w0 W : World} {v : Value} {n : Nat} {xs : List Value} {cur : Array Value} (hs : a.eval s = v) (hx : a.eval x = .slice (some ⟨W.heap.size, 0, none⟩) 1 1)
    (hbel : Below w0.heap.size w0 W) (hown : W.ownsRow w0.heap.size e size v n xs) (hk : cur.size = size) (h1 : ∀ u ∈ cur.toList, u.oneCell' = true) (hn : n ≤ 4000000)
    (h : ∀ v' w', w'.ownsRow w0.heap.size e size v' (n + 1) (xs ++ cur.toList) → Below w0.heap.size w0 w' → (W.alloc (.cells cur e)).grownBy w' v.ownBlock →
      wpList P ops Q rest (a.put o.dst v') w') : wpList P ops Q (o :: rest) a (W.alloc (.cells cur e)) := by
  obtain ⟨i, hi, hz, hsz, hby⟩ := EO.info
  have hsm := EO.small
  have hB := hbel.size
  refine wpList_append_own _ hgd s x t ho w0.heap.size e i z size bytes EO.und hi hz hsz hby EO.zc EO.pos v n xs hs (hown.alloc _) ⟨W.heap.size, 0, none⟩ 1 1 cur.toList hx (by simp [hk]) ?_ h1 ?_ ?_ ?_ ?_
  · intro j u' hj
    have hj2 : j < cur.size := by
      have := (List.getElem?_eq_some_iff.1 hj).1; simpa using this
    rw [show (⟨W.heap.size, 0, none⟩ : Addr).add j = ⟨W.heap.size, j, none⟩ from by unfold Addr.add; split <;> simp_all]
    have e1 : (W.alloc (.cells cur e)).cell? ⟨W.heap.size, j, none⟩ = cur[j]? := by
      have := heap_alloc_new W (.cells cur e)
      simp only [World.cell?, this]; simp
    rw [e1, ← hj]; simp
  · unfold maxLen; omega
  · have : (n + 1) * bytes ≤ (n + 1) * 96 := Nat.mul_le_mul_left _ hsm
    omega
  · simp; omega
  · intro v' w' ho' hg _
    exact h v' w' ho' ((hbel.alloc hB _).grown hg (by simp; omega) (fun k e => (hown.lt k e).1)) hg
end

section
variable {P : Program} {ops : Array Oper} {o : Oper} {a : Act} {K : Act → World → Prop} {Q : Exit → Act → World → Prop} {E : Prop}
/-- 'append' of one element of k cells, as a step of a region that draws; and where the new value lies. -/
theorem stepK {t e : TypeId} {z : Value} {size bytes : Nat} (EO : ElemK P t e z size bytes) (hgd : o.guard = none) {s x : Operand}
    (ho : o.op = .call { callee := .builtin .append, args := #[s, x], argTypes := #[t, t] })
    {w0 W : World} {v : Value} {n B c : Nat} {xs : List Value} {cur : Array Value} {fr : Nat × Nat} (hs : a.eval s = v) (hx : a.eval x = .slice (some ⟨B, 0, none⟩) 1 c) (hB : W.heap[B]? = some (.cells cur e fr))
    (hbel : Below w0.heap.size w0 W) (hown : W.ownsRow w0.heap.size e size v n xs) (hk : cur.size = size) (h1 : ∀ u ∈ cur.toList, u.oneCell' = true) (hn : n ≤ 4000000)
    (h : ∀ g cap w', w'.ownsRow w0.heap.size e size (.slice (some ⟨g, 0, none⟩) (n + 1) cap) (n + 1) (xs ++ cur.toList) → W.grownBy w' v.ownBlock → (v.ownBlock = some g ∨ g = W.heap.size) → g < w'.heap.size → Below w0.heap.size w0 w' →
      K (a.put o.dst (.slice (some ⟨g, 0, none⟩) (n + 1) cap)) w') : if Region.wanted o (yielded ops a.tmps) = true then Oper.wp P o a W K Q else E := by
  obtain ⟨i, hi, hz, hsz, hby⟩ := EO.info
  have hsm := EO.small
  refine step_append_lies W hgd s x t ho w0.heap.size e i z size bytes EO.und hi hz hsz hby EO.zc EO.pos v n xs hs hown ⟨B, 0, none⟩ 1 c cur.toList hx (by simp [hk]) (World.news_of_block hB) h1 (by decide) (by unfold maxLen; omega) ?_ hbel.size W.heap.size rfl ?_
  · have : (n + 1) * bytes ≤ (n + 1) * 96 := Nat.mul_le_mul_left _ hsm
    omega
  · intro g cap w' h2 h3 h4 h5
    exact h g cap w' h2 h3 h4 h5 (hbel.grown h3 hbel.size (fun k e => (hown.lt k e).1))
end


end Go.Proofs.Ytpakkjkjppibnaa

namespace Go.Proofs.Ytpakkjkjppibnaa
open Go.RowKit

theorem grown_tr {A B C : World} {X : Option Nat} (h : A.grownBy B X) (k : B.grownBy C X) : A.grownBy C X :=
  ⟨k.os.trans h.os, k.tape.trans h.tape, k.output.trans h.output, Nat.le_trans h.size k.size, fun i hi hne => (k.block i (Nat.lt_of_lt_of_le hi h.size) hne).trans (h.block i hi hne)⟩
theorem grown_trans6 {A B C D E F G : World} {X : Option Nat} (h1 : A.grownBy B X) (h2 : B.grownBy C X) (h3 : C.grownBy D X) (h4 : D.grownBy E X) (h5 : E.grownBy F X) (h6 : F.grownBy G X) : A.grownBy G.drew X :=
  have h := grown_tr (grown_tr (grown_tr (grown_tr (grown_tr h1 h2) h3) h4) h5) h6
  ⟨h.os, h.tape, h.output, h.size, h.block⟩

theorem len_any (a : Option Addr) (n c : Nat) (w : World) :
    Calls Try.prog 77 #[.slice a n c] w fun e w' => e = .returned (.int .i64 n) ∧ w = w' := by
  go_enter Try.func77, Try.ntmps77
  go_wp2
  go_ret
  exact ⟨rfl, rfl⟩

theorem less_any (g n c B : Nat) (l : List Pl) (i k : Nat) (w : World) (h : w.ownsRow B 116 3 (.slice (some ⟨g, 0, none⟩) n c) n (plcs l)) (hl : l.length = n) (hi : i < n) (hk : k < n) :
    Calls Try.prog 153 #[.slice (some ⟨g, 0, none⟩) n c, .int .i64 i, .int .i64 k] w fun e w' => e = .returned (.bool (lessP l i k)) ∧ Below w.heap.size w w' := by
  obtain ⟨x, hx⟩ : ∃ x, l[i]? = some x := ⟨_, List.getElem?_eq_getElem (by omega)⟩
  obtain ⟨y, hy⟩ : ∃ y, l[k]? = some y := ⟨_, List.getElem?_eq_getElem (by omega)⟩
  obtain ⟨_, _, c1⟩ := own_place h hl hx
  obtain ⟨_, _, c2⟩ := own_place h hl hy
  have HL : Hid (lessP l i k = decide (x.2.2 < y.2.2)) := Lib.hid (by unfold lessP; rw [List.getD_eq_getElem?_getD, List.getD_eq_getElem?_getD, hx, hy]; rfl)
  have hi' : (i : Int) < (n : Int) := by omega
  have hk' : (k : Int) < (n : Int) := by omega
  clear hx hy h hl
  obtain ⟨x1, x2, x3⟩ := x
  obtain ⟨y1, y2, y3⟩ := y
  dsimp only at *
  go_enter Try.func153, Try.ntmps153
  go_wp2
  go_quiet (fail)
  go_wp2
  go_ret
  exact ⟨by rw [HL.out]; rfl, bel_drewN (Below.refl _ _) _⟩

theorem swap_any (g n c B : Nat) (l : List Pl) (i k : Nat) (w : World) (h : w.ownsRow B 116 3 (.slice (some ⟨g, 0, none⟩) n c) n (plcs l)) (hl : l.length = n) (hi : i < n) (hk : k < n) :
    Calls Try.prog 156 #[.slice (some ⟨g, 0, none⟩) n c, .int .i64 i, .int .i64 k] w fun e w' => (∃ v, e = .returned v) ∧ w'.ownsRow B 116 3 (.slice (some ⟨g, 0, none⟩) n c) n (plcs (swapP l i k)) ∧ w.grownBy w' (some g) := by
  obtain ⟨x, hx⟩ : ∃ x, l[i]? = some x := ⟨_, List.getElem?_eq_getElem (by omega)⟩
  obtain ⟨y, hy⟩ : ∃ y, l[k]? = some y := ⟨_, List.getElem?_eq_getElem (by omega)⟩
  obtain ⟨c1, c2, c3⟩ := own_place h hl hx
  obtain ⟨d1, d2, d3⟩ := own_place h hl hy
  have f1 := h.frozenAt (i * 3)
  have f2 := h.frozenAt (i * 3 + 1)
  have f3 := h.frozenAt (i * 3 + 2)
  have e1 := h.frozenAt (k * 3)
  have e2 := h.frozenAt (k * 3 + 1)
  have e3 := h.frozenAt (k * 3 + 2)
  have HR := Lib.hid (own_setPlace (own_setPlace h i y) k x)
  have HG : Hid (∀ W : World, ∀ j u, W.grownBy (W.setCell ⟨g, j, none⟩ u) (some g)) := Lib.hid fun W j u => ⟨rfl, rfl, rfl, (KeepsWalks.setCell W _ u).size, fun k' _ hk' => Below.heap_setCell _ _ _ k' (fun e => hk' (by rw [e]))⟩
  have HL : Hid (swapP l i k = (l.set i y).set k x) := Lib.hid (by unfold swapP; rw [List.getD_eq_getElem?_getD, List.getD_eq_getElem?_getD, hx, hy]; rfl)
  have hi' : (i : Int) < (n : Int) := by omega
  have hk' : (k : Int) < (n : Int) := by omega
  have HXY : Hid (i = k → y = x) := Lib.hid (fun e => by subst e; rw [hx] at hy; exact (Option.some.inj hy).symm)
  clear hx hy h hl
  by_cases hik : i = k
  · obtain rfl := HXY.out hik
    subst hik
    obtain ⟨x1, x2, x3⟩ := y
    dsimp only at *
    go_enter Try.func156, Try.ntmps156
    go_wp2
    go_region
    all_goals (
      go_wp2_with fail
      refine bodyPost_end (results_none rfl _ _ _) rfl ?_
      refine ⟨⟨_, rfl⟩, by rw [HL.out]; exact HR.out.drew, ?_⟩
      exact grown_trans6 (HG.out _ _ _) (HG.out _ _ _) (HG.out _ _ _) (HG.out _ _ _) (HG.out _ _ _) (HG.out _ _ _))
  · obtain ⟨x1, x2, x3⟩ := x
    obtain ⟨y1, y2, y3⟩ := y
    dsimp only at *
    have n1 : ¬ i * 3 = k * 3 := by omega
    have n2 : ¬ k * 3 = i * 3 := by omega
    go_enter Try.func156, Try.ntmps156
    go_wp2
    go_region
    all_goals (
      go_wp2_with fail
      refine bodyPost_end (results_none rfl _ _ _) rfl ?_
      refine ⟨⟨_, rfl⟩, by rw [HL.out]; exact HR.out.drew, ?_⟩
      exact grown_trans6 (HG.out _ _ _) (HG.out _ _ _) (HG.out _ _ _) (HG.out _ _ _) (HG.out _ _ _) (HG.out _ _ _))

theorem el_pl : ElemK Try.prog 113 116 (.agg #[.int .i64 0, .int .i64 0, .int .i64 0]) 3 24 :=
  ⟨by kernel_rfl, info_parts (by kernel_rfl), by rfl, by decide, by decide⟩

theorem assert_pl (xT : TypeId) (v : Value) (w : World) : (Instr.typeAssert (.iface 116 v) xT 116 false).run Try.prog w = .ok v w := by
  simp [Instr.typeAssert, run_underlying Try.underlying116, go_sem, Result.andThen]

theorem push1_any (Bp B : Nat) (v : Value) (l : List Pl) (x : Pl) (w : World) (h : HeapAt w Bp B v l) (hBp : B ≤ Bp) (hn : l.length ≤ 4000000) :
    Calls Try.prog 155 #[.pointer (some ⟨Bp, 0, none⟩), .iface 116 (.agg #[.int .i64 x.1, .int .i64 x.2.1, .int .i64 x.2.2])] w fun e w' => (∃ u, e = .returned u) ∧ ∃ v', HeapAt w' Bp B v' (l ++ [x]) ∧ Kp Bp v w w' ∧ Moved w v v' := by
  obtain ⟨w0, hw0⟩ : ∃ w0, cutW w B = w0 := ⟨_, rfl⟩
  have hBw : B ≤ w.heap.size := Nat.le_trans hBp (Nat.le_of_lt h.1.lt)
  have hb := cutW_below hBw
  have hB0 := cutW_size hBw
  rw [hw0] at hb hB0
  clear hw0
  subst hB0
  obtain ⟨h1, h2⟩ := h
  have hc := h1.cell
  have hf := h1.frozen
  have hlt := h1.lt
  have hbd : Below w0.heap.size w0 w.drew := hb.drew
  obtain ⟨x1, x2, x3⟩ := x
  dsimp only at *
  obtain ⟨va, vc, rfl⟩ := own_form h2
  have hta := assert_pl
  go_enter Try.func155, Try.ntmps155
  go_wp2_with fail
  go_region_law (first
    | (refine stepK el_pl rfl rfl (w0 := w0) rfl rfl (heap_alloc_new _ _) (by exact hbd.alloc hbd.size _) (by exact (World.ownsRow.alloc (show w.drew.ownsRow _ _ _ _ _ _ from h2) _)) rfl (by simp [Value.oneCell']) (by omega) ?_; intro g' cap' w11 ho11 hg11 hat11 hlt11 hb11; have hbx : Boxed w11 Bp 113 _ := Boxed.kept (Boxed.alloc (show Boxed w.drew Bp _ _ from h1) _) hg11 (Boxed.not_row (show Boxed w.drew Bp _ _ from h1) (by decide) (show w.drew.ownsRow _ _ _ _ _ _ from h2)); have hc1 := hbx.cell; have hf1 := hbx.frozen))
  all_goals (
    go_wp2_with fail
    refine bodyPost_end (results_none rfl _ _ _) rfl ?_
    refine ⟨⟨_, rfl⟩, _, ⟨hbx.set _, ?_⟩, Kp.setCell (Kp.grown ((Kp.refl Bp _ w).below ((Below.refl _ _).drew.alloc (Nat.le_refl _) _)) hg11) _, fun k hk => ?_⟩
    rotate_left
    · rcases hat11 with e1 | e1
      · exact .inl (e1.trans hk)
      · have e2 : g' = k := Option.some.inj hk
        refine .inr ?_
        rw [← e2, e1]
        simp
    rw [List.length_append, plcs_append]
    exact ho11.kept (grownBy_setCell' w11 Bp _) (.inr (hbx.not_row (by decide) ho11).symm))

theorem pop1_any (Bp B : Nat) (v : Value) (l : List Pl) (x : Pl) (w : World) (h : HeapAt w Bp B v l) (hn : l.length ≤ 4000000) (hx : l[l.length - 1]? = some x) :
    Calls Try.prog 154 #[.pointer (some ⟨Bp, 0, none⟩)] w fun e w' => e = .returned (.iface 116 (.agg #[.int .i64 x.1, .int .i64 x.2.1, .int .i64 x.2.2])) ∧ ∃ v', HeapAt w' Bp B v' (l.take (l.length - 1)) ∧ Kp Bp v w w' ∧ Moved w v v' := by
  obtain ⟨h1, h2⟩ := h
  have hpos : 0 < l.length := by have := (List.getElem?_eq_some_iff.1 hx).1; omega
  obtain ⟨g, c, rfl, hg1, hg2⟩ := own_some h2 hpos
  obtain ⟨c1, c2, c3⟩ := own_place h2 rfl hx
  have hc := h1.cell
  have hf := h1.frozen
  have hlt := h1.lt
  obtain ⟨k, hk⟩ : ∃ k, l.length = k + 1 := ⟨l.length - 1, by omega⟩
  have HK := Lib.hid hk
  have HO := Lib.hid h2
  have H1 := Lib.hid h1
  rw [hk, Nat.add_sub_cancel] at c1 c2 c3 ⊢
  rw [hk] at hc
  have hwk : wrap64 (k : Int) = (k : Int) := by unfold wrap64; omega
  have hkc : k + 1 ≤ c := by
    rcases h2.2 with ⟨e, _⟩ | ⟨g', cap, cur, e, _, _, q, _⟩
    · simp at e
    · simp only [Value.slice.injEq, Option.some.injEq, Addr.mk.injEq, and_true, true_and] at e
      omega
  have hkc' : (k : Int) ≤ (c : Int) := by omega
  obtain ⟨x1, x2, x3⟩ := x
  dsimp only at *
  clear h1 h2 hx hk
  go_enter Try.func154, Try.ntmps154
  go_wp2_with fail
  go_ret
  have ho := HO.out
  rw [HK.out] at ho
  have ho2 := own_take (k := k) ho (by omega)
  rw [plcs_take] at ho2
  have hlt2 : (l.take k).length = k := by rw [List.length_take, HK.out]; omega
  refine ⟨rfl, _, ⟨(H1.out.set _).alloc _, ?_⟩, ((Kp.refl Bp _ w).setCell _).below ((Below.refl _ _).alloc (Nat.le_refl _) _), fun k hk => .inl hk⟩
  rw [hlt2]
  exact (ho2.kept (grownBy_setCell' w Bp _) (.inr (H1.out.not_row (by decide) ho2).symm)).alloc _

end Go.Proofs.Ytpakkjkjppibnaa

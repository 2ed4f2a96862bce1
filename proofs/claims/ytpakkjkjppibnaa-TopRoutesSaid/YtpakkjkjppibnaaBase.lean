/- Words and laws that every walk of this seat uses: slices that read as lists. -/
import Derived.WalkKit
import Derived.Lib.Hide
import Derived.Deep.QuietTactic
import Derived.BigQuiet
import Derived.BigRegion
import Derived.Laws.AppendOwnNone
import Derived.WalkSpells
import Derived.WalkLawsBesides
import Derived.Deep.RegionHeld3
namespace Go.Proofs.Ytpakkjkjppibnaa
open Go.RowKit

/-- From address a on the cells read as cs. -/
def CellsAt (w : World) (a : Option Addr) (cs : List Value) : Prop :=
  cs = [] ∨ ∃ b off, a = some ⟨b, off, none⟩ ∧ ∀ j v, cs[j]? = some v → w.cell? ⟨b, off + j, none⟩ = some v

/-- Lists of numbers and of bools as cells (plain definitions, so that the walk leaves them alone). -/
def ints (l : List Int) : List Value := l.map (Value.int .i64)
def bools (l : List Bool) : List Value := l.map Value.bool
theorem ints_append (l m : List Int) : ints (l ++ m) = ints l ++ ints m := by simp [ints]
theorem bools_append (l m : List Bool) : bools (l ++ m) = bools l ++ bools m := by simp [bools]
theorem ints_length (l : List Int) : (ints l).length = l.length := by simp [ints]
theorem bools_length (l : List Bool) : (bools l).length = l.length := by simp [bools]
theorem ints_one (x : Int) : ints [x] = [.int .i64 x] := rfl
theorem bools_one (x : Bool) : bools [x] = [.bool x] := rfl
theorem ints_cell (l : List Int) (u : Value) (h : u ∈ ints l) : u.oneCell' = true := by obtain ⟨z, _, rfl⟩ := List.mem_map.1 h; rfl
theorem bools_cell (l : List Bool) (u : Value) (h : u ∈ bools l) : u.oneCell' = true := by obtain ⟨z, _, rfl⟩ := List.mem_map.1 h; rfl
theorem ints_get {l : List Int} {j : Nat} {x : Int} (h : l[j]? = some x) : (ints l)[j]? = some (.int .i64 x) := by simp [ints, h]
theorem bools_get {l : List Bool} {j : Nat} {x : Bool} (h : l[j]? = some x) : (bools l)[j]? = some (.bool x) := by simp [bools, h]
theorem ints_getD {l : List Int} {j : Nat} (h : j < l.length) : (ints l)[j]? = some (.int .i64 (l.getD j 0)) := by simp [ints, List.getD, List.getElem?_eq_getElem h]
theorem bools_getD {l : List Bool} {j : Nat} (h : j < l.length) : (bools l)[j]? = some (.bool (l.getD j false)) := by simp [bools, List.getD, List.getElem?_eq_getElem h]

theorem filter_range_succ (p : Nat → Bool) (k : Nat) : (List.range (k + 1)).filter p = if p k then (List.range k).filter p ++ [k] else (List.range k).filter p := by
  rw [List.range_succ, List.filter_append]
  by_cases h : p k = true
  · rw [if_pos h, List.filter_cons, if_pos h]; rfl
  · rw [if_neg h, List.filter_cons, if_neg h]; simp

/-- A slice value of one-cell elements reads as cs. -/
def Rd (w : World) (v : Value) (cs : List Value) : Prop :=
  ∃ a cap, v = .slice a cs.length cap ∧ cs.length ≤ cap ∧ cap ≤ maxLen ∧ CellsAt w a cs ∧ (a = none → cap = 0)

theorem CellsAt.below {w w' : World} {a : Option Addr} {cs : List Value} {B : Nat} (h : CellsAt w a cs) (hb : Below B w w') (hB : w.heap.size ≤ B) : CellsAt w' a cs := by
  rcases h with h | ⟨b, off, rfl, h⟩
  · exact .inl h
  · refine .inr ⟨b, off, rfl, fun j v hj => ?_⟩
    have hc := h j v hj
    have hlt := World.block_lt_of_cell? w _ hc
    exact (hb.cell (p := ⟨b, off + j, none⟩) (Nat.lt_of_lt_of_le hlt hB)).trans hc

theorem Rd.below {w w' : World} {v : Value} {cs : List Value} {B : Nat} (h : Rd w v cs) (hb : Below B w w') (hB : w.heap.size ≤ B) : Rd w' v cs := by
  obtain ⟨a, cap, rfl, h1, h2, h3, h4⟩ := h
  exact ⟨a, cap, rfl, h1, h2, h3.below hb hB, h4⟩

theorem Rd.nil (w : World) : Rd w (.slice none 0 0) [] := ⟨none, 0, rfl, by simp, by simp, .inl rfl, fun _ => rfl⟩

theorem Rd.parts {w : World} {v : Value} {cs : List Value} (h : Rd w v cs) {n : Nat} (hn : cs.length = n) :
    ∃ a cap, v = .slice a n cap ∧ n ≤ cap ∧ cap ≤ maxLen ∧ CellsAt w a cs ∧ (a = none → cap = 0) := by subst hn; exact h

theorem ret2i {a b : Int} {u : Value} (h : a = b) : Ending.returned (.tuple #[.int .i64 a, u]) = .returned (.tuple #[.int .i64 b, u]) := by rw [h]
theorem ret1i {a b : Int} (h : a = b) : Ending.returned (.int .i64 a) = .returned (.int .i64 b) := by rw [h]

/-- What is owned reads so. -/
theorem Rd.own {w : World} {B n : Nat} {e : TypeId} {v : Value} {cs : List Value} (h : w.ownsRow B e 1 v n cs) : Rd w v cs := by
  obtain ⟨hl, h⟩ := h
  rcases h with ⟨rfl, rfl⟩ | ⟨g, cap, cur, rfl, _, hg, h1, h2, h3, h4⟩
  · obtain rfl : cs = [] := List.eq_nil_of_length_eq_zero (by simpa using hl)
    exact Rd.nil w
  · have hn : n = cs.length := by omega
    subst hn
    refine ⟨some ⟨g, 0, none⟩, cap, rfl, h1, h2, .inr ⟨g, 0, rfl, fun j v hj => ?_⟩, by simp⟩
    simp only [World.cell?, hg, Nat.zero_add]
    rw [← h4, List.getElem?_take] at hj
    split at hj
    · simpa using hj
    · cases hj

theorem bel_drewN {B : Nat} {w wr : World} (h : Below B w wr) (n : Nat) : Below B w (wr.drewN n) := h.trans ⟨rfl, rfl, rfl, Nat.le_refl _, fun _ _ => rfl⟩

/-- The cell of an index. -/
theorem CellsAt.cell {w : World} {a : Option Addr} {cs : List Value} (h : CellsAt w a cs) {j : Nat} (hj : j < cs.length) :
    ∃ b off, a = some ⟨b, off, none⟩ ∧ (∀ j v, cs[j]? = some v → w.cell? ⟨b, off + j, none⟩ = some v) := by
  rcases h with rfl | ⟨b, off, rfl, h⟩
  · simp at hj
  · exact ⟨b, off, rfl, h⟩

theorem cell_alloc {w : World} {a : Addr} {v : Value} (h : w.cell? a = some v) (o : Obj) : (w.alloc o).cell? a = some v :=
  ((Below.refl w.heap.size w).alloc (Nat.le_refl _) o).cell (World.block_lt_of_cell? w _ h) |>.trans h
theorem cell_below {w w' : World} {a : Addr} {v : Value} (h : w.cell? a = some v) (hb : Below w.heap.size w w') : w'.cell? a = some v :=
  (hb.cell (World.block_lt_of_cell? w _ h)).trans h

theorem add_none (b off lo : Nat) : (⟨b, off, none⟩ : Addr).add lo = ⟨b, off + lo, none⟩ := by unfold Addr.add; split <;> simp_all

theorem CellsAt.sub {w : World} {a : Option Addr} {cs : List Value} (h : CellsAt w a cs) (lo m : Nat) : CellsAt w (a.map fun x => x.add lo) ((cs.drop lo).take m) := by
  rcases h with rfl | ⟨b, off, rfl, h⟩
  · exact .inl (by simp)
  · refine .inr ⟨b, off + lo, by simp [add_none], fun j v hj => ?_⟩
    rw [List.getElem?_take] at hj
    split at hj
    · rw [List.getElem?_drop] at hj
      rw [Nat.add_assoc]
      exact h _ _ hj
    · cases hj

theorem CellsAt.pre {w : World} {a : Option Addr} {cs : List Value} (h : CellsAt w a cs) (m : Nat) : CellsAt w a (cs.take m) := by
  rcases h with rfl | ⟨b, off, rfl, h⟩
  · exact .inl (by simp)
  · refine .inr ⟨b, off, rfl, fun j v hj => ?_⟩
    rw [List.getElem?_take] at hj
    split at hj
    · exact h _ _ hj
    · cases hj

theorem grown_drewN (w : World) (n : Nat) (row : Option Nat) : w.grownBy (w.drewN n) row := ⟨rfl, rfl, rfl, Nat.le_refl _, fun _ _ _ => rfl⟩
theorem own_drewN {w : World} {B m : Nat} {e : TypeId} {size : Nat} {v : Value} {xs : List Value} (h : w.ownsRow B e size v m xs) (n : Nat) : (w.drewN n).ownsRow B e size v m xs :=
  h.kept (grown_drewN w n none) (by cases v.ownBlock <;> simp)
/-- What is owned stays owned while everything that was there stays. -/
theorem own_below {w w' : World} {B m : Nat} {e : TypeId} {size : Nat} {v : Value} {xs : List Value} (h : w.ownsRow B e size v m xs) (hb : Below w.heap.size w w') : w'.ownsRow B e size v m xs := by
  refine ⟨h.1, ?_⟩
  rcases h.2 with hn | ⟨g, cap, cur, hv, hg, hgg, rest⟩
  · exact .inl hn
  · exact .inr ⟨g, cap, cur, hv, hg, (hb.block g (Array.getElem?_eq_some_iff.1 hgg).1).trans hgg, rest⟩
theorem own_le {w : World} {B B' n : Nat} {e : TypeId} {size : Nat} {v : Value} {xs : List Value} (h : w.ownsRow B e size v n xs) (hb : B' ≤ B) : w.ownsRow B' e size v n xs := by
  refine ⟨h.1, ?_⟩
  rcases h.2 with hn | ⟨g, cap, cur, hv, hg, rest⟩
  · exact .inl hn
  · exact .inr ⟨g, cap, cur, hv, by omega, rest⟩

theorem own_form {w : World} {B n : Nat} {e : TypeId} {size : Nat} {v : Value} {xs : List Value} (h : w.ownsRow B e size v n xs) : ∃ a c, v = .slice a n c := by
  rcases h.2 with ⟨rfl, rfl⟩ | ⟨g, cap, cur, rfl, _⟩
  · exact ⟨none, 0, rfl⟩
  · exact ⟨_, _, rfl⟩
/-- A literal's row is owned. -/
theorem own_lit (w : World) (B : Nat) (e : TypeId) (cur : Array Value) (n : Nat) (hb : B ≤ w.heap.size) (hn : cur.size = n) (hm : n ≤ maxLen) :
    (w.alloc (.cells cur e)).ownsRow B e 1 (.slice (some ⟨w.heap.size, 0, none⟩) n n) n cur.toList := by
  refine ⟨by simp [hn], .inr ⟨w.heap.size, n, cur, rfl, hb, heap_alloc_new w _, Nat.le_refl _, hm, by simp [hn], ?_⟩⟩
  rw [Nat.mul_one, ← hn]; exact List.take_of_length_le (by simp)

/-- What the append laws ask of an element's type. -/
structure ElemOk (P : Program) (t e : TypeId) (z : Value) (bytes : Nat) : Prop where
  und : P.underlying t = some (.slice e)
  info : ∃ i, P.info? e = some i ∧ i.zero = some z ∧ i.size = 1 ∧ i.bytes = bytes
  zc : z.cells = #[z]
  small : bytes ≤ 96

section
variable {P : Program} {ops : Array Oper} {rest : List Oper} {o : Oper} {a : Act} {Q : Exit → Act → World → Prop}

/-- 'append(out, x)': the literal's block has just been laid. -/
theorem app1 {t e : TypeId} {z : Value} {bytes : Nat} (EO : ElemOk P t e z bytes) (hgd : o.guard = none) {s x : Operand}
    (ho : o.op = .call { callee := .builtin .append, args := #[s, x], argTypes := #[t, t] })
    {w0 W : World} {v : Value} {n : Nat} {xs : List Value} {u : Value} (hs : a.eval s = v) (hx : a.eval x = .slice (some ⟨W.heap.size, 0, none⟩) 1 1)
    (hbel : Below w0.heap.size w0 W) (hown : W.ownsRow w0.heap.size e 1 v n xs) (h1 : u.oneCell' = true) (hn : n ≤ 4000000)
    (h : ∀ v' w', w'.ownsRow w0.heap.size e 1 v' (n + 1) (xs ++ [u]) → Below w0.heap.size w0 w' → (W.alloc (.cells #[u] e)).grownBy w' v.ownBlock →
      wpList P ops Q rest (a.put o.dst v') w') : wpList P ops Q (o :: rest) a (W.alloc (.cells #[u] e)) := by
  obtain ⟨i, hi, hz, hsz, hby⟩ := EO.info
  have hsm := EO.small
  have hB := hbel.size
  refine wpList_append_own _ hgd s x t ho w0.heap.size e i z 1 bytes EO.und hi hz hsz hby (by rw [EO.zc]; rfl) (by decide) v n xs hs (hown.alloc _) ⟨W.heap.size, 0, none⟩ 1 1 [u] hx rfl ?_ (by simpa using h1) ?_ ?_ ?_ ?_
  · intro j u' hj
    match j, hj with
    | 0, hj => simp at hj; subst hj; simp [Addr.add]
  · unfold maxLen; omega
  · have : (n + 1) * bytes ≤ (n + 1) * 96 := Nat.mul_le_mul_left _ hsm
    omega
  · simp; omega
  · intro v' w' ho' hg _
    exact h v' w' ho' ((hbel.alloc hB _).grown hg (by simp; omega) (fun k e => (hown.lt k e).1)) hg

/-- 'append(xs, ys...)', xs the call's own, ys whatever reads so. -/
theorem appS {t e : TypeId} {z : Value} {bytes : Nat} (EO : ElemOk P t e z bytes) (hgd : o.guard = none) {s x : Operand}
    (ho : o.op = .call { callee := .builtin .append, args := #[s, x], argTypes := #[t, t] })
    {w0 W : World} {v y : Value} {n : Nat} {xs ys : List Value} (hs : a.eval s = v) (hx : a.eval x = y)
    (hbel : Below w0.heap.size w0 W) (hown : W.ownsRow w0.heap.size e 1 v n xs) (hy : Rd W y ys) (h1 : ∀ u ∈ ys, u.oneCell' = true) (hn : n + ys.length ≤ 4000000)
    (h : ∀ v' w', w'.ownsRow w0.heap.size e 1 v' (n + ys.length) (xs ++ ys) → Below w0.heap.size w0 w' → W.grownBy w' v.ownBlock →
      wpList P ops Q rest (a.put o.dst v') w') : wpList P ops Q (o :: rest) a W := by
  obtain ⟨i, hi, hz, hsz, hby⟩ := EO.info
  have hsm := EO.small
  have hB := hbel.size
  have hbytes : (n + ys.length) * bytes ≤ 140737488355328 := by
    have : (n + ys.length) * bytes ≤ (n + ys.length) * 96 := Nat.mul_le_mul_left _ hsm
    omega
  obtain ⟨ay, cap, rfl, hc, hm, hat, hcap⟩ := hy
  cases ay with
  | some ad =>
    refine wpList_append_own _ hgd s x t ho w0.heap.size e i z 1 bytes EO.und hi hz hsz hby (by rw [EO.zc]; rfl) (by decide) v n xs hs hown ad ys.length cap ys hx (by simp) ?_ h1 ?_ hbytes hB ?_
    · intro j u hj
      rcases hat with hat | ⟨b, off, hb, hat⟩
      · subst hat; simp at hj
      · obtain rfl := Option.some.inj hb
        have := hat j u hj
        rw [show (⟨b, off, none⟩ : Addr).add j = ⟨b, off + j, none⟩ from by unfold Addr.add; split <;> simp_all]
        exact this
    · unfold maxLen; omega
    · intro v' w' ho' hg _
      exact h v' w' ho' (hbel.grown hg hB (fun k e => (hown.lt k e).1)) hg
  | none =>
    have h0 : ys = [] := by
      rcases hat with hat | ⟨b, off, hb, _⟩
      · exact hat
      · cases hb
    subst h0
    obtain rfl := hcap rfl
    refine wpList_append_own_none hgd s x t ho w0.heap.size e i 1 EO.und hi v n xs hs hown hx (h v W ?_ hbel ?_)
    · simpa using hown
    · exact ⟨rfl, rfl, rfl, Nat.le_refl _, fun _ _ _ => rfl⟩
/-- 'make([]T, n)'. -/
theorem mkS {t e : TypeId} {z : Value} {bytes : Nat} (EO : ElemOk P t e z bytes) (hgd : o.guard = none) {l c : Operand} (ho : o.op = Op.makeSlice t l c)
    {W : World} {kl kc : IntKind} {L : Int} {n : Nat} (hl : a.eval l = .int kl L) (hc : a.eval c = .int kc L) (hL : L = (n : Int)) (hn : n ≤ 4000000)
    (h : ∀ w', w'.ownsRow W.heap.size e 1 (.slice (some ⟨W.heap.size, 0, none⟩) n n) n (List.replicate n z) → Below W.heap.size W w' →
      wpList P ops Q rest (a.put o.dst (.slice (some ⟨W.heap.size, 0, none⟩) n n)) w') : wpList P ops Q (o :: rest) a W := by
  obtain ⟨i, hi, hz, hsz, hby⟩ := EO.info
  have hsm := EO.small
  refine wpList_make_full W hgd l c t ho W.heap.size e i z 1 EO.und hi hz hsz kl kc L L n hl hc hL hL ?_ ?_ (Nat.le_refl _) ?_
  · have : i.bytes * n ≤ 96 * n := Nat.mul_le_mul_right _ (by omega)
    omega
  · unfold maxLen; omega
  · intro w' h1 h2
    refine h w' ?_ ((Below.refl _ _).grown h2 (Nat.le_refl _) (fun k e => by cases e))
    have e1 : (madeCells z.cells (n * 1)).toList = List.replicate n z := by
      rw [EO.zc, Nat.mul_one]
      unfold madeCells
      apply List.ext_getElem
      · simp
      · intro j h1 h2
        simp [Nat.mod_one]
    rwa [e1] at h1
theorem run_append_nil_zeros (w : World) (t tn ty e : TypeId) (i : TypeInfo) (z : Value) (ht : P.underlying t = some (.slice e)) (htn : P.underlying tn = some (.int .i64)) (hi : P.info? e = some i) (hz : i.zero = some z) (hsz : i.size = 1)
    (n : Nat) (h0 : 0 < n) (hn : n ≤ 4000000) (hb : i.bytes ≤ 96) :
    (Builtin.append_ #[t, tn] ty #[.slice none 0 0, .int .i64 (n : Int)]).run P w =
      .ok (.slice (some ⟨w.heap.size, 0, none⟩) n (grownCap w n 0 e)) (w.drew.alloc (.cells (Builtin.zeroCells z.cells n ++ Builtin.zeroCells z.cells (grownCap w n 0 e - n)) e)) := by
  have hwr : IntKind.i64.wrap (n : Int) = n := IntWalk.i64_in _ ⟨by omega, by omega⟩
  have hn0 : n ≠ 0 := by omega
  have hle : n * i.bytes ≤ 4000000 * 96 := Nat.mul_le_mul hn hb
  have h63' : ¬ (9223372036854775807 < (n : Int)) := by omega
  have hbz : ¬ ((281474976710656 : Int) < (n : Int) * (i.bytes : Int)) := by
    have : ((n * i.bytes : Nat) : Int) ≤ 4000000 * 96 := by omega
    rw [Int.natCast_mul] at this
    omega
  have h48' : ¬ (281474976710656 < Builtin.nextslicecap n 0 * i.bytes) := by rw [nextslicecap_zero h0]; omega
  have hneg : ¬ ((n : Int) < 0) := by omega
  simp [Builtin.append_, run_underlying ht, run_underlying htn, sizeOf, typeInfo, zeroValue, hi, hz, hsz, asInt, asIntOf, hwr, hn0, h63', hbz, h48', hneg, Question.forced, run_firstCells_none, newRow, grownCap]

/-- A prefix of what is owned is owned. -/
theorem own_pre {w : World} {B n g cap : Nat} {e : TypeId} {xs : List Value} (h : w.ownsRow B e 1 (.slice (some ⟨g, 0, none⟩) n cap) n xs) (m : Nat) (hm : m ≤ n) :
    w.ownsRow B e 1 (.slice (some ⟨g, 0, none⟩) m cap) m (xs.take m) := by
  obtain ⟨hl, h⟩ := h
  refine ⟨by rw [List.length_take, hl]; omega, ?_⟩
  rcases h with ⟨h, _⟩ | ⟨g', cap', cur, hv, hg, hh, h1, h2, h3, h4⟩
  · cases h
  · simp only [Value.slice.injEq, Option.some.injEq, Addr.mk.injEq, and_true, true_and] at hv
    obtain ⟨rfl, rfl⟩ := hv
    refine .inr ⟨g, cap, cur, rfl, hg, hh, by omega, h2, h3, ?_⟩
    rw [← h4, List.take_take]
    congr 1
    omega

/-- 'append(nil, make([]T, n)...)'. -/
theorem app0 {t tn e : TypeId} {z : Value} {bytes : Nat} (EO : ElemOk P t e z bytes) (htn : P.underlying tn = some (.int .i64)) (hgd : o.guard = none) {s x : Operand}
    (ho : o.op = .call { callee := .builtin .append, args := #[s, x], argTypes := #[t, tn] })
    {W : World} {n : Nat} (hs : a.eval s = .slice none 0 0) (hx : a.eval x = .int .i64 (n : Int)) (h0 : 0 < n) (hn : n ≤ 4000000)
    (h : ∀ cap w', n ≤ cap → w'.ownsRow W.heap.size e 1 (.slice (some ⟨W.heap.size, 0, none⟩) n cap) n (List.replicate n z) → Below W.heap.size W w' →
      wpList P ops Q rest (a.put o.dst (.slice (some ⟨W.heap.size, 0, none⟩) n cap)) w') : wpList P ops Q (o :: rest) a W := by
  obtain ⟨i, hi, hz, hsz, hby⟩ := EO.info
  have hsm := EO.small
  have hge := grownCap_ge W n 0 e
  have hcm := grownCap_le_maxLen W n 0 e (by unfold maxLen; omega)
  refine wpList_plain hgd fun K hK => ?_
  have hrun := run_append_nil_zeros W t tn o.type e i z EO.und htn hi hz hsz n h0 hn (by omega)
  unfold Oper.wp execOp
  simp only [ho, resolve, invoke, builtin, Sem.run_bind, Sem.run_pure, Result.andThen_ok, List.map_toArray, List.map_cons, List.map_nil, hs, hx, hrun]
  refine hK _ _ (h (grownCap W n 0 e) _ hge ?_ ?_)
  · have hz1 : (Builtin.zeroCells z.cells n).toList = List.replicate n z := by
      rw [EO.zc]
      apply List.ext_getElem
      · simp [Builtin.zeroCells]
      · intro j h1 h2
        simp [Builtin.zeroCells, Nat.mod_one]
    have hl1 : (Builtin.zeroCells z.cells n).size = n := by simp [Builtin.zeroCells, EO.zc]
    refine ⟨by simp, .inr ⟨W.heap.size, _, _, rfl, Nat.le_refl _, heap_alloc_new W.drew _, hge, hcm, ?_, ?_⟩⟩
    · simp [Builtin.zeroCells, EO.zc]; omega
    · rw [Nat.mul_one, Array.toList_append, hz1]
      exact List.take_left' (by simp)
  · exact ((Below.refl _ _).drew).alloc (Nat.le_refl _) _
end

end Go.Proofs.Ytpakkjkjppibnaa

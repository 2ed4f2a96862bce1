/- Benes: a table of switches that a call makes (map[int]bool): made, stored into, asked, gone over. -/
import Derived.Test.YtelnlmhelkcliaaBWay
import Derived.Maps.OwnSet
import Derived.Maps.RangeWalk
import Derived.Sort.MapsRangeIn
namespace Go.Proofs.Ytelnlmhelkcliaa
open Go.RowKit Go.Maps Go.ChangeMaps Go.MapKept

def litI (j : Nat) : Lit := .int .i64 j
theorem litI_wf {j : Nat} (h : j < 1000000) : (Lit.int .i64 (j : Int)).wf = true := by simp [Lit.wf, IntKind.min, IntKind.max, IntKind.signed, IntKind.bits]; omega
theorem litI_inj {i j : Nat} (h : litI i = litI j) : i = j := by
  unfold litI at h
  injection h with _ h
  exact_mod_cast h
theorem int_key : Keyed Try.prog 3 := Maps.int_keyed Try.underlying3
theorem litI_key {j : Nat} (h : j < 1000000) : keyOf Try.prog 3 (.int .i64 (j : Int)) = some (litI j) := Maps.keyOf_int_mk Try.underlying3 (litI_wf h)
theorem litI_same {i j : Nat} (h : j < 1000000) : (litI i).sameKey (litI j) = decide (i = j) := by
  have hk := int_key.key (litI_key h)
  rw [Bool.eq_iff_iff, WideAt.sameKey_iff hk]
  simp
  exact ⟨litI_inj, fun e => by rw [e]⟩
theorem plainElem_bool_inv {P : Program} {e : TypeId} (he : P.underlying e = some .bool) {v : Value} {z : DataW Unit × List MemPlace} (h : plainElem P e v = some z) : ∃ b, v = .bool b ∧ z = (.lit (.bool b), []) := by
  unfold plainElem at h
  rw [he] at h
  cases v <;> simp at h
  exact ⟨_, rfl, h.symm⟩
theorem zero_bool (w : World) : (zeroValue 4).run Try.prog w = .ok (.bool false) w := by kernel_rfl
theorem freeN_none : ∀ N, freeN (fun _ => none) N = N
  | 0 => rfl
  | N + 1 => by unfold freeN; rw [freeN_none N]; simp
theorem freeN_updSet {F : Nat → Option Bool} {j : Nat} (hj : (F j).isSome = true) (b : Bool) : ∀ m, freeN (upd F j b) m = freeN F m
  | 0 => rfl
  | m + 1 => by
    unfold freeN
    rw [freeN_updSet hj b m]
    by_cases e : m = j
    · subst e
      have : (upd F m b m).isSome = true := by unfold upd; rw [if_pos rfl]; rfl
      rw [if_pos this, if_pos hj]
    · have : upd F j b m = F m := by unfold upd; rw [if_neg e]
      rw [this]

/-- what the map's datum says -/
structure Dat (D : DataW Unit) (N : Nat) (F : Nat → Option Bool) : Prop where
  n : N ≤ 1000
  dom : ∀ j, (F j).isSome = true → j < N
  has : ∀ kl, Maps.has D kl = true ↔ ∃ j, kl = litI j ∧ (F j).isSome = true
  val : ∀ j : Nat, D.atKey (litI j) (.lit (.bool false)) = .lit (.bool ((F j).getD false))
  size : Maps.size D + freeN F N = N
/-- block b is a table that says just what F says -/
def MB (w : World) (b N : Nat) (F : Nat → Option Bool) : Prop := ∃ D : DataW Unit, w.ownsMap Try.prog 3 (plainElem Try.prog 4) b (Maps.size D) D ∧ Dat D N F
theorem MB.made (w : World) {N : Nat} (hN : N ≤ 1000) : MB (w.alloc (.map #[] 0)) w.heap.size N (fun _ => none) :=
  ⟨.map [], World.ownsMap_made w _ _ _, ⟨hN, fun j h => (by cases h), fun kl => ⟨fun h => (by simp [Maps.has_eq] at h), fun ⟨j, _, h⟩ => (by cases h)⟩, fun j => rfl, by rw [freeN_none]; exact Nat.zero_add N⟩⟩
theorem MB.kept {w w' : World} {b N : Nat} {F : Nat → Option Bool} (h : MB w b N F) {row : Option Nat} (hg : w.grownBy w' row) (hne : some b ≠ row) : MB w' b N F := by
  obtain ⟨D, h1, h2⟩ := h
  exact ⟨D, h1.kept hg hne, h2⟩
theorem MB.lt {w : World} {b N : Nat} {F : Nat → Option Bool} (h : MB w b N F) : b < w.heap.size := by
  obtain ⟨D, h1, h2⟩ := h
  exact h1.lt
theorem MB.below {w w' : World} {b N : Nat} {F : Nat → Option Bool} (h : MB w b N F) (hb : Below w.heap.size w w') : MB w' b N F := by
  obtain ⟨D, ⟨es, clock, e1, e2⟩, h2⟩ := h
  exact ⟨D, ⟨es, clock, (hb.block b (Array.getElem?_eq_some_iff.1 e1).1).trans e1, e2⟩, h2⟩
theorem ownsMap_resize {w : World} {b n : Nat} {D : DataW Unit} {k : TypeId} {R : Value → Option (DataW Unit × List MemPlace)} (h : w.ownsMap Try.prog k R b n D) : w.ownsMap Try.prog k R b (Maps.size D) D := by
  obtain ⟨es, clock, hb, F, hs, rfl⟩ := h
  exact ⟨es, clock, hb, F, by simp [Maps.size, length_sorted], rfl⟩
theorem MB.store {w : World} {b N : Nat} {F : Nat → Option Bool} (h : MB w b N F) {j : Nat} (hj : j < N) (v : Bool) :
    ∃ w', (Instr.mapUpdate 99 (.map (some b)) (.int .i64 (j : Int)) (.bool v)).run Try.prog w = .ok () w' ∧ MB w' b N (upd F j v) ∧ w.grownBy w' (some b) := by
  obtain ⟨D, h1, hD⟩ := h
  have hs := hD.size
  have hn := hD.n
  have ht := h1.tidy int_key
  have hk := litI_key (j := j) (by omega)
  have hkey := int_key.key hk
  obtain ⟨w', hrun, r1, r2⟩ := h1.update int_key Try.underlying99 (by unfold maxLen; omega) hk (plainElem_bool Try.underlying4 v)
  refine ⟨w', hrun, ⟨_, ownsMap_resize r1, hn, fun i hi => ?_, fun kl => ?_, fun i => ?_, ?_⟩, r2⟩
  · unfold upd at hi
    split at hi
    · omega
    · exact hD.dom i hi
  · by_cases e : kl = litI j
    · subst e
      rw [Maps.has_put_same ht.isMap hkey]
      refine ⟨fun _ => ⟨j, rfl, by unfold upd; rw [if_pos rfl]; rfl⟩, fun _ => rfl⟩
    · rw [Maps.has_put_other e, hD.has]
      constructor
      · rintro ⟨i, rfl, hi⟩
        refine ⟨i, rfl, ?_⟩
        unfold upd
        split
        · rfl
        · exact hi
      · rintro ⟨i, rfl, hi⟩
        refine ⟨i, rfl, ?_⟩
        unfold upd at hi
        rw [if_neg (fun e' => e (by rw [e']))] at hi
        exact hi
  · by_cases e : i = j
    · subst e
      rw [Maps.atKey_put_same ht.isMap hkey]
      unfold upd; rw [if_pos rfl]; rfl
    · rw [Maps.atKey_put_other (fun e' => e (litI_inj e')), hD.val]
      unfold upd; rw [if_neg e]
  · rw [Maps.size_put ht]
    by_cases hm : (F j).isSome = true
    · rw [if_pos ((hD.has _).2 ⟨j, rfl, hm⟩), freeN_updSet hm]; exact hs
    · have hno : ¬ Maps.has D (litI j) = true := fun hh => by
        obtain ⟨i, e, hi⟩ := (hD.has _).1 hh
        rw [litI_inj e] at hm
        exact hm hi
      have := freeN_upd hm v N
      rw [if_pos hj] at this
      rw [if_neg hno]; omega
theorem MB.ok {w : World} {b N : Nat} {F : Nat → Option Bool} (h : MB w b N F) {j : Nat} (hj : j < 1000000) :
    (Instr.lookup 99 (.map (some b)) (.int .i64 (j : Int)) true).run Try.prog w = .ok (.tuple #[.bool ((F j).getD false), .bool (F j).isSome]) w := by
  obtain ⟨D, h1, hD⟩ := h
  obtain ⟨v, ps, hrun, hv⟩ := h1.look_ok int_key Try.underlying99 (zero_bool w) (plainElem_bool Try.underlying4 false) (litI_key hj)
  obtain ⟨x, rfl, hx⟩ := plainElem_bool_inv Try.underlying4 hv
  rw [hD.val] at hx
  simp only [Prod.mk.injEq, DataW.lit.injEq, Lit.bool.injEq] at hx
  have hh : Maps.has D (litI j) = (F j).isSome := by
    rw [Bool.eq_iff_iff, hD.has]
    exact ⟨fun ⟨i, e, hi⟩ => by rw [litI_inj e]; exact hi, fun hi => ⟨j, rfl, hi⟩⟩
  rw [hrun, hh, hx.1]
theorem MB.get {w : World} {b N : Nat} {F : Nat → Option Bool} (h : MB w b N F) {j : Nat} (hj : j < 1000000) :
    (Instr.lookup 99 (.map (some b)) (.int .i64 (j : Int)) false).run Try.prog w = .ok (.bool ((F j).getD false)) w := by
  obtain ⟨D, h1, hD⟩ := h
  obtain ⟨v, ps, hrun, hv⟩ := h1.lookup int_key Try.underlying99 (zero_bool w) (plainElem_bool Try.underlying4 false) (litI_key hj)
  obtain ⟨x, rfl, hx⟩ := plainElem_bool_inv Try.underlying4 hv
  rw [hD.val] at hx
  simp only [Prod.mk.injEq, DataW.lit.injEq, Lit.bool.injEq] at hx
  rw [hrun, hx.1]

/-- a loop over the table under way: left has not come yet -/
def RG (w : World) (b r N : Nat) (F : Nat → Option Bool) (left : Nat → Bool) : Prop :=
  ∃ (D : DataW Unit) (L : Lit → Bool) (cnt : Nat), w.ranges Try.prog 3 (plainElem Try.prog 4) b r (Maps.size D) D L cnt ∧ Dat D N F ∧ ∀ kl, L kl = true ↔ ∃ j, kl = litI j ∧ left j = true
theorem RG.mb {w : World} {b r N : Nat} {F : Nat → Option Bool} {left : Nat → Bool} (h : RG w b r N F left) : MB w b N F := by
  obtain ⟨D, L, cnt, h1, h2, _⟩ := h
  exact ⟨D, h1.owns, h2⟩
theorem RG.lt {w : World} {b r N : Nat} {F : Nat → Option Bool} {left : Nat → Bool} (h : RG w b r N F left) : r < w.heap.size := by
  obtain ⟨D, L, cnt, h1, h2, _⟩ := h
  exact h1.lt
theorem RG.nocell {w : World} {b r N : Nat} {F : Nat → Option Bool} {left : Nat → Bool} (h : RG w b r N F left) {a : Addr} {v : Value} (hc : w.cell? a = some v) : a.block ≠ r := by
  obtain ⟨D, L, cnt, ⟨es, clock, since, seen, c0, _, _, _, _, hr, _⟩, _, _⟩ := h
  intro e
  unfold World.cell? at hc
  rw [e, hr] at hc
  simp at hc
theorem RG.kept {w w' : World} {b r N : Nat} {F : Nat → Option Bool} {left : Nat → Bool} (h : RG w b r N F left) {row : Option Nat} (hg : w.grownBy w' row) (hb : some b ≠ row) (hr : some r ≠ row) : RG w' b r N F left ∧ w'.rangeLeft b r = w.rangeLeft b r := by
  obtain ⟨D, L, cnt, h1, h2, h3⟩ := h
  have h4 := h1.kept hg hb hr
  exact ⟨⟨D, L, cnt, h4, h2, h3⟩, by rw [h4.left_eq, h1.left_eq]⟩
theorem RG.below {w w' : World} {b r N : Nat} {F : Nat → Option Bool} {left : Nat → Bool} (h : RG w b r N F left) (hb : Below w.heap.size w w') : RG w' b r N F left ∧ w'.rangeLeft b r = w.rangeLeft b r :=
  h.kept (row := none) ⟨hb.os, hb.tape, hb.output, hb.size, fun i hi _ => hb.block i hi⟩ (by simp) (by simp)
theorem RG.start {w : World} {b N : Nat} {F : Nat → Option Bool} (h : MB w b N F) :
    ∃ w', (Instr.range 99 (.map (some b))).run Try.prog w = .ok (.pointer (some ⟨w.heap.size, 0, none⟩)) w' ∧ RG w' b w.heap.size N F (fun j => (F j).isSome) ∧ w.grownBy w' none ∧ w'.heap.size = w.heap.size + 1 := by
  obtain ⟨D, h1, hD⟩ := h
  obtain ⟨w', h2, h3, h4, h5⟩ := h1.range int_key Try.underlying99
  exact ⟨w', h2, ⟨D, _, _, h3, hD, hD.has⟩, h4, h5⟩
theorem RG.next {w : World} {b r N : Nat} {F : Nat → Option Bool} {left : Nat → Bool} (h : RG w b r N F left) (ty : TypeId) :
    ((∀ j, left j = false) ∧ (Instr.next (.pointer (some ⟨r, 0, none⟩)) false ty).run Try.prog w = .ok (.tuple #[.bool false]) w) ∨
    ∃ (j : Nat) (v : Bool) (w' : World), left j = true ∧ F j = some v ∧ j < N ∧ (Instr.next (.pointer (some ⟨r, 0, none⟩)) false ty).run Try.prog w = .ok (.tuple #[.bool true, .int .i64 (j : Int), .bool v]) w' ∧
      RG w' b r N F (fun i => left i && decide (i ≠ j)) ∧ w'.rangeLeft b r < w.rangeLeft b r ∧ w.grownBy w' (some r) ∧ w'.heap.size = w.heap.size ∧ (Instr.entry (.pointer (some ⟨r, 0, none⟩))).run Try.prog w' = .ok (.tuple #[.int .i64 (j : Int), .bool v]) w' := by
  obtain ⟨D, L, cnt, h1, hD, hL⟩ := h
  rcases h1.next int_key ty with ⟨h0, hl, hrun⟩ | ⟨key, v, kl, y, w', cnt', hkey, hlk, hv, hat, hrun, hrg, hlt, hgr, hsz, hen⟩
  · refine .inl ⟨fun j => ?_, hrun⟩
    cases hj : left j with
    | false => rfl
    | true =>
      have := (hL (litI j)).2 ⟨j, rfl, hj⟩
      rw [hl] at this
      cases this
  · right
    obtain ⟨j, rfl, hj⟩ := (hL kl).1 hlk
    obtain ⟨x, rfl, ex, _⟩ := Maps.keyOf_int_inv Try.underlying3 hkey
    obtain ⟨b0, rfl, hy⟩ := plainElem_bool_inv Try.underlying4 hv
    have hxj : x = (j : Int) := (Lit.int.inj ex).2.symm
    subst hxj
    have hh := Maps.has_true_of_atKey hat
    obtain ⟨i, e, hi⟩ := (hD.has _).1 hh
    obtain rfl := litI_inj e
    have hjN := hD.dom j hi
    have hn := hD.n
    have hval := hat (.lit (.bool false))
    rw [hD.val, hy] at hval
    simp only [DataW.lit.injEq, Lit.bool.injEq] at hval
    obtain ⟨v0, hv0⟩ := Option.isSome_iff_exists.1 hi
    rw [hv0] at hval
    simp only [Option.getD_some] at hval
    subst hval
    refine ⟨j, v0, w', hj, hv0, hjN, hrun, ⟨D, _, cnt', hrg, hD, fun z => ?_⟩, by rw [hrg.left_eq, h1.left_eq]; exact hlt, hgr, hsz, hen⟩
    constructor
    · intro hz
      have hz1 := Bool.and_eq_true_iff.1 hz
      obtain ⟨i, rfl, h5⟩ := (hL z).1 hz1.1
      have h6 := hz1.2
      rw [litI_same (by omega)] at h6
      refine ⟨i, rfl, Bool.and_eq_true_iff.2 ⟨h5, ?_⟩⟩
      by_cases e : i = j
      · rw [decide_eq_true e] at h6; cases h6
      · exact decide_eq_true e
    · rintro ⟨i, rfl, h56⟩
      obtain ⟨h5, h6⟩ := Bool.and_eq_true_iff.1 h56
      refine Bool.and_eq_true_iff.2 ⟨(hL _).2 ⟨i, rfl, h5⟩, ?_⟩
      rw [litI_same (by omega), decide_eq_false (of_decide_eq_true h6)]; rfl

section
variable (w : World) {ops : Array Oper} {rest : List Oper} {o : Oper} {a : Act} {Q : Exit → Act → World → Prop}
theorem wp_mb_store (hg : o.guard = none) (m x v : Operand) (hop : o.op = Op.mapUpdate 99 m x v) (b N : Nat) (F : Nat → Option Bool) (j : Nat) (t : Bool) (hm : a.eval m = .map (some b)) (h : MB w b N F) (hj : j < N) (hx : a.eval x = .int .i64 (j : Int)) (hv : a.eval v = .bool t)
    (hK : ∀ w', MB w' b N (upd F j t) → w.grownBy w' (some b) → wpList Try.prog ops Q rest (a.put o.dst undef) w') : wpList Try.prog ops Q (o :: rest) a w := by
  refine wpList_plain hg fun K' hK' => ?_
  obtain ⟨w', hrun, r1, r2⟩ := h.store hj t
  unfold Oper.wp
  simp [execOp, hop, hm, hx, hv, hrun, Result.andThen]
  exact hK' _ _ (hK w' r1 r2)
theorem wp_mb_ok (hg : o.guard = none) (m x : Operand) (hop : o.op = Op.lookup 99 m x true) (b N : Nat) (F : Nat → Option Bool) (j : Nat) (hm : a.eval m = .map (some b)) (h : MB w b N F) (hj : j < 1000000) (hx : a.eval x = .int .i64 (j : Int))
    (hK : wpList Try.prog ops Q rest (a.put o.dst (.tuple #[.bool ((F j).getD false), .bool (F j).isSome])) w) : wpList Try.prog ops Q (o :: rest) a w := by
  refine wpList_plain hg fun K' hK' => ?_
  unfold Oper.wp
  simp [execOp, hop, hm, hx, h.ok hj, Result.andThen]
  exact hK' _ _ hK
theorem wp_mb_get (hg : o.guard = none) (m x : Operand) (hop : o.op = Op.lookup 99 m x false) (b N : Nat) (F : Nat → Option Bool) (j : Nat) (hm : a.eval m = .map (some b)) (h : MB w b N F) (hj : j < 1000000) (hx : a.eval x = .int .i64 (j : Int))
    (hK : wpList Try.prog ops Q rest (a.put o.dst (.bool ((F j).getD false))) w) : wpList Try.prog ops Q (o :: rest) a w := by
  refine wpList_plain hg fun K' hK' => ?_
  unfold Oper.wp
  simp [execOp, hop, hm, hx, h.get hj, Result.andThen]
  exact hK' _ _ hK
theorem wp_mb_range (hg : o.guard = none) (m : Operand) (hop : o.op = Op.range 99 m) (b N : Nat) (F : Nat → Option Bool) (hm : a.eval m = .map (some b)) (h : MB w b N F)
    (hK : ∀ w', RG w' b w.heap.size N F (fun j => (F j).isSome) → w.grownBy w' none → w'.heap.size = w.heap.size + 1 → wpList Try.prog ops Q rest (a.put o.dst (.pointer (some ⟨w.heap.size, 0, none⟩))) w') : wpList Try.prog ops Q (o :: rest) a w := by
  refine wpList_plain hg fun K' hK' => ?_
  obtain ⟨w', hrun, r1, r2, r3⟩ := RG.start h
  unfold Oper.wp
  simp [execOp, hop, hm, hrun, Result.andThen]
  exact hK' _ _ (hK w' r1 r2 r3)
theorem wp_mb_next (hg : o.guard = none) (it : Operand) (hop : o.op = Op.next it false) (b r N : Nat) (F : Nat → Option Bool) (left : Nat → Bool) (hit : a.eval it = .pointer (some ⟨r, 0, none⟩)) (h : RG w b r N F left)
    (hDone : (∀ j, left j = false) → wpList Try.prog ops Q rest (a.put o.dst (.tuple #[.bool false])) w)
    (hMore : ∀ (j : Nat) (v : Bool) (w' : World), left j = true → F j = some v → j < N → RG w' b r N F (fun i => left i && decide (i ≠ j)) → w'.rangeLeft b r < w.rangeLeft b r → w.grownBy w' (some r) → w'.heap.size = w.heap.size →
      (Instr.entry (.pointer (some ⟨r, 0, none⟩))).run Try.prog w' = .ok (.tuple #[.int .i64 (j : Int), .bool v]) w' → wpList Try.prog ops Q rest (a.put o.dst (.tuple #[.bool true, .int .i64 (j : Int), .bool v])) w') :
    wpList Try.prog ops Q (o :: rest) a w := by
  refine wpList_plain hg fun K' hK' => ?_
  unfold Oper.wp
  rcases h.next o.type with ⟨hl, hrun⟩ | ⟨j, v, w', h1, h2, h3, hrun, h4, h5, h6, h7, h8⟩
  · simp [execOp, hop, hit, hrun, Result.andThen]
    exact hK' _ _ (hDone hl)
  · simp [execOp, hop, hit, hrun, Result.andThen]
    exact hK' _ _ (hMore j v w' h1 h2 h3 h4 h5 h6 h7 h8)
theorem wp_mb_nextC (hg : o.guard = none) (it : Operand) (hop : o.op = Op.next it false) (b r N : Nat) (F : Nat → Option Bool) (left : Nat → Bool) (A : Addr) (u : Value) (hA : w.cell? A = some u) (hit : a.eval it = .pointer (some ⟨r, 0, none⟩)) (h : RG w b r N F left)
    (hDone : (∀ j, left j = false) → wpList Try.prog ops Q rest (a.put o.dst (.tuple #[.bool false])) w)
    (hMore : ∀ (j : Nat) (v : Bool) (w' : World), left j = true → F j = some v → j < N → RG w' b r N F (fun i => left i && decide (i ≠ j)) → w'.rangeLeft b r < w.rangeLeft b r → w.grownBy w' (some r) → w'.heap.size = w.heap.size →
      (Instr.entry (.pointer (some ⟨r, 0, none⟩))).run Try.prog w' = .ok (.tuple #[.int .i64 (j : Int), .bool v]) w' → w'.cell? A = some u → wpList Try.prog ops Q rest (a.put o.dst (.tuple #[.bool true, .int .i64 (j : Int), .bool v])) w') :
    wpList Try.prog ops Q (o :: rest) a w :=
  wp_mb_next w hg it hop b r N F left hit h hDone (fun j v w' h1 h2 h3 h4 h5 h6 h7 h8 => hMore j v w' h1 h2 h3 h4 h5 h6 h7 h8 (by
    have hne := h.nocell hA
    exact (World.cell?_of_block (h6.block _ (World.block_lt_of_cell? _ _ hA) (fun e => hne (Option.some.inj e)))).trans hA))
end
section
variable {Fc : Fence} {n : Nat} (w : World) {ops : Array Oper} {rest : List Oper} {o : Oper} {a : Act} {Q : Exit → Act → World → Prop}
theorem wpi_mb_range (hg : o.guard = none) (m : Operand) (hop : o.op = Op.range 99 m) (b N : Nat) (F : Nat → Option Bool) (hm : a.eval m = .map (some b)) (h : MB w b N F)
    (hK : ∀ w', RG w' b w.heap.size N F (fun j => (F j).isSome) → w.grownBy w' none → w'.heap.size = w.heap.size + 1 → wpListIn Fc n Try.prog ops Q rest (a.put o.dst (.pointer (some ⟨w.heap.size, 0, none⟩))) w') : wpListIn Fc n Try.prog ops Q (o :: rest) a w := by
  refine wpListIn_plain hg fun K' hK' => ?_
  obtain ⟨w', hrun, r1, r2, r3⟩ := RG.start h
  unfold Oper.wpIn
  refine ⟨by simp [Oper.about, hop], ?_⟩
  rw [Oper.semAt_plain Fc _ _ (by rw [hop]; intro c hc'; cases hc')]
  simp [execOp, hop, hm, hrun, Result.andThen]
  exact hK' _ _ (hK w' r1 r2 r3)
theorem wpi_mb_next (hg : o.guard = none) (it : Operand) (hop : o.op = Op.next it false) (b r N : Nat) (F : Nat → Option Bool) (left : Nat → Bool) (hit : a.eval it = .pointer (some ⟨r, 0, none⟩)) (h : RG w b r N F left)
    (hDone : (∀ j, left j = false) → wpListIn Fc n Try.prog ops Q rest (a.put o.dst (.tuple #[.bool false])) w)
    (hMore : ∀ (j : Nat) (v : Bool) (w' : World), left j = true → F j = some v → j < N → RG w' b r N F (fun i => left i && decide (i ≠ j)) → w'.rangeLeft b r < w.rangeLeft b r → w.grownBy w' (some r) → w'.heap.size = w.heap.size →
      (Instr.entry (.pointer (some ⟨r, 0, none⟩))).run Try.prog w' = .ok (.tuple #[.int .i64 (j : Int), .bool v]) w' → wpListIn Fc n Try.prog ops Q rest (a.put o.dst (.tuple #[.bool true, .int .i64 (j : Int), .bool v])) w') :
    wpListIn Fc n Try.prog ops Q (o :: rest) a w := by
  refine wpListIn_plain hg fun K' hK' => ?_
  unfold Oper.wpIn
  refine ⟨by simp [Oper.about, hop], ?_⟩
  rw [Oper.semAt_plain Fc _ _ (by rw [hop]; intro c hc'; cases hc')]
  rcases h.next o.type with ⟨hl, hrun⟩ | ⟨j, v, w', h1, h2, h3, hrun, h4, h5, h6, h7, h8⟩
  · simp [execOp, hop, hit, hrun, Result.andThen]
    exact hK' _ _ (hDone hl)
  · simp [execOp, hop, hit, hrun, Result.andThen]
    exact hK' _ _ (hMore j v w' h1 h2 h3 h4 h5 h6 h7 h8)
theorem wpi_mb_nextC (hg : o.guard = none) (it : Operand) (hop : o.op = Op.next it false) (b r N : Nat) (F : Nat → Option Bool) (left : Nat → Bool) (A : Addr) (u : Value) (hA : w.cell? A = some u) (hit : a.eval it = .pointer (some ⟨r, 0, none⟩)) (h : RG w b r N F left)
    (hDone : (∀ j, left j = false) → wpListIn Fc n Try.prog ops Q rest (a.put o.dst (.tuple #[.bool false])) w)
    (hMore : ∀ (j : Nat) (v : Bool) (w' : World), left j = true → F j = some v → j < N → RG w' b r N F (fun i => left i && decide (i ≠ j)) → w'.rangeLeft b r < w.rangeLeft b r → w.grownBy w' (some r) → w'.heap.size = w.heap.size →
      (Instr.entry (.pointer (some ⟨r, 0, none⟩))).run Try.prog w' = .ok (.tuple #[.int .i64 (j : Int), .bool v]) w' → w'.cell? A = some u → wpListIn Fc n Try.prog ops Q rest (a.put o.dst (.tuple #[.bool true, .int .i64 (j : Int), .bool v])) w') :
    wpListIn Fc n Try.prog ops Q (o :: rest) a w :=
  wpi_mb_next w hg it hop b r N F left hit h hDone (fun j v w' h1 h2 h3 h4 h5 h6 h7 h8 => hMore j v w' h1 h2 h3 h4 h5 h6 h7 h8 (by
    have hne := h.nocell hA
    exact (World.cell?_of_block (h6.block _ (World.block_lt_of_cell? _ _ hA) (fun e => hne (Option.some.inj e)))).trans hA))
end
end Go.Proofs.Ytelnlmhelkcliaa

/- Layout: a set of cells that a call makes (map[api.XY]bool, each value true): made, stored into, asked, counted. -/
import Derived.Test.YtpakkjkjppibnaaGRoutes
import Derived.Maps.OwnSet
import Derived.DeepKeys4
namespace Go.Proofs.Ytpakkjkjppibnaa
open Go.RowKit Go.Maps Go.ChangeMaps Go.MapKept

def litXY (c : Int × Int) : Lit := .string (keyBytes [.int .i64 c.1, .int .i64 c.2])
def WfC (c : Int × Int) : Prop := (Lit.int .i64 c.1).wf = true ∧ (Lit.int .i64 c.2).wf = true
theorem xy_keyed : Keyed Try.prog 26 :=
  Keyed.of_law (deep_law_laid (P := Try.prog) (by kernel_rfl) (m := Try.prog.types.size + 1) (by decide +kernel) (of_decide_eq_true (by kernel_rfl)) (by kernel_rfl) (by kernel_rfl))
theorem xy_key {c : Int × Int} (h : WfC c) : keyOf Try.prog 26 (.agg #[.int .i64 c.1, .int .i64 c.2]) = some (litXY c) := by
  obtain ⟨h1, h2⟩ := h
  have hu := Try.underlying26
  have hi := Try.underlying3
  have hk : Try.prog.keyType 26 = true := by kernel_rfl
  have hc : Try.prog.cellsOf 26 = 2 := by kernel_rfl
  have hc1 : Try.prog.cellsOf 3 = 1 := by kernel_rfl
  obtain ⟨d, hd⟩ : ∃ d, Try.prog.types.size = d + 1 := ⟨Try.prog.types.size - 1, by
    have : 0 < Try.prog.types.size := of_decide_eq_true (by kernel_rfl)
    omega⟩
  unfold keyOf
  rw [hu]
  dsimp only
  rw [hk, hd]
  simp [Value.formed, hu, hc, Value.cells, Program.keyLits, hi, hc1, h1, h2, litXY]
theorem litXY_inj {c d : Int × Int} (hc : WfC c) (hd : WfC d) (h : litXY c = litXY d) : c = d := by
  have := xy_keyed.inj (xy_key hc) (by rw [h]; exact xy_key hd)
  simp at this
  exact Prod.ext this.1 this.2
theorem litXY_key {c : Int × Int} (hc : WfC c) : WideAt.IsKeyLit (litXY c) := xy_keyed.key (xy_key hc)
theorem plainElem_bool_inv {P : Program} {e : TypeId} (he : P.underlying e = some .bool) {v : Value} {z : DataW Unit × List MemPlace} (h : plainElem P e v = some z) : ∃ b, v = .bool b ∧ z = (.lit (.bool b), []) := by
  unfold plainElem at h
  rw [he] at h
  cases v <;> simp at h
  exact ⟨_, rfl, h.symm⟩
theorem zero_bool (w : World) : (zeroValue 4).run Try.prog w = .ok (.bool false) w := by kernel_rfl

/-- block b is a map that holds just the cells of l, each with the value true -/
def MSet (w : World) (b n : Nat) (l : List (Int × Int)) : Prop :=
  (∀ c ∈ l, WfC c) ∧ ∃ D : DataW Unit, w.ownsMap Try.prog 26 (plainElem Try.prog 4) b n D ∧
    (∀ c, WfC c → Maps.has D (litXY c) = decide (c ∈ l)) ∧ (∀ c, WfC c → D.atKey (litXY c) (.lit (.bool false)) = .lit (.bool (decide (c ∈ l)))) ∧
    Maps.size D ≤ l.length ∧ (Maps.size D = l.length ↔ l.Nodup)
theorem MSet.made (w : World) : MSet (w.alloc (.map #[] 0)) w.heap.size 0 [] :=
  ⟨fun c h => (by cases h), _, World.ownsMap_made w _ _ _, fun c _ => rfl, fun c _ => rfl, Nat.le_refl _, ⟨fun _ => List.nodup_nil, fun _ => rfl⟩⟩
theorem MSet.kept {w w' : World} {b n : Nat} {l : List (Int × Int)} (h : MSet w b n l) {row : Option Nat} (hg : w.grownBy w' row) (hne : some b ≠ row) : MSet w' b n l := by
  obtain ⟨h0, D, h1, h2⟩ := h
  exact ⟨h0, D, h1.kept hg hne, h2⟩
theorem MSet.lt {w : World} {b n : Nat} {l : List (Int × Int)} (h : MSet w b n l) : b < w.heap.size := by
  obtain ⟨_, D, h1, _⟩ := h
  exact h1.lt
theorem MSet.below {w w' : World} {b n : Nat} {l : List (Int × Int)} (h : MSet w b n l) (hb : Below w.heap.size w w') : MSet w' b n l := by
  obtain ⟨h0, D, ⟨es, clock, e1, e2⟩, h2⟩ := h
  exact ⟨h0, D, ⟨es, clock, (hb.block b (Array.getElem?_eq_some_iff.1 e1).1).trans e1, e2⟩, h2⟩
theorem MSet.store {w : World} {b n : Nat} {l : List (Int × Int)} (h : MSet w b n l) (hn : n < maxLen) {c : Int × Int} (hc : WfC c) :
    ∃ w', (Instr.mapUpdate 120 (.map (some b)) (.agg #[.int .i64 c.1, .int .i64 c.2]) (.bool true)).run Try.prog w = .ok () w' ∧ MSet w' b (n + 1) (l ++ [c]) ∧ w.grownBy w' (some b) := by
  obtain ⟨h0, D, h1, h2, h3, h4, h5⟩ := h
  obtain ⟨w', hrun, r1, r2⟩ := h1.update xy_keyed Try.underlying120 hn (xy_key hc) (plainElem_bool Try.underlying4 true)
  have ht := h1.tidy xy_keyed
  refine ⟨w', hrun, ⟨fun x hx => ?_, _, r1, fun x hx => ?_, fun x hx => ?_, ?_⟩, r2⟩
  · rcases List.mem_append.1 hx with hx | hx
    · exact h0 x hx
    · rw [List.mem_singleton] at hx; rw [hx]; exact hc
  · by_cases e : x = c
    · subst e
      rw [Maps.has_put_same ht.isMap (litXY_key hc)]; simp
    · rw [Maps.has_put_other (fun hh => e (litXY_inj hx hc hh)), h2 x hx]
      apply decide_eq_decide.2; simp [e]
  · by_cases e : x = c
    · subst e
      rw [Maps.atKey_put_same ht.isMap (litXY_key hc)]; simp
    · rw [Maps.atKey_put_other (fun hh => e (litXY_inj hx hc hh)), h3 x hx]
      have : decide (x ∈ l) = decide (x ∈ l ++ [c]) := decide_eq_decide.2 (by simp [e])
      rw [this]
  · rw [Maps.size_put ht, h2 c hc]
    simp only [List.length_append, List.length_cons, List.length_nil]
    by_cases hm : c ∈ l
    · rw [if_pos (by simpa using hm)]
      refine ⟨by omega, ⟨fun h => by omega, fun h => ?_⟩⟩
      rw [List.nodup_append] at h
      exact absurd rfl (h.2.2 c hm c (by simp))
    · rw [if_neg (by simpa using hm)]
      refine ⟨by omega, ⟨fun h => ?_, fun h => ?_⟩⟩
      · rw [List.nodup_append]
        exact ⟨h5.1 (by omega), by simp, fun a ha b hb => by rw [List.mem_singleton] at hb; subst hb; exact fun e => hm (e ▸ ha)⟩
      · rw [List.nodup_append] at h
        have := h5.2 h.1
        omega
theorem MSet.get {w : World} {b n : Nat} {l : List (Int × Int)} (h : MSet w b n l) {c : Int × Int} (hc : WfC c) :
    (Instr.lookup 120 (.map (some b)) (.agg #[.int .i64 c.1, .int .i64 c.2]) false).run Try.prog w = .ok (.bool (decide (c ∈ l))) w := by
  obtain ⟨h0, D, h1, h2, h3, h4⟩ := h
  obtain ⟨v, ps, hrun, hv⟩ := h1.lookup xy_keyed Try.underlying120 (zero_bool w) (plainElem_bool Try.underlying4 false) (xy_key hc)
  obtain ⟨x, rfl, hx⟩ := plainElem_bool_inv Try.underlying4 hv
  rw [h3 c hc] at hx
  simp at hx
  rw [hrun, hx.1]
theorem MSet.len {w : World} {b n : Nat} {l : List (Int × Int)} (h : MSet w b n l) (ty : TypeId) : ∃ k : Nat, k ≤ l.length ∧ (k = l.length ↔ l.Nodup) ∧ (Builtin.len_ #[120] ty #[.map (some b)]).run Try.prog w = .ok (.int .i64 k) w := by
  obtain ⟨h0, D, h1, h2, h3, h4, h5⟩ := h
  exact ⟨Maps.size D, h4, h5, h1.len Try.underlying120 ty⟩

section
variable (w : World) {ops : Array Oper} {rest : List Oper} {o : Oper} {a : Act} {Q : Exit → Act → World → Prop}
theorem wp_mset_store (hg : o.guard = none) (m x v : Operand) (hop : o.op = Op.mapUpdate 120 m x v) (b n : Nat) (l : List (Int × Int)) (c : Int × Int)
    (hm : a.eval m = .map (some b)) (h : MSet w b n l) (hn : n < maxLen) (hx : a.eval x = .agg #[.int .i64 c.1, .int .i64 c.2]) (hv : a.eval v = .bool true) (hc : WfC c)
    (hK : ∀ w', MSet w' b (n + 1) (l ++ [c]) → w.grownBy w' (some b) → wpList Try.prog ops Q rest (a.put o.dst undef) w') : wpList Try.prog ops Q (o :: rest) a w := by
  refine wpList_plain hg fun K' hK' => ?_
  obtain ⟨w', hrun, r1, r2⟩ := h.store hn hc
  unfold Oper.wp
  simp [execOp, hop, hm, hx, hv, hrun, Result.andThen]
  exact hK' _ _ (hK w' r1 r2)
theorem wp_mset_get (hg : o.guard = none) (m x : Operand) (hop : o.op = Op.lookup 120 m x false) (b n : Nat) (l : List (Int × Int)) (c : Int × Int)
    (hm : a.eval m = .map (some b)) (h : MSet w b n l) (hx : a.eval x = .agg #[.int .i64 c.1, .int .i64 c.2]) (hc : WfC c)
    (hK : wpList Try.prog ops Q rest (a.put o.dst (.bool (decide (c ∈ l)))) w) : wpList Try.prog ops Q (o :: rest) a w := by
  refine wpList_plain hg fun K' hK' => ?_
  unfold Oper.wp
  simp [execOp, hop, hm, hx, h.get hc, Result.andThen]
  exact hK' _ _ hK
end
end Go.Proofs.Ytpakkjkjppibnaa

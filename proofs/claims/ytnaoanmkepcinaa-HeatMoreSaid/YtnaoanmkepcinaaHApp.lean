/- Heat: append of elements of more cells than one; lists of ratios; a matrix with a column put in. -/
import Derived.Test.YtnaoanmkepcinaaHRatio
namespace Go.Proofs.Ytnaoanmkepcinaa
open Go.RowKit

/-- What the append laws ask of an element's type of k cells. -/
structure ElemK (P : Program) (t e : TypeId) (z : Value) (size bytes : Nat) : Prop where
  und : P.underlying t = some (.slice e)
  info : ∃ i, P.info? e = some i ∧ i.zero = some z ∧ i.size = size ∧ i.bytes = bytes
  zc : z.cells.size = size
  pos : 0 < size
  small : bytes ≤ 96

section
variable {P : Program} {ops : Array Oper} {rest : List Oper} {o : Oper} {a : Act} {Q : Exit → Act → World → Prop}
theorem appK {t e : TypeId} {z : Value} {size bytes : Nat} (EO : ElemK P t e z size bytes) (hgd : o.guard = none) {s x : Operand}
    (ho : o.op = .call { callee := .builtin .append, args := #[s, x], argTypes := #[t, t] })
    {w0 W : World} {v : Value} {n : Nat} {xs : List Value} {cur : Array Value} (hs : a.eval s = v) (hx : a.eval x = .slice (some ⟨W.heap.size, 0, none⟩) 1 1)
    (hbel : Below w0.heap.size w0 W) (hown : W.ownsRow w0.heap.size e size v n xs) (hk : cur.size = size) (h1 : ∀ u ∈ cur.toList, u.oneCell' = true) (hn : n ≤ 4000000)
    (h : ∀ v' w', w'.ownsRow w0.heap.size e size v' (n + 1) (xs ++ cur.toList) → Below w0.heap.size w0 w' → (W.alloc (.cells cur e)).grownBy w' v.ownBlock →
      wpList P ops Q rest (a.put o.dst v') w') : wpList P ops Q (o :: rest) a (W.alloc (.cells cur e)) := by
  obtain ⟨i, hi, hz, hsz, hby⟩ := EO.info
  have hsm := EO.small
  have hB := hbel.size
  refine wpList_append_own _ hgd s x t ho w0.heap.size e i z size bytes EO.und hi hz hsz hby EO.zc EO.pos v n xs hs (hown.alloc _) ⟨W.heap.size, 0, none⟩ 1 1 cur.toList hx (by simp [hk]) ?_ h1 ?_ ?_ ?_ ?_
  · intro j u' hj
    have hj2 : j < cur.size := by
      have := (List.getElem?_eq_some_iff.1 hj).1; simpa using this
    rw [show (⟨W.heap.size, 0, none⟩ : Addr).add j = ⟨W.heap.size, j, none⟩ from by unfold Addr.add; split <;> simp_all]
    have e1 : (W.alloc (.cells cur e)).cell? ⟨W.heap.size, j, none⟩ = cur[j]? := by
      have := heap_alloc_new W (.cells cur e)
      simp only [World.cell?, this]; simp
    rw [e1, ← hj]; simp
  · unfold maxLen; omega
  · have : (n + 1) * bytes ≤ (n + 1) * 96 := Nat.mul_le_mul_left _ hsm
    omega
  · simp; omega
  · intro v' w' ho' hg _
    exact h v' w' ho' ((hbel.alloc hB _).grown hg (by simp; omega) (fun k e => (hown.lt k e).1)) hg
end

theorem el_rat : ElemK Try.prog 40 69 (.agg #[.int .i64 0, .int .i64 0]) 2 16 :=
  ⟨by kernel_rfl, info_parts (by kernel_rfl), by rfl, by decide, by decide⟩

/-- pairs as cells -/
def pairs (l : List (Int × Int)) : List Value := l.flatMap fun x => [.int .i64 x.1, .int .i64 x.2]
theorem pairs_append (l m : List (Int × Int)) : pairs (l ++ m) = pairs l ++ pairs m := by simp [pairs]
theorem pairs_length (l : List (Int × Int)) : (pairs l).length = l.length * 2 := by
  induction l with
  | nil => rfl
  | cons x l ih => simp only [pairs, List.flatMap_cons, List.length_append, List.length_cons, List.length_nil] at *; omega
theorem pairs_get {l : List (Int × Int)} : ∀ {j : Nat} {x : Int × Int}, l[j]? = some x → (pairs l)[j * 2]? = some (.int .i64 x.1) ∧ (pairs l)[j * 2 + 1]? = some (.int .i64 x.2) := by
  induction l with
  | nil => intro j x h; simp at h
  | cons y l ih =>
    intro j x h
    match j, h with
    | 0, h => simp at h; subst h; exact ⟨rfl, rfl⟩
    | j + 1, h =>
      simp at h
      have := ih h
      have e : pairs (y :: l) = .int .i64 y.1 :: .int .i64 y.2 :: pairs l := rfl
      rw [e, show (j + 1) * 2 = j * 2 + 1 + 1 by omega]
      simpa using this

/-- a matrix with a column put in -/
def colm (m : List (List Int)) (k : Nat) (want : List Int) (j : Nat) : List (List Int) := (List.range j).map fun i => (m.getD i []).set k (want.getD i 0)
theorem colm_len (m : List (List Int)) (k : Nat) (want : List Int) (j : Nat) : (colm m k want j).length = j := by simp [colm]
theorem colm_succ (m : List (List Int)) (k : Nat) (want : List Int) (j : Nat) : colm m k want (j + 1) = colm m k want j ++ [(m.getD j []).set k (want.getD j 0)] := by
  unfold colm; rw [List.range_succ, List.map_append]; rfl
/-- the weights of its columns -/
def cwt (n k : Nat) : List Nat := (List.replicate n 200).set k 1000000
theorem cwt_bd {m : List (List Int)} (h : vB m = true) {want : List Int} (hwt : lstB want m.length (-1000000) 1000000 = true) (k : Nat) :
    (cwt m.length k).length = m.length ∧ Bd (colm m k want m.length) (cwt m.length k) ∧ (∀ c ∈ cwt m.length k, 1 ≤ c ∧ c ≤ 1000000) ∧ (k < m.length → fac m.length * pr (cwt m.length k) ≤ 1000000000000000000) := by
  obtain ⟨h1, h2, h3⟩ := vB_bd h
  obtain ⟨g1, g2⟩ := lstB_bd hwt
  have hcl : (cwt m.length k).length = m.length := by simp [cwt]
  refine ⟨hcl, fun r hr => ?_, fun c hc => ?_, fun hk => ?_⟩
  · unfold colm at hr
    obtain ⟨i, hi, rfl⟩ := List.mem_map.1 hr
    have hi2 := List.mem_range.1 hi
    have hmr : m.getD i [] ∈ m := by rw [List.getD_eq_getElem?_getD, List.getElem?_eq_getElem hi2]; exact List.getElem_mem hi2
    obtain ⟨h4, h5⟩ := h3 _ hmr
    refine ⟨by rw [List.length_set, h4, hcl], fun j x c hx hc => ?_⟩
    unfold cwt at hc
    rw [List.getElem?_set] at hx hc
    by_cases e : k = j
    · subst e
      rw [if_pos rfl] at hx hc
      split at hc
      · split at hx
        · obtain rfl := Option.some.inj hc
          obtain rfl := Option.some.inj hx
          have hmw : want.getD i 0 ∈ want := by rw [List.getD_eq_getElem?_getD, List.getElem?_eq_getElem (by omega)]; exact List.getElem_mem (by omega)
          have := g2 _ hmw
          omega
        · cases hx
      · cases hc
    · rw [if_neg e] at hx hc
      have := h5 x (List.mem_of_getElem? hx)
      have hc2 := List.mem_of_getElem? hc
      obtain rfl := List.eq_of_mem_replicate hc2
      omega
  · unfold cwt at hc
    rcases List.mem_or_eq_of_mem_set hc with h | rfl
    · obtain rfl := List.eq_of_mem_replicate h
      omega
    · omega
  · generalize m.length = n at *
    have : ∀ n, n ≤ 5 → ∀ k, k < n → fac n * pr (cwt n k) ≤ 1000000000000000000 := by decide
    exact this n h2 k hk

end Go.Proofs.Ytnaoanmkepcinaa

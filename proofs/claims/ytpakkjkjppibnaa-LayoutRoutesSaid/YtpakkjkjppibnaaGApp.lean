/- Appends of elements of more cells than one, in regions of either kind. -/
import Derived.Test.YtpakkjkjppibnaaBase
import Derived.Deep.AppendLies
import Derived.Deep.RegionLaw
namespace Go.Proofs.Ytpakkjkjppibnaa
open Go.RowKit

/-- What the append laws ask of an element's type of k cells. -/
structure ElemK (P : Program) (t e : TypeId) (z : Value) (size bytes : Nat) : Prop where
  und : P.underlying t = some (.slice e)
  info : ∃ i, P.info? e = some i ∧ i.zero = some z ∧ i.size = size ∧ i.bytes = bytes
  zc : z.cells.size = size
  pos : 0 < size
  small : bytes ≤ 96

section
variable {P : Program} {ops : Array Oper} {rest : List Oper} {o : Oper} {a : Act} {Q : Exit → Act → World → Prop}
theorem appK {t e : TypeId} {z : Value} {size bytes : Nat} (EO : ElemK P t e z size bytes) (hgd : o.guard = none) {s x : Operand}
    (ho : o.op = .call { callee := .builtin .append, args := #[s, x], argTypes := #[t, t] })
    {w0 W : World} {v : Value} {n : Nat} {xs : List Value} {cur : Array Value} (hs : a.eval s = v) (hx : a.eval x = .slice (some ⟨W.heap.size, 0, none⟩) 1 1)
    (hbel : Below w0.heap.size w0 W) (hown : W.ownsRow w0.heap.size e size v n xs) (hk : cur.size = size) (h1 : ∀ u ∈ cur.toList, u.oneCell' = true) (hn : n ≤ 4000000)
    (h : ∀ v' w', w'.ownsRow w0.heap.size e size v' (n + 1) (xs ++ cur.toList) → Below w0.heap.size w0 w' → (W.alloc (.cells cur e)).grownBy w' v.ownBlock →
      wpList P ops Q rest (a.put o.dst v') w') : wpList P ops Q (o :: rest) a (W.alloc (.cells cur e)) := by
  obtain ⟨i, hi, hz, hsz, hby⟩ := EO.info
  have hsm := EO.small
  have hB := hbel.size
  refine wpList_append_own _ hgd s x t ho w0.heap.size e i z size bytes EO.und hi hz hsz hby EO.zc EO.pos v n xs hs (hown.alloc _) ⟨W.heap.size, 0, none⟩ 1 1 cur.toList hx (by simp [hk]) ?_ h1 ?_ ?_ ?_ ?_
  · intro j u' hj
    have hj2 : j < cur.size := by
      have := (List.getElem?_eq_some_iff.1 hj).1; simpa using this
    rw [show (⟨W.heap.size, 0, none⟩ : Addr).add j = ⟨W.heap.size, j, none⟩ from by unfold Addr.add; split <;> simp_all]
    have e1 : (W.alloc (.cells cur e)).cell? ⟨W.heap.size, j, none⟩ = cur[j]? := by
      have := heap_alloc_new W (.cells cur e)
      simp only [World.cell?, this]; simp
    rw [e1, ← hj]; simp
  · unfold maxLen; omega
  · have : (n + 1) * bytes ≤ (n + 1) * 96 := Nat.mul_le_mul_left _ hsm
    omega
  · simp; omega
  · intro v' w' ho' hg _
    exact h v' w' ho' ((hbel.alloc hB _).grown hg (by simp; omega) (fun k e => (hown.lt k e).1)) hg
end

section
variable {P : Program} {ops : Array Oper} {o : Oper} {a : Act} {K : Act → World → Prop} {Q : Exit → Act → World → Prop} {E : Prop}
/-- 'append' of one element of k cells, as a step of a region that draws; and where the new value lies. -/
theorem stepK {t e : TypeId} {z : Value} {size bytes : Nat} (EO : ElemK P t e z size bytes) (hgd : o.guard = none) {s x : Operand}
    (ho : o.op = .call { callee := .builtin .append, args := #[s, x], argTypes := #[t, t] })
    {w0 W : World} {v : Value} {n B c : Nat} {xs : List Value} {cur : Array Value} {fr : Nat × Nat} (hs : a.eval s = v) (hx : a.eval x = .slice (some ⟨B, 0, none⟩) 1 c) (hB : W.heap[B]? = some (.cells cur e fr))
    (hbel : Below w0.heap.size w0 W) (hown : W.ownsRow w0.heap.size e size v n xs) (hk : cur.size = size) (h1 : ∀ u ∈ cur.toList, u.oneCell' = true) (hn : n ≤ 4000000)
    (h : ∀ g cap w', w'.ownsRow w0.heap.size e size (.slice (some ⟨g, 0, none⟩) (n + 1) cap) (n + 1) (xs ++ cur.toList) → W.grownBy w' v.ownBlock → (v.ownBlock = some g ∨ g = W.heap.size) → g < w'.heap.size → Below w0.heap.size w0 w' →
      K (a.put o.dst (.slice (some ⟨g, 0, none⟩) (n + 1) cap)) w') : if Region.wanted o (yielded ops a.tmps) = true then Oper.wp P o a W K Q else E := by
  obtain ⟨i, hi, hz, hsz, hby⟩ := EO.info
  have hsm := EO.small
  refine step_append_lies W hgd s x t ho w0.heap.size e i z size bytes EO.und hi hz hsz hby EO.zc EO.pos v n xs hs hown ⟨B, 0, none⟩ 1 c cur.toList hx (by simp [hk]) (World.news_of_block hB) h1 (by decide) (by unfold maxLen; omega) ?_ hbel.size W.heap.size rfl ?_
  · have : (n + 1) * bytes ≤ (n + 1) * 96 := Nat.mul_le_mul_left _ hsm
    omega
  · intro g cap w' h2 h3 h4 h5
    exact h g cap w' h2 h3 h4 h5 (hbel.grown h3 hbel.size (fun k e => (hown.lt k e).1))
end


end Go.Proofs.Ytpakkjkjppibnaa

/- How an array of six small numbers reads as it comes in. -/
import Derived.Test.YtelnlmhelkcliaaArgs
import Derived.Test.YtelnlmhelkcliaaSizes
namespace Go.Proofs.Ytelnlmhelkcliaa
open Go.ChangeShapes Go.WideShapes Go.ChangeAt Go.RowKit

section
variable {H : Type} {enc : TypeId × Value → H} {P : Program} {w : World}

theorem okWide_array {r : Reach} {base : Nat} {t e : TypeId} {n : Nat} {v : Value} (ht : P.underlying t = some (.array n e)) (h : Value.okWide P w r base t v) : ∃ cs, v = .agg cs ∧ cs.size = P.cellsOf t := by
  simp only [Value.okWide, ht] at h
  obtain ⟨cs, h1, h2, _⟩ := h
  exact ⟨cs, h1, h2⟩

theorem arr_cells {t e : TypeId} {n : Nat} {k : IntKind} {cs : List Value} {fuel : Nat} {x : DataW H × List MemPlace} (ht : P.underlying t = some (.array n e)) (he : P.underlying e = some (.int k)) (hc : P.cellsOf e = 1)
    (h : DataW.trod enc P w 0 (fun _ => true) true fuel t cs = some x) : ∀ i, i < n → i < cs.length → ∃ y, cs[i]? = some (.int k y) ∧ (Lit.int k y).wf = true := by
  intro i hi hil
  obtain ⟨xs, m, _, _, hl, hxs, hf⟩ := DataW.trod_array ht h
  have := hf i hi
  rw [hc, Nat.mul_one] at this
  obtain ⟨y, hy⟩ : ∃ y, xs[i]? = some y := ⟨_, List.getElem?_eq_getElem (by omega)⟩
  rw [hy, show (cs.drop i).take 1 = [cs[i]] from by rw [List.drop_eq_getElem_cons hil]; rfl] at this
  obtain ⟨z, hz, _, hw⟩ := DataW.trod_int he this
  exact ⟨z, by rw [List.getElem?_eq_getElem hil]; simpa using hz, hw⟩
end

section
variable {H : Type} {enc : TypeId × Value → H} {w : World}

set_option maxRecDepth 100000 in
/-- six small numbers -/
theorem arg_six {base : Nat} {t e : TypeId} {k : IntKind} {v : Value} {d : DataW H} {ps : List MemPlace} (ht : Try.prog.underlying t = some (.array 6 e)) (he : Try.prog.underlying e = some (.int k)) (hc : Try.prog.cellsOf e = 1) (hs1 : Try.prog.cellsOf t = 6)
    (hval : Value.okWide Try.prog w .any base t v) (h : DataW.Trod enc Try.prog w 0 (fun _ => true) true t v d ps) :
    ∃ a0 a1 a2 a3 a4 a5, v = .agg #[.int k a0, .int k a1, .int k a2, .int k a3, .int k a4, .int k a5] ∧ (Lit.int k a0).wf = true ∧ (Lit.int k a1).wf = true ∧ (Lit.int k a2).wf = true ∧ (Lit.int k a3).wf = true ∧ (Lit.int k a4).wf = true ∧ (Lit.int k a5).wf = true := by
  obtain ⟨cs, rfl, hs⟩ := okWide_array ht hval
  rw [hs1] at hs
  obtain ⟨u0, u1, u2, u3, u4, u5, rfl⟩ : ∃ u0 u1 u2 u3 u4 u5, cs = #[u0, u1, u2, u3, u4, u5] := by
    match cs, hs with
    | ⟨[u0, u1, u2, u3, u4, u5]⟩, _ => exact ⟨u0, u1, u2, u3, u4, u5, rfl⟩
  obtain ⟨fuel, hf⟩ := h
  obtain ⟨a0, ha0, w0⟩ := arr_cells ht he hc hf 0 (by decide) (by simp [Value.cells])
  obtain ⟨a1, ha1, w1⟩ := arr_cells ht he hc hf 1 (by decide) (by simp [Value.cells])
  obtain ⟨a2, ha2, w2⟩ := arr_cells ht he hc hf 2 (by decide) (by simp [Value.cells])
  obtain ⟨a3, ha3, w3⟩ := arr_cells ht he hc hf 3 (by decide) (by simp [Value.cells])
  obtain ⟨a4, ha4, w4⟩ := arr_cells ht he hc hf 4 (by decide) (by simp [Value.cells])
  obtain ⟨a5, ha5, w5⟩ := arr_cells ht he hc hf 5 (by decide) (by simp [Value.cells])
  simp [Value.cells] at ha0 ha1 ha2 ha3 ha4 ha5
  subst ha0 ha1 ha2 ha3 ha4 ha5
  exact ⟨a0, a1, a2, a3, a4, a5, rfl, w0, w1, w2, w3, w4, w5⟩
end
end Go.Proofs.Ytelnlmhelkcliaa

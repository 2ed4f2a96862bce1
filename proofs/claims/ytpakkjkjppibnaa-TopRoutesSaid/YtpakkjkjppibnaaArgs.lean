/- How arguments that came in read as lists. -/
import Derived.Test.YtpakkjkjppibnaaBase
import Derived.ProofKit
import Derived.OpenShut
import Derived.ChangeOld
import Derived.Below
import Derived.Deep.Slices
namespace Go.Proofs.Ytpakkjkjppibnaa
open Go.ChangeShapes Go.WideShapes Go.ChangeAt Go.RowKit

section
variable {H : Type} {enc : TypeId × Value → H} {P : Program} {w : World}

/-- A slice of one-cell elements, read by a function f of what its cells hold. -/
theorem arg_row {α : Type} {t e : TypeId} {v : Value} {d : DataW H} {ps : List MemPlace} (f : α → Value) (R : α → Prop)
    (ht : P.underlying t = some (.slice e)) (hc : P.cellsOf e = 1)
    (hel : ∀ (n : Nat) (u : Value) (y : DataW H × List MemPlace), DataW.trod enc P w 0 (fun _ => true) true n e [u] = some y → ∃ x, u = f x ∧ R x)
    (hv : ∃ a l c, v = .slice a l c) (h : DataW.Trod enc P w 0 (fun _ => true) true t v d ps) :
    ∃ l : List α, Rd w v (l.map f) ∧ ∀ x ∈ l, R x := by
  obtain ⟨a0, l0, c0, rfl⟩ := hv
  obtain ⟨fuel, hf⟩ := h
  rcases Deep.open_slice1 ht hc hf with ⟨hcs, _⟩ | ⟨a, len, cap, m, n, V, D, Pl, hcs, _, hl, hm, hmm, _, hx⟩
  · simp [Value.cells] at hcs
    obtain ⟨rfl, rfl, rfl⟩ := hcs
    exact ⟨[], Rd.nil w, by simp⟩
  · simp [Value.cells] at hcs
    obtain ⟨rfl, rfl, rfl⟩ := hcs
    simp at hmm
    subst hmm
    -- the elements
    have hch : ∀ k, k ≤ l0 → ∃ l : List α, l.length = k ∧ (∀ j v, (l.map f)[j]? = some v → v = V j) ∧ ∀ x ∈ l, R x := by
      intro k
      induction k with
      | zero => intro _; exact ⟨[], rfl, by simp, by simp⟩
      | succ k ih =>
        intro hk
        obtain ⟨l, h1, h2, h3⟩ := ih (by omega)
        obtain ⟨x, hx1, hx2⟩ := hel n _ _ (hx k (by omega)).2
        refine ⟨l ++ [x], by simp [h1], ?_, ?_⟩
        · intro j u hj
          rw [List.map_append, List.getElem?_append] at hj
          split at hj
          · exact h2 j u hj
          · rename_i hge
            rw [List.length_map, h1] at hge hj
            have : j = k := by
              have := (List.getElem?_eq_some_iff.1 hj).1
              simp at this
              omega
            subst this
            simp at hj
            rw [← hj, ← hx1]
        · intro y hy
          rcases List.mem_append.1 hy with hy | hy
          · exact h3 y hy
          · simp at hy; rw [hy]; exact hx2
    obtain ⟨l, h1, h2, h3⟩ := hch l0 (Nat.le_refl _)
    refine ⟨l, ⟨some a, _, by rw [List.length_map, h1], by rw [List.length_map, h1]; exact hl, hm, ?_, by simp⟩, h3⟩
    by_cases h0 : l0 = 0
    · left
      rw [h0] at h1
      rw [List.eq_nil_of_length_eq_zero h1]; rfl
    · right
      obtain ⟨b, off, spot⟩ := a
      have hsp : spot = none := by
        have := World.cell?_spot (hx 0 (by omega)).1
        simpa [Addr.add] using this
      subst hsp
      refine ⟨b, off, rfl, fun j u hj => ?_⟩
      have hjl : j < l0 := by
        have := (List.getElem?_eq_some_iff.1 hj).1
        simpa [h1] using this
      rw [h2 j u hj]
      have := (hx j (by omega)).1
      rwa [add_none] at this

theorem arg_bools {t e : TypeId} {v : Value} {d : DataW H} {ps : List MemPlace} (ht : P.underlying t = some (.slice e)) (he : P.underlying e = some .bool) (hc : P.cellsOf e = 1)
    (hv : ∃ a l c, v = .slice a l c) (h : DataW.Trod enc P w 0 (fun _ => true) true t v d ps) : ∃ S, Rd w v (bools S) := by
  obtain ⟨l, hl, _⟩ := arg_row Value.bool (fun _ => True) ht hc (fun n u y hy => by
    obtain ⟨b, hb, _⟩ := DataW.trod_bool he hy
    exact ⟨b, by simpa using hb, trivial⟩) hv h
  exact ⟨l, hl⟩

theorem arg_ints {t e : TypeId} {k : IntKind} {v : Value} {d : DataW H} {ps : List MemPlace} (ht : P.underlying t = some (.slice e)) (he : P.underlying e = some (.int k)) (hc : P.cellsOf e = 1)
    (hv : ∃ a l c, v = .slice a l c) (h : DataW.Trod enc P w 0 (fun _ => true) true t v d ps) : ∃ S : List Int, Rd w v (S.map (.int k)) ∧ ∀ x ∈ S, (Lit.int k x).wf = true :=
  arg_row (Value.int k) (fun x => (Lit.int k x).wf = true) ht hc (fun n u y hy => by
    obtain ⟨b, hb, _, hw⟩ := DataW.trod_int he hy
    exact ⟨b, by simpa using hb, hw⟩) hv h
end
end Go.Proofs.Ytpakkjkjppibnaa

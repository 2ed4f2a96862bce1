/- Top: how a list of pairs of cells reads as it comes in. -/
import Derived.Test.YtpakkjkjppibnaaGArgs
import Derived.Test.YtpakkjkjppibnaaKLaw
namespace Go.Proofs.Ytpakkjkjppibnaa
open Go.ChangeShapes Go.WideShapes Go.ChangeAt Go.RowKit

section
variable {H : Type} {enc : TypeId × Value → H} {w : World}
set_option maxRecDepth 100000 in
theorem el_twoXY (n : Nat) (cs : List Value) (y : DataW H × List MemPlace) (hy : DataW.trod enc Try.prog w 0 (fun _ => true) true n 61 cs = some y) : ∃ x : Qd, cs = [.int .i64 x.1, .int .i64 x.2.1, .int .i64 x.2.2.1, .int .i64 x.2.2.2] := by
  obtain ⟨xs, m, _, _, hl, hxs, hfl⟩ := DataW.trod_array Try.underlying61 hy
  have hs1 : Try.prog.cellsOf 61 = 4 := by kernel_rfl
  have hs2 : Try.prog.cellsOf 26 = 2 := by kernel_rfl
  rw [hs1] at hl
  obtain ⟨y0, hy0⟩ : ∃ y, xs[0]? = some y := ⟨_, List.getElem?_eq_getElem (by omega)⟩
  obtain ⟨y1, hy1⟩ : ∃ y, xs[1]? = some y := ⟨_, List.getElem?_eq_getElem (by omega)⟩
  have g0 := hfl 0 (by decide)
  have g1 := hfl 1 (by decide)
  rw [hs2, hy0] at g0
  rw [hs2, hy1] at g1
  match cs, hl with
  | [u0, u1, u2, u3], _ =>
    obtain ⟨a, b, e1, _, _⟩ := el_cell _ _ _ (by simpa using g0)
    obtain ⟨c, d, e2, _, _⟩ := el_cell _ _ _ (by simpa using g1)
    simp at e1 e2
    obtain ⟨rfl, rfl⟩ := e1
    obtain ⟨rfl, rfl⟩ := e2
    exact ⟨(a, b, c, d), rfl⟩
set_option maxRecDepth 100000 in
/-- a list of pairs of cells -/
theorem arg_quads {v : Value} {d : DataW H} {ps : List MemPlace} (hv : ∃ a l c, v = .slice a l c) (h : DataW.Trod enc Try.prog w 0 (fun _ => true) true 60 v d ps) : ∃ l, RdQ w v l := by
  have hc : Try.prog.cellsOf 61 = 4 := by kernel_rfl
  obtain ⟨a0, l0, c0, rfl⟩ := hv
  obtain ⟨fuel, hf⟩ := h
  rcases Deep.open_slice Try.underlying60 hf with ⟨hcs, _⟩ | ⟨a, len, cap, m, n, D, Pl, hcs, _, hl, hm, hmm, _, hx⟩
  · simp [Value.cells] at hcs
    obtain ⟨rfl, rfl, rfl⟩ := hcs
    exact ⟨[], none, 0, rfl, fun i x hx => by simp at hx⟩
  · simp [Value.cells] at hcs
    obtain ⟨rfl, rfl, rfl⟩ := hcs
    simp at hmm
    subst hmm
    rw [hc] at hx
    have hone : ∀ k, k < m → ∃ x : Qd, w.cell? (a.add (k * 4)) = some (.int .i64 x.1) ∧ w.cell? ((a.add (k * 4)).add 1) = some (.int .i64 x.2.1) ∧ w.cell? ((a.add (k * 4)).add 2) = some (.int .i64 x.2.2.1) ∧ w.cell? ((a.add (k * 4)).add 3) = some (.int .i64 x.2.2.2) := by
      intro k hk
      obtain ⟨cs', h1, h2⟩ := hx k hk
      obtain ⟨x, rfl⟩ := el_twoXY n cs' _ h2
      obtain ⟨_, hlen, hcell⟩ := World.cells?_some h1
      have e0 := hcell 0 (by omega)
      have e1 := hcell 1 (by omega)
      have e2 := hcell 2 (by omega)
      have e3 := hcell 3 (by omega)
      rw [show (a.add (k * 4)).add 0 = a.add (k * 4) from by unfold Addr.add; split <;> simp_all] at e0
      exact ⟨x, e0, e1, e2, e3⟩
    have hch : ∀ k, k ≤ l0 → ∃ l : List Qd, l.length = k ∧ ∀ j x, l[j]? = some x → w.cell? (a.add (j * 4)) = some (.int .i64 x.1) ∧ w.cell? ((a.add (j * 4)).add 1) = some (.int .i64 x.2.1) ∧ w.cell? ((a.add (j * 4)).add 2) = some (.int .i64 x.2.2.1) ∧ w.cell? ((a.add (j * 4)).add 3) = some (.int .i64 x.2.2.2) := by
      intro k
      induction k with
      | zero => intro _; exact ⟨[], rfl, by simp⟩
      | succ k ih =>
        intro hk
        obtain ⟨l, h1, h2⟩ := ih (by omega)
        obtain ⟨x, hx1⟩ := hone k (by omega)
        refine ⟨l ++ [x], by simp [h1], fun j y hj => ?_⟩
        rw [List.getElem?_append] at hj
        split at hj
        · exact h2 j y hj
        · rename_i hge
          rw [h1] at hge hj
          have : j = k := by
            have := (List.getElem?_eq_some_iff.1 hj).1
            simp at this
            omega
          subst this
          simp at hj
          subst hj
          exact hx1
    obtain ⟨l, h1, h2⟩ := hch l0 (Nat.le_refl _)
    refine ⟨l, some a, _, by rw [h1], fun i x hxi => ?_⟩
    obtain ⟨b, off, spot⟩ := a
    have hcl := h2 i x hxi
    have hli := (List.getElem?_eq_some_iff.1 hxi).1
    obtain ⟨x0, hx0⟩ : ∃ x, l[0]? = some x := ⟨_, List.getElem?_eq_getElem (by omega)⟩
    have hsp : spot = none := by
      have := World.cell?_spot (h2 0 x0 hx0).1
      simpa [Addr.add] using this
    subst hsp
    simp only [add_none] at hcl
    exact ⟨b, off, rfl, hcl.1, hcl.2.1, hcl.2.2.1, hcl.2.2.2⟩
end
end Go.Proofs.Ytpakkjkjppibnaa

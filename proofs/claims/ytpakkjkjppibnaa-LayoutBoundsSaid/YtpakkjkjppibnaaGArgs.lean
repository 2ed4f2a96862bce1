/- Layout: how a grid, a cell and a list of cells read as they come in. -/
import Derived.Test.YtpakkjkjppibnaaArgs
import Derived.Test.YtpakkjkjppibnaaKPairs
namespace Go.Proofs.Ytpakkjkjppibnaa
open Go.ChangeShapes Go.WideShapes Go.ChangeAt Go.RowKit

section
variable {H : Type} {enc : TypeId × Value → H} {P : Program} {w : World}

/-- a slice of elements of two cells, each a whole number -/
theorem arg_pairs {t e : TypeId} {v : Value} {d : DataW H} {ps : List MemPlace} (ht : P.underlying t = some (.slice e)) (hc : P.cellsOf e = 2)
    (hel : ∀ (n : Nat) (cs : List Value) (y : DataW H × List MemPlace), DataW.trod enc P w 0 (fun _ => true) true n e cs = some y → ∃ a b, cs = [.int .i64 a, .int .i64 b] ∧ (Lit.int .i64 a).wf = true ∧ (Lit.int .i64 b).wf = true)
    (hv : ∃ a l c, v = .slice a l c) (h : DataW.Trod enc P w 0 (fun _ => true) true t v d ps) :
    ∃ l, RdP w v l ∧ ∀ x ∈ l, (Lit.int .i64 x.1).wf = true ∧ (Lit.int .i64 x.2).wf = true := by
  obtain ⟨a0, l0, c0, rfl⟩ := hv
  obtain ⟨fuel, hf⟩ := h
  rcases Deep.open_slice ht hf with ⟨hcs, _⟩ | ⟨a, len, cap, m, n, D, Pl, hcs, _, hl, hm, hmm, _, hx⟩
  · simp [Value.cells] at hcs
    obtain ⟨rfl, rfl, rfl⟩ := hcs
    exact ⟨[], ⟨none, 0, rfl, by simp, by simp, .inl rfl, fun _ => rfl⟩, by simp⟩
  · simp [Value.cells] at hcs
    obtain ⟨rfl, rfl, rfl⟩ := hcs
    simp at hmm
    subst hmm
    rw [hc] at hx
    have hone : ∀ k, k < m → ∃ x : Int × Int, w.cell? (a.add (k * 2)) = some (.int .i64 x.1) ∧ w.cell? ((a.add (k * 2)).add 1) = some (.int .i64 x.2) ∧ (Lit.int .i64 x.1).wf = true ∧ (Lit.int .i64 x.2).wf = true := by
      intro k hk
      obtain ⟨cs', h1, h2⟩ := hx k hk
      obtain ⟨p, q, rfl, g1, g2⟩ := hel n cs' _ h2
      obtain ⟨_, hlen, hcell⟩ := World.cells?_some h1
      have e0 := hcell 0 (by omega)
      have e1 := hcell 1 (by omega)
      rw [show (a.add (k * 2)).add 0 = a.add (k * 2) from by unfold Addr.add; split <;> simp_all] at e0
      exact ⟨(p, q), e0, e1, g1, g2⟩
    have hch : ∀ k, k ≤ l0 → ∃ l : List (Int × Int), l.length = k ∧ (∀ j x, l[j]? = some x → w.cell? (a.add (j * 2)) = some (.int .i64 x.1) ∧ w.cell? ((a.add (j * 2)).add 1) = some (.int .i64 x.2)) ∧ ∀ x ∈ l, (Lit.int .i64 x.1).wf = true ∧ (Lit.int .i64 x.2).wf = true := by
      intro k
      induction k with
      | zero => intro _; exact ⟨[], rfl, by simp, by simp⟩
      | succ k ih =>
        intro hk
        obtain ⟨l, h1, h2, h3⟩ := ih (by omega)
        obtain ⟨x, hx1, hx2, hx3⟩ := hone k (by omega)
        refine ⟨l ++ [x], by simp [h1], fun j y hj => ?_, fun y hy => ?_⟩
        · rw [List.getElem?_append] at hj
          split at hj
          · exact h2 j y hj
          · rename_i hge
            rw [h1] at hge hj
            have : j = k := by
              have := (List.getElem?_eq_some_iff.1 hj).1
              simp at this
              omega
            subst this
            simp at hj
            subst hj
            exact ⟨hx1, hx2⟩
        · rcases List.mem_append.1 hy with hy | hy
          · exact h3 y hy
          · simp at hy; subst hy; exact hx3
    obtain ⟨l, h1, h2, h3⟩ := hch l0 (Nat.le_refl _)
    refine ⟨l, ⟨some a, _, by rw [h1], by rw [h1]; exact hl, hm, ?_, by simp⟩, h3⟩
    by_cases h0 : l0 = 0
    · left
      rw [h0] at h1
      rw [List.eq_nil_of_length_eq_zero h1]; rfl
    · right
      obtain ⟨x0, hx0⟩ : ∃ x, l[0]? = some x := ⟨_, List.getElem?_eq_getElem (by omega)⟩
      obtain ⟨b, off, spot⟩ := a
      have hsp : spot = none := by
        have := World.cell?_spot (h2 0 x0 hx0).1
        simpa [Addr.add] using this
      subst hsp
      refine ⟨b, off, rfl, fun j u hj => ?_⟩
      have hjl : j < l0 * 2 := by
        have := (List.getElem?_eq_some_iff.1 hj).1
        rwa [pairs_length, h1] at this
      obtain ⟨x, hx⟩ : ∃ x, l[j / 2]? = some x := ⟨_, List.getElem?_eq_getElem (by omega)⟩
      have hp := pairs_get hx
      have hcl := h2 _ x hx
      simp only [add_none] at hcl
      rcases Nat.mod_two_eq_zero_or_one j with e | e
      · obtain ⟨i, rfl⟩ : ∃ i, j = i * 2 := ⟨j / 2, by omega⟩
        rw [Nat.mul_div_cancel _ (by decide)] at hp hcl
        rw [hp.1] at hj
        rw [hcl.1, hj]
      · obtain ⟨i, rfl⟩ : ∃ i, j = i * 2 + 1 := ⟨j / 2, by omega⟩
        rw [show (i * 2 + 1) / 2 = i by omega] at hp hcl
        rw [hp.2] at hj
        rw [← Nat.add_assoc, hcl.2, hj]
end

section
variable {H : Type} {enc : TypeId × Value → H} {w : World}

set_option maxRecDepth 100000 in
theorem el_cell (n : Nat) (cs : List Value) (y : DataW H × List MemPlace) (hy : DataW.trod enc Try.prog w 0 (fun _ => true) true n 26 cs = some y) : ∃ a b, cs = [.int .i64 a, .int .i64 b] ∧ (Lit.int .i64 a).wf = true ∧ (Lit.int .i64 b).wf = true := by
  obtain ⟨y0, y1, n, _, hl, h0, h1⟩ := trod_struct2 Try.underlying26 hy
  have hs1 : Try.prog.cellsOf 26 = 2 := by kernel_rfl
  have hc : Try.prog.cellsOf 3 = 1 := by kernel_rfl
  rw [hs1] at hl
  match cs, hl with
  | [u0, u1], _ =>
    simp [hc] at h0 h1
    obtain ⟨a, ha, _, wa⟩ := DataW.trod_int Try.underlying3 h0
    obtain ⟨b, hb, _, wb⟩ := DataW.trod_int Try.underlying3 h1
    simp at ha hb
    subst ha hb
    exact ⟨a, b, rfl, wa, wb⟩
set_option maxRecDepth 100000 in
/-- a list of cells -/
theorem arg_xys {v : Value} {d : DataW H} {ps : List MemPlace} (hv : ∃ a l c, v = .slice a l c) (h : DataW.Trod enc Try.prog w 0 (fun _ => true) true 22 v d ps) :
    ∃ l, RdP w v l ∧ ∀ x ∈ l, (Lit.int .i64 x.1).wf = true ∧ (Lit.int .i64 x.2).wf = true :=
  arg_pairs Try.underlying22 (by kernel_rfl) el_cell hv h
set_option maxRecDepth 100000 in
/-- a cell -/
theorem arg_xy {base : Nat} {v : Value} {d : DataW H} {ps : List MemPlace} (hval : Value.okWide Try.prog w .any base 26 v) (h : DataW.Trod enc Try.prog w 0 (fun _ => true) true 26 v d ps) :
    ∃ a b, v = .agg #[.int .i64 a, .int .i64 b] ∧ (Lit.int .i64 a).wf = true ∧ (Lit.int .i64 b).wf = true := by
  obtain ⟨cs, rfl, hs⟩ := okWide_struct Try.underlying26 hval
  obtain ⟨fuel, hf⟩ := h
  obtain ⟨a, b, hcs, wa, wb⟩ := el_cell _ _ _ hf
  have : cs = #[.int .i64 a, .int .i64 b] := by
    cases cs
    simpa [Value.cells] using hcs
  subst this
  exact ⟨a, b, rfl, wa, wb⟩
set_option maxRecDepth 100000 in
/-- a grid -/
theorem arg_grid {base : Nat} {v : Value} {d : DataW H} {ps : List MemPlace} (hval : Value.okWide Try.prog w .any base 24 v) (h : DataW.Trod enc Try.prog w 0 (fun _ => true) true 24 v d ps) :
    ∃ x0 x1 x2 x3 u l, v = .agg #[.int .i64 x0, .int .i64 x1, .int .i64 x2, .int .i64 x3, u] ∧ RdP w u l ∧ (∀ x ∈ l, (Lit.int .i64 x.1).wf = true ∧ (Lit.int .i64 x.2).wf = true) ∧ (Lit.int .i64 x0).wf = true ∧ (Lit.int .i64 x1).wf = true ∧ (Lit.int .i64 x2).wf = true ∧ (Lit.int .i64 x3).wf = true := by
  obtain ⟨cs, rfl, hs⟩ := okWide_struct Try.underlying24 hval
  have hs1 : Try.prog.cellsOf 24 = 5 := by kernel_rfl
  rw [hs1] at hs
  obtain ⟨u0, u1, u2, u3, u4, rfl⟩ : ∃ u0 u1 u2 u3 u4, cs = #[u0, u1, u2, u3, u4] := by
    match cs, hs with
    | ⟨[u0, u1, u2, u3, u4]⟩, _ => exact ⟨u0, u1, u2, u3, u4, rfl⟩
  obtain ⟨fuel, hf⟩ := h
  obtain ⟨xs, n, _, _, _, hxs, hfl⟩ := DataW.trod_struct Try.underlying24 hf
  have hc : Try.prog.cellsOf 3 = 1 := by kernel_rfl
  have hc1 : Try.prog.cellsOf 22 = 1 := by kernel_rfl
  have hy : ∀ i, i < 5 → ∃ y, xs[i]? = some y := fun i hi => ⟨_, List.getElem?_eq_getElem (by simp at hxs; omega)⟩
  obtain ⟨y0, hy0⟩ := hy 0 (by decide)
  obtain ⟨y1, hy1⟩ := hy 1 (by decide)
  obtain ⟨y2, hy2⟩ := hy 2 (by decide)
  obtain ⟨y3, hy3⟩ := hy 3 (by decide)
  obtain ⟨y4, hy4⟩ := hy 4 (by decide)
  have g0 := hfl 0 _ rfl
  have g1 := hfl 1 _ rfl
  have g2 := hfl 2 _ rfl
  have g3 := hfl 3 _ rfl
  have g4 := hfl 4 _ rfl
  rw [hy0] at g0
  rw [hy1] at g1
  rw [hy2] at g2
  rw [hy3] at g3
  rw [hy4] at g4
  have k0 : DataW.trod enc Try.prog w 0 (fun _ => true) true n 3 [u0] = some y0 := by simpa [Value.cells, hc] using g0
  have k1 : DataW.trod enc Try.prog w 0 (fun _ => true) true n 3 [u1] = some y1 := by simpa [Value.cells, hc] using g1
  have k2 : DataW.trod enc Try.prog w 0 (fun _ => true) true n 3 [u2] = some y2 := by simpa [Value.cells, hc] using g2
  have k3 : DataW.trod enc Try.prog w 0 (fun _ => true) true n 3 [u3] = some y3 := by simpa [Value.cells, hc] using g3
  have k4 : DataW.trod enc Try.prog w 0 (fun _ => true) true n 22 [u4] = some y4 := by simpa [Value.cells, hc, hc1] using g4
  obtain ⟨a0, e0, _, w0⟩ := DataW.trod_int Try.underlying3 k0
  obtain ⟨a1, e1, _, w1⟩ := DataW.trod_int Try.underlying3 k1
  obtain ⟨a2, e2, _, w2⟩ := DataW.trod_int Try.underlying3 k2
  obtain ⟨a3, e3, _, w3⟩ := DataW.trod_int Try.underlying3 k3
  simp at e0 e1 e2 e3
  subst e0 e1 e2 e3
  have hsl : ∃ a l c, u4 = .slice a l c := by
    rcases Deep.open_slice Try.underlying22 k4 with ⟨hcs, _⟩ | ⟨a, len, cap, m, n, D, Pl, hcs, _⟩
    · simp at hcs; exact ⟨_, _, _, hcs⟩
    · simp at hcs; exact ⟨_, _, _, hcs⟩
  obtain ⟨l, R, wl⟩ := arg_xys (d := y4.1) (ps := y4.2) hsl ⟨n, by obtain ⟨a, l, c, rfl⟩ := hsl; simpa [Value.cells] using k4⟩
  exact ⟨a0, a1, a2, a3, u4, l, rfl, R, wl, w0, w1, w2, w3⟩
end
end Go.Proofs.Ytpakkjkjppibnaa

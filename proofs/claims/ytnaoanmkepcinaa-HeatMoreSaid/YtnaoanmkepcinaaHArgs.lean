/- How a bank, a list of pairs and a small array of numbers read as they come in. -/
import Derived.Test.YtnaoanmkepcinaaArgs
import Derived.Test.YtnaoanmkepcinaaHPairs
namespace Go.Proofs.Ytnaoanmkepcinaa
open Go.ChangeShapes Go.WideShapes Go.ChangeAt Go.RowKit

section
variable {H : Type} {enc : TypeId × Value → H} {P : Program} {w : World}

theorem okWide_array {r : Reach} {base : Nat} {t e : TypeId} {n : Nat} {v : Value} (ht : P.underlying t = some (.array n e)) (h : Value.okWide P w r base t v) : ∃ cs, v = .agg cs ∧ cs.size = P.cellsOf t := by
  simp only [Value.okWide, ht] at h
  obtain ⟨cs, h1, h2, _⟩ := h
  exact ⟨cs, h1, h2⟩

/-- rows of whole numbers -/
theorem arg_mat {t e q : TypeId} {v : Value} {d : DataW H} {ps : List MemPlace} (ht : P.underlying t = some (.slice e)) (he : P.underlying e = some (.slice q)) (hq : P.underlying q = some (.int .i64))
    (ce : P.cellsOf e = 1) (cq : P.cellsOf q = 1) (hv : ∃ a l c, v = .slice a l c) (h : DataW.Trod enc P w 0 (fun _ => true) true t v d ps) :
    ∃ m, RdM w v m ∧ ∀ r ∈ m, ∀ x ∈ r, (Lit.int .i64 x).wf = true := by
  obtain ⟨l, h1, h2⟩ := arg_row (α := Value × List Int) (·.1) (fun x => Rd w x.1 (ints x.2) ∧ ∀ y ∈ x.2, (Lit.int .i64 y).wf = true) ht ce (fun n u y hy => by
    have hs : ∃ a l c, u = .slice a l c := by
      rcases Deep.open_slice1 he cq hy with ⟨hcs, _⟩ | ⟨a, len, cap, m, n, V, D, Pl, hcs, _⟩
      · simp at hcs; exact ⟨_, _, _, hcs⟩
      · simp at hcs; exact ⟨_, _, _, hcs⟩
    obtain ⟨S, hS, hw⟩ := arg_ints (v := u) (d := y.1) (ps := y.2) he hq cq hs ⟨n, by obtain ⟨a, l, c, rfl⟩ := hs; simpa [Value.cells] using hy⟩
    exact ⟨(u, S), rfl, hS, hw⟩) hv h
  refine ⟨l.map (·.2), ⟨l.map (·.1), h1, by simp, fun i x r hx hr => ?_⟩, fun r hr => ?_⟩
  · rw [List.getElem?_map] at hx hr
    cases hl : l[i]? with
    | none => rw [hl] at hx; simp at hx
    | some y =>
      rw [hl] at hx hr
      simp at hx hr
      subst hx hr
      exact (h2 y (List.mem_of_getElem? hl)).1
  · obtain ⟨y, hy, rfl⟩ := List.mem_map.1 hr
    exact (h2 y hy).2

/-- a slice of elements of two cells, each a whole number -/
theorem arg_pairs {t e : TypeId} {v : Value} {d : DataW H} {ps : List MemPlace} (ht : P.underlying t = some (.slice e)) (hc : P.cellsOf e = 2)
    (hel : ∀ (n : Nat) (cs : List Value) (y : DataW H × List MemPlace), DataW.trod enc P w 0 (fun _ => true) true n e cs = some y → ∃ a b, cs = [.int .i64 a, .int .i64 b] ∧ (Lit.int .i64 a).wf = true ∧ (Lit.int .i64 b).wf = true)
    (hv : ∃ a l c, v = .slice a l c) (h : DataW.Trod enc P w 0 (fun _ => true) true t v d ps) :
    ∃ l, RdP w v l ∧ ∀ x ∈ l, (Lit.int .i64 x.1).wf = true ∧ (Lit.int .i64 x.2).wf = true := by
  obtain ⟨a0, l0, c0, rfl⟩ := hv
  obtain ⟨fuel, hf⟩ := h
  rcases Deep.open_slice ht hf with ⟨hcs, _⟩ | ⟨a, len, cap, m, n, D, Pl, hcs, _, hl, hm, hmm, _, hx⟩
  · simp [Value.cells] at hcs
    obtain ⟨rfl, rfl, rfl⟩ := hcs
    exact ⟨[], ⟨none, 0, rfl, by simp, by simp, .inl rfl, fun _ => rfl⟩, by simp⟩
  · simp [Value.cells] at hcs
    obtain ⟨rfl, rfl, rfl⟩ := hcs
    simp at hmm
    subst hmm
    rw [hc] at hx
    have hone : ∀ k, k < m → ∃ x : Int × Int, w.cell? (a.add (k * 2)) = some (.int .i64 x.1) ∧ w.cell? ((a.add (k * 2)).add 1) = some (.int .i64 x.2) ∧ (Lit.int .i64 x.1).wf = true ∧ (Lit.int .i64 x.2).wf = true := by
      intro k hk
      obtain ⟨cs', h1, h2⟩ := hx k hk
      obtain ⟨p, q, rfl, g1, g2⟩ := hel n cs' _ h2
      obtain ⟨_, hlen, hcell⟩ := World.cells?_some h1
      have e0 := hcell 0 (by omega)
      have e1 := hcell 1 (by omega)
      rw [show (a.add (k * 2)).add 0 = a.add (k * 2) from by unfold Addr.add; split <;> simp_all] at e0
      exact ⟨(p, q), e0, e1, g1, g2⟩
    have hch : ∀ k, k ≤ l0 → ∃ l : List (Int × Int), l.length = k ∧ (∀ j x, l[j]? = some x → w.cell? (a.add (j * 2)) = some (.int .i64 x.1) ∧ w.cell? ((a.add (j * 2)).add 1) = some (.int .i64 x.2)) ∧ ∀ x ∈ l, (Lit.int .i64 x.1).wf = true ∧ (Lit.int .i64 x.2).wf = true := by
      intro k
      induction k with
      | zero => intro _; exact ⟨[], rfl, by simp, by simp⟩
      | succ k ih =>
        intro hk
        obtain ⟨l, h1, h2, h3⟩ := ih (by omega)
        obtain ⟨x, hx1, hx2, hx3⟩ := hone k (by omega)
        refine ⟨l ++ [x], by simp [h1], fun j y hj => ?_, fun y hy => ?_⟩
        · rw [List.getElem?_append] at hj
          split at hj
          · exact h2 j y hj
          · rename_i hge
            rw [h1] at hge hj
            have : j = k := by
              have := (List.getElem?_eq_some_iff.1 hj).1
              simp at this
              omega
            subst this
            simp at hj
            subst hj
            exact ⟨hx1, hx2⟩
        · rcases List.mem_append.1 hy with hy | hy
          · exact h3 y hy
          · simp at hy; subst hy; exact hx3
    obtain ⟨l, h1, h2, h3⟩ := hch l0 (Nat.le_refl _)
    refine ⟨l, ⟨some a, _, by rw [h1], by rw [h1]; exact hl, hm, ?_, by simp⟩, h3⟩
    by_cases h0 : l0 = 0
    · left
      rw [h0] at h1
      rw [List.eq_nil_of_length_eq_zero h1]; rfl
    · right
      obtain ⟨x0, hx0⟩ : ∃ x, l[0]? = some x := ⟨_, List.getElem?_eq_getElem (by omega)⟩
      obtain ⟨b, off, spot⟩ := a
      have hsp : spot = none := by
        have := World.cell?_spot (h2 0 x0 hx0).1
        simpa [Addr.add] using this
      subst hsp
      refine ⟨b, off, rfl, fun j u hj => ?_⟩
      have hjl : j < l0 * 2 := by
        have := (List.getElem?_eq_some_iff.1 hj).1
        rwa [pairs_length, h1] at this
      obtain ⟨x, hx⟩ : ∃ x, l[j / 2]? = some x := ⟨_, List.getElem?_eq_getElem (by omega)⟩
      have hp := pairs_get hx
      have hcl := h2 _ x hx
      simp only [add_none] at hcl
      rcases Nat.mod_two_eq_zero_or_one j with e | e
      · obtain ⟨i, rfl⟩ : ∃ i, j = i * 2 := ⟨j / 2, by omega⟩
        rw [Nat.mul_div_cancel _ (by decide)] at hp hcl
        rw [hp.1] at hj
        rw [hcl.1, hj]
      · obtain ⟨i, rfl⟩ : ∃ i, j = i * 2 + 1 := ⟨j / 2, by omega⟩
        rw [show (i * 2 + 1) / 2 = i by omega] at hp hcl
        rw [hp.2] at hj
        rw [← Nat.add_assoc, hcl.2, hj]

/-- an array of small numbers -/
theorem arr_cells {t e : TypeId} {n : Nat} {k : IntKind} {cs : List Value} {fuel : Nat} {x : DataW H × List MemPlace} (ht : P.underlying t = some (.array n e)) (he : P.underlying e = some (.int k)) (hc : P.cellsOf e = 1)
    (h : DataW.trod enc P w 0 (fun _ => true) true fuel t cs = some x) : ∀ i, i < n → i < cs.length → ∃ y, cs[i]? = some (.int k y) ∧ (Lit.int k y).wf = true := by
  intro i hi hil
  obtain ⟨xs, m, _, _, hl, hxs, hf⟩ := DataW.trod_array ht h
  have := hf i hi
  rw [hc, Nat.mul_one] at this
  obtain ⟨y, hy⟩ : ∃ y, xs[i]? = some y := ⟨_, List.getElem?_eq_getElem (by omega)⟩
  rw [hy, show (cs.drop i).take 1 = [cs[i]] from by rw [List.drop_eq_getElem_cons hil]; rfl] at this
  obtain ⟨z, hz, _, hw⟩ := DataW.trod_int he this
  exact ⟨z, by rw [List.getElem?_eq_getElem hil]; simpa using hz, hw⟩
end

section
variable {H : Type} {enc : TypeId × Value → H} {w : World}

set_option maxRecDepth 100000 in
/-- a bank -/
theorem arg_bank {base : Nat} {v : Value} {d : DataW H} {ps : List MemPlace} (hval : Value.okWide Try.prog w .any base 24 v) (h : DataW.Trod enc Try.prog w 0 (fun _ => true) true 24 v d ps) :
    ∃ u m, v = .agg #[u] ∧ RdM w u m ∧ ∀ r ∈ m, ∀ x ∈ r, (Lit.int .i64 x).wf = true := by
  obtain ⟨cs, rfl, hs⟩ := okWide_struct Try.underlying24 hval
  have hs1 : Try.prog.cellsOf 24 = 1 := by kernel_rfl
  rw [hs1] at hs
  obtain ⟨u, rfl⟩ : ∃ u, cs = #[u] := by
    match cs, hs with
    | ⟨[u]⟩, _ => exact ⟨u, rfl⟩
  obtain ⟨fuel, hf⟩ := h
  obtain ⟨y0, n, _, _, h0⟩ := trod_struct1 Try.underlying24 hf
  have hc : Try.prog.cellsOf 22 = 1 := by kernel_rfl
  have h1 : DataW.trod enc Try.prog w 0 (fun _ => true) true n 22 [u] = some y0 := by simpa [Value.cells, hc] using h0
  have hsl : ∃ a l c, u = .slice a l c := by
    rcases Deep.open_slice1 Try.underlying22 (by kernel_rfl) h1 with ⟨hcs, _⟩ | ⟨a, len, cap, m, n, V, D, Pl, hcs, _⟩
    · simp at hcs; exact ⟨_, _, _, hcs⟩
    · simp at hcs; exact ⟨_, _, _, hcs⟩
  obtain ⟨m, hm, hw⟩ := arg_mat (d := y0.1) (ps := y0.2) Try.underlying22 Try.underlying28 Try.underlying3 (by kernel_rfl) (by kernel_rfl) hsl ⟨n, by obtain ⟨a, l, c, rfl⟩ := hsl; simpa [Value.cells] using h1⟩
  exact ⟨u, m, rfl, hm, hw⟩

set_option maxRecDepth 100000 in
/-- two small numbers -/
theorem arg_two {base : Nat} {t e : TypeId} {k : IntKind} {v : Value} {d : DataW H} {ps : List MemPlace} (ht : Try.prog.underlying t = some (.array 2 e)) (he : Try.prog.underlying e = some (.int k)) (hc : Try.prog.cellsOf e = 1) (hs1 : Try.prog.cellsOf t = 2)
    (hval : Value.okWide Try.prog w .any base t v) (h : DataW.Trod enc Try.prog w 0 (fun _ => true) true t v d ps) :
    ∃ a b, v = .agg #[.int k a, .int k b] ∧ (Lit.int k a).wf = true ∧ (Lit.int k b).wf = true := by
  obtain ⟨cs, rfl, hs⟩ := okWide_array ht hval
  rw [hs1] at hs
  obtain ⟨u0, u1, rfl⟩ : ∃ u0 u1, cs = #[u0, u1] := by
    match cs, hs with
    | ⟨[u0, u1]⟩, _ => exact ⟨u0, u1, rfl⟩
  obtain ⟨fuel, hf⟩ := h
  obtain ⟨a, ha, wa⟩ := arr_cells ht he hc hf 0 (by decide) (by simp [Value.cells])
  obtain ⟨b, hb, wb⟩ := arr_cells ht he hc hf 1 (by decide) (by simp [Value.cells])
  simp [Value.cells] at ha hb
  subst ha hb
  exact ⟨a, b, rfl, wa, wb⟩
set_option maxRecDepth 100000 in
/-- three small numbers -/
theorem arg_three {base : Nat} {t e : TypeId} {k : IntKind} {v : Value} {d : DataW H} {ps : List MemPlace} (ht : Try.prog.underlying t = some (.array 3 e)) (he : Try.prog.underlying e = some (.int k)) (hc : Try.prog.cellsOf e = 1) (hs1 : Try.prog.cellsOf t = 3)
    (hval : Value.okWide Try.prog w .any base t v) (h : DataW.Trod enc Try.prog w 0 (fun _ => true) true t v d ps) :
    ∃ a b c, v = .agg #[.int k a, .int k b, .int k c] ∧ (Lit.int k a).wf = true ∧ (Lit.int k b).wf = true ∧ (Lit.int k c).wf = true := by
  obtain ⟨cs, rfl, hs⟩ := okWide_array ht hval
  rw [hs1] at hs
  obtain ⟨u0, u1, u2, rfl⟩ : ∃ u0 u1 u2, cs = #[u0, u1, u2] := by
    match cs, hs with
    | ⟨[u0, u1, u2]⟩, _ => exact ⟨u0, u1, u2, rfl⟩
  obtain ⟨fuel, hf⟩ := h
  obtain ⟨a, ha, wa⟩ := arr_cells ht he hc hf 0 (by decide) (by simp [Value.cells])
  obtain ⟨b, hb, wb⟩ := arr_cells ht he hc hf 1 (by decide) (by simp [Value.cells])
  obtain ⟨c, hc', wc⟩ := arr_cells ht he hc hf 2 (by decide) (by simp [Value.cells])
  simp [Value.cells] at ha hb hc'
  subst ha hb hc'
  exact ⟨a, b, c, rfl, wa, wb, wc⟩

set_option maxRecDepth 100000 in
/-- a list of ratios -/
theorem arg_rats {base : Nat} {v : Value} {d : DataW H} {ps : List MemPlace} (hval : Value.okWide Try.prog w .any base 40 v) (h : DataW.Trod enc Try.prog w 0 (fun _ => true) true 40 v d ps) :
    ∃ l, RdP w v l ∧ ∀ x ∈ l, (Lit.int .i64 x.1).wf = true ∧ (Lit.int .i64 x.2).wf = true :=
  arg_pairs Try.underlying40 (by kernel_rfl) (fun n cs y hy => by
    obtain ⟨y0, y1, n, _, hl, h0, h1⟩ := trod_struct2 Try.underlying69 hy
    have hs1 : Try.prog.cellsOf 69 = 2 := by kernel_rfl
    have hc : Try.prog.cellsOf 3 = 1 := by kernel_rfl
    rw [hs1] at hl
    match cs, hl with
    | [u0, u1], _ =>
      simp [hc] at h0 h1
      obtain ⟨a, ha, _, wa⟩ := DataW.trod_int Try.underlying3 h0
      obtain ⟨b, hb, _, wb⟩ := DataW.trod_int Try.underlying3 h1
      simp at ha hb
      subst ha hb
      exact ⟨a, b, rfl, wa, wb⟩) (okWide_slice Try.underlying40 hval) h
set_option maxRecDepth 100000 in
/-- a list of pairs -/
theorem arg_steps {base : Nat} {v : Value} {d : DataW H} {ps : List MemPlace} (hval : Value.okWide Try.prog w .any base 33 v) (h : DataW.Trod enc Try.prog w 0 (fun _ => true) true 33 v d ps) :
    ∃ l, RdP w v l ∧ ∀ x ∈ l, (Lit.int .i64 x.1).wf = true ∧ (Lit.int .i64 x.2).wf = true :=
  arg_pairs Try.underlying33 (by kernel_rfl) (fun n cs y hy => by
    obtain ⟨xs, m, _, _, hl, _⟩ := DataW.trod_array Try.underlying36 hy
    have hs1 : Try.prog.cellsOf 36 = 2 := by kernel_rfl
    rw [hs1] at hl
    match cs, hl, hy with
    | [u0, u1], _, hy =>
      obtain ⟨a, ha, wa⟩ := arr_cells Try.underlying36 Try.underlying3 (by kernel_rfl) hy 0 (by decide) (by simp)
      obtain ⟨b, hb, wb⟩ := arr_cells Try.underlying36 Try.underlying3 (by kernel_rfl) hy 1 (by decide) (by simp)
      simp at ha hb
      subst ha hb
      exact ⟨a, b, rfl, wa, wb⟩) (okWide_slice Try.underlying33 hval) h
set_option maxRecDepth 100000 in
/-- a bank with two lists -/
theorem arg_powers {base : Nat} {v : Value} {d : DataW H} {ps : List MemPlace} (hval : Value.okWide Try.prog w .any base 53 v) (h : DataW.Trod enc Try.prog w 0 (fun _ => true) true 53 v d ps) :
    ∃ u m v1 S1 v2 S2, v = .agg #[u, v1, v2] ∧ (RdM w u m ∧ ∀ r ∈ m, ∀ x ∈ r, (Lit.int .i64 x).wf = true) ∧ (Rd w v1 (ints S1) ∧ ∀ x ∈ S1, (Lit.int .i64 x).wf = true) ∧ (Rd w v2 (ints S2) ∧ ∀ x ∈ S2, (Lit.int .i64 x).wf = true) := by
  obtain ⟨cs, rfl, hs⟩ := okWide_struct Try.underlying53 hval
  have hs1 : Try.prog.cellsOf 53 = 3 := by kernel_rfl
  rw [hs1] at hs
  obtain ⟨u, v1, v2, rfl⟩ : ∃ u v1 v2, cs = #[u, v1, v2] := by
    match cs, hs with
    | ⟨[u, v1, v2]⟩, _ => exact ⟨u, v1, v2, rfl⟩
  obtain ⟨fuel, hf⟩ := h
  obtain ⟨xs, n, _, _, _, hxs, hfl⟩ := DataW.trod_struct Try.underlying53 hf
  have hb : Try.prog.cellsOf 24 = 1 := by kernel_rfl
  have hc : Try.prog.cellsOf 22 = 1 := by kernel_rfl
  have hc1 : Try.prog.cellsOf 28 = 1 := by kernel_rfl
  obtain ⟨y0, hy0⟩ : ∃ y, xs[0]? = some y := ⟨_, List.getElem?_eq_getElem (by simp at hxs; omega)⟩
  obtain ⟨y1, hy1⟩ : ∃ y, xs[1]? = some y := ⟨_, List.getElem?_eq_getElem (by simp at hxs; omega)⟩
  obtain ⟨y2, hy2⟩ : ∃ y, xs[2]? = some y := ⟨_, List.getElem?_eq_getElem (by simp at hxs; omega)⟩
  have g0 := hfl 0 _ rfl
  have g1 := hfl 1 _ rfl
  have g2 := hfl 2 _ rfl
  rw [hy0] at g0
  rw [hy1] at g1
  rw [hy2] at g2
  have k0 : DataW.trod enc Try.prog w 0 (fun _ => true) true n 24 [u] = some y0 := by simpa [Value.cells, hb] using g0
  have k1 : DataW.trod enc Try.prog w 0 (fun _ => true) true n 28 [v1] = some y1 := by simpa [Value.cells, hc1] using g1
  have k2 : DataW.trod enc Try.prog w 0 (fun _ => true) true n 28 [v2] = some y2 := by simpa [Value.cells, hc1] using g2
  have sl : ∀ (x : Value) (y : DataW H × List MemPlace), DataW.trod enc Try.prog w 0 (fun _ => true) true n 28 [x] = some y → ∃ a l c, x = .slice a l c := by
    intro x y h
    rcases Deep.open_slice1 Try.underlying28 (by kernel_rfl) h with ⟨hcs, _⟩ | ⟨a, len, cap, m, n, V, D, Pl, hcs, _⟩
    · simp at hcs; exact ⟨_, _, _, hcs⟩
    · simp at hcs; exact ⟨_, _, _, hcs⟩
  obtain ⟨S1, R1, W1⟩ := arg_ints (d := y1.1) (ps := y1.2) Try.underlying28 Try.underlying3 (by kernel_rfl) (sl v1 y1 k1) ⟨n, by obtain ⟨a, l, c, rfl⟩ := sl v1 y1 k1; simpa [Value.cells] using k1⟩
  obtain ⟨S2, R2, W2⟩ := arg_ints (d := y2.1) (ps := y2.2) Try.underlying28 Try.underlying3 (by kernel_rfl) (sl v2 y2 k2) ⟨n, by obtain ⟨a, l, c, rfl⟩ := sl v2 y2 k2; simpa [Value.cells] using k2⟩
  obtain ⟨z0, n0, _, _, h0⟩ := trod_struct1 Try.underlying24 k0
  have h1 : DataW.trod enc Try.prog w 0 (fun _ => true) true n0 22 [u] = some z0 := by simpa [hc] using h0
  have hsl : ∃ a l c, u = .slice a l c := by
    rcases Deep.open_slice1 Try.underlying22 (by kernel_rfl) h1 with ⟨hcs, _⟩ | ⟨a, len, cap, m, n, V, D, Pl, hcs, _⟩
    · simp at hcs; exact ⟨_, _, _, hcs⟩
    · simp at hcs; exact ⟨_, _, _, hcs⟩
  obtain ⟨m, hm, hw⟩ := arg_mat (d := z0.1) (ps := z0.2) Try.underlying22 Try.underlying28 Try.underlying3 (by kernel_rfl) (by kernel_rfl) hsl ⟨n0, by obtain ⟨a, l, c, rfl⟩ := hsl; simpa [Value.cells] using h1⟩
  exact ⟨u, m, v1, S1, v2, S2, rfl, ⟨hm, hw⟩, ⟨R1, W1⟩, ⟨R2, W2⟩⟩
end
end Go.Proofs.Ytnaoanmkepcinaa

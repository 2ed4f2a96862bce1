/- Layout: a table of rows of four numbers in memory. -/
import Derived.Test.YtpakkjkjppibnaaKHeap
import Derived.Test.YtpakkjkjppibnaaKGrid
namespace Go.Proofs.Ytpakkjkjppibnaa
open Go.RowKit

def quads (o : List (List Int)) : List Value := o.flatMap ints
def Four (o : List (List Int)) : Prop := ∀ r ∈ o, r.length = 4
theorem quads_cons (r : List Int) (o : List (List Int)) : quads (r :: o) = ints r ++ quads o := by simp [quads]
theorem Four.tail {r : List Int} {o : List (List Int)} (h : Four (r :: o)) : r.length = 4 ∧ Four o := ⟨h r (by simp), fun x hx => h x (by simp [hx])⟩
theorem quads_len : ∀ {o : List (List Int)}, Four o → (quads o).length = o.length * 4
  | [], _ => rfl
  | r :: o, h => by rw [quads_cons, List.length_append, ints_length, h.tail.1, quads_len h.tail.2, List.length_cons]; omega
theorem quads_cell (o : List (List Int)) : ∀ u ∈ quads o, u.oneCell' = true := fun u hu => by
  obtain ⟨r, _, h⟩ := List.mem_flatMap.1 hu
  exact ints_cell r u h
theorem quads_get : ∀ {o : List (List Int)}, Four o → ∀ {i d : Nat}, i < o.length → d < 4 → (quads o)[i * 4 + d]? = some (.int .i64 (outGet o i d))
  | r :: o, h, 0, d, _, hd => by
    obtain ⟨h4, h⟩ := h.tail
    rw [quads_cons, List.getElem?_append_left (by rw [ints_length]; omega), Nat.zero_mul, Nat.zero_add, ints_getD (by omega)]
    rfl
  | r :: o, h, i + 1, d, hi, hd => by
    obtain ⟨h4, h⟩ := h.tail
    rw [quads_cons, List.getElem?_append_right (by rw [ints_length]; omega), ints_length, h4, show (i + 1) * 4 + d - 4 = i * 4 + d by omega, quads_get h (by simpa using hi) hd]
    rfl
theorem ints_set (l : List Int) (i : Nat) (x : Int) : (ints l).set i (.int .i64 x) = ints (l.set i x) := by simp [ints]
theorem quads_set : ∀ {o : List (List Int)}, Four o → ∀ {i d : Nat}, d < 4 → ∀ (x : Int), (quads o).set (i * 4 + d) (.int .i64 x) = quads (outSet o i d x)
  | [], _, _, _, _, _ => rfl
  | r :: o, h, 0, d, hd, x => by
    obtain ⟨h4, h⟩ := h.tail
    rw [quads_cons, List.set_append, if_pos (by rw [ints_length]; omega), Nat.zero_mul, Nat.zero_add, ints_set]
    simp [outSet, quads]
  | r :: o, h, i + 1, d, hd, x => by
    obtain ⟨h4, h⟩ := h.tail
    rw [quads_cons, List.set_append, if_neg (by rw [ints_length]; omega), ints_length, h4, show (i + 1) * 4 + d - 4 = i * 4 + d by omega, quads_set h hd]
    simp [outSet, quads]
theorem quads_setRow : ∀ {o : List (List Int)}, Four o → ∀ {i : Nat}, ∀ (a b c d : Int), ((((quads o).set (i * 4) (.int .i64 a)).set (i * 4 + 1) (.int .i64 b)).set (i * 4 + 2) (.int .i64 c)).set (i * 4 + 3) (.int .i64 d) = quads (o.set i [a, b, c, d])
  | [], _, _, _, _, _, _ => rfl
  | r :: o, h, 0, a, b, c, d => by
    obtain ⟨h4, h⟩ := h.tail
    match r, h4 with
    | [r0, r1, r2, r3], _ => simp [quads, ints]
  | r :: o, h, i + 1, a, b, c, d => by
    obtain ⟨h4, h⟩ := h.tail
    have hl := ints_length r
    rw [quads_cons, List.set_append, if_neg (by omega), List.set_append, if_neg (by omega), List.set_append, if_neg (by omega), List.set_append, if_neg (by omega), hl, h4,
      show (i + 1) * 4 - 4 = i * 4 by omega, show (i + 1) * 4 + 1 - 4 = i * 4 + 1 by omega, show (i + 1) * 4 + 2 - 4 = i * 4 + 2 by omega, show (i + 1) * 4 + 3 - 4 = i * 4 + 3 by omega, quads_setRow h]
    simp [quads]
theorem four_set {o : List (List Int)} (h : Four o) (i : Nat) (r : List Int) (hr : r.length = 4) : Four (o.set i r) := fun x hx => by
  rcases List.mem_or_eq_of_mem_set hx with h1 | h1
  · exact h x h1
  · rw [h1]; exact hr
theorem FInv.four {g : Gr} {s : List Pl × List (List Int)} (h : FInv g s) : Four s.2 := fun r hr => by
  obtain ⟨i, hi, rfl⟩ := List.getElem_of_mem hr
  have := h.row i (by rw [← h.len]; exact hi)
  rwa [List.getD_eq_getElem?_getD, List.getElem?_eq_getElem hi] at this
/-- a table of the call's own reads as such -/
theorem own_fld {W : World} {B fb n c : Nat} {e : TypeId} {o : List (List Int)} (h : W.ownsRow B e 4 (.slice (some ⟨fb, 0, none⟩) n c) n (quads o)) (h4 : Four o) (hn : o.length = n) : FldAt W fb n o := fun i d hi hd => by
  rw [h.cellAt _ (by omega)]; exact quads_get h4 (by omega) hd
theorem own_setQuad {W : World} {B fb n c : Nat} {e : TypeId} {o : List (List Int)} (h : W.ownsRow B e 4 (.slice (some ⟨fb, 0, none⟩) n c) n (quads o)) (h4 : Four o) (i : Nat) (x0 x1 x2 x3 : Int) :
    ((((W.setCell ⟨fb, i * 4, none⟩ (.int .i64 x0)).setCell ⟨fb, i * 4 + 1, none⟩ (.int .i64 x1)).setCell ⟨fb, i * 4 + 2, none⟩ (.int .i64 x2)).setCell ⟨fb, i * 4 + 3, none⟩ (.int .i64 x3)).ownsRow B e 4 (.slice (some ⟨fb, 0, none⟩) n c) n (quads (o.set i [x0, x1, x2, x3])) := by
  have h5 := ((((h.stored (i * 4) (.int .i64 x0)).1.stored (i * 4 + 1) (.int .i64 x1)).1.stored (i * 4 + 2) (.int .i64 x2)).1.stored (i * 4 + 3) (.int .i64 x3)).1
  rwa [quads_setRow h4] at h5
theorem own_setOne {W : World} {B fb n c : Nat} {e : TypeId} {o : List (List Int)} (h : W.ownsRow B e 4 (.slice (some ⟨fb, 0, none⟩) n c) n (quads o)) (h4 : Four o) (i d : Nat) (hd : d < 4) (x : Int) :
    (W.setCell ⟨fb, i * 4 + d, none⟩ (.int .i64 x)).ownsRow B e 4 (.slice (some ⟨fb, 0, none⟩) n c) n (quads (outSet o i d x)) := by
  have h5 := (h.stored (i * 4 + d) (.int .i64 x)).1
  rwa [quads_set h4 hd] at h5

section
variable {P : Program} {ops : Array Oper} {rest : List Oper} {o : Oper} {a : Act} {Q : Exit → Act → World → Prop}
/-- 'make([]T, n)' of elements of more cells. -/
theorem mkK {t e : TypeId} {z : Value} {size bytes : Nat} (EO : ElemK P t e z size bytes) (hgd : o.guard = none) {l c : Operand} (ho : o.op = Op.makeSlice t l c)
    {W : World} {kl kc : IntKind} {L : Int} {n : Nat} (hl : a.eval l = .int kl L) (hc : a.eval c = .int kc L) (hL : L = (n : Int)) (hn : n ≤ 4000000)
    (h : ∀ w', w'.ownsRow W.heap.size e size (.slice (some ⟨W.heap.size, 0, none⟩) n n) n (madeCells z.cells (n * size)).toList → Below W.heap.size W w' →
      wpList P ops Q rest (a.put o.dst (.slice (some ⟨W.heap.size, 0, none⟩) n n)) w') : wpList P ops Q (o :: rest) a W := by
  obtain ⟨i, hi, hz, hsz, hby⟩ := EO.info
  have hsm := EO.small
  refine wpList_make_full W hgd l c t ho W.heap.size e i z size EO.und hi hz hsz kl kc L L n hl hc hL hL ?_ ?_ (Nat.le_refl _) ?_
  · have : i.bytes * n ≤ 96 * n := Nat.mul_le_mul_right _ (by omega)
    omega
  · unfold maxLen; omega
  · intro w' h1 h2
    exact h w' h1 ((Below.refl _ _).grown h2 (Nat.le_refl _) (fun k e => by cases e))
end
theorem made_quads (n : Nat) : (madeCells #[.int .i64 0, .int .i64 0, .int .i64 0, .int .i64 0] (n * 4)).toList = quads (List.replicate n [0, 0, 0, 0]) := by
  have h4 : Four (List.replicate n [0, 0, 0, 0]) := fun r hr => by rw [(List.mem_replicate.1 hr).2]; rfl
  have hl := quads_len h4
  rw [List.length_replicate] at hl
  apply List.ext_getElem
  · simp [madeCells, hl]
  · intro j h1 h2
    have hj : j < n * 4 := by rw [hl] at h2; exact h2
    have h5 := quads_get h4 (i := j / 4) (d := j % 4) (by rw [List.length_replicate]; omega) (by omega)
    rw [show j / 4 * 4 + j % 4 = j by omega, List.getElem?_eq_getElem h2] at h5
    have h6 : outGet (List.replicate n [0, 0, 0, 0]) (j / 4) (j % 4) = 0 := by
      unfold outGet
      rw [List.getD_eq_getElem?_getD (l := List.replicate n [0, 0, 0, 0]), List.getElem?_replicate, if_pos (by omega)]
      rcases (by omega : j % 4 = 0 ∨ j % 4 = 1 ∨ j % 4 = 2 ∨ j % 4 = 3) with e | e | e | e <;> rw [e] <;> rfl
    rw [h6] at h5
    rw [Option.some.inj h5]
    rcases (by omega : j % 4 = 0 ∨ j % 4 = 1 ∨ j % 4 = 2 ∨ j % 4 = 3) with e | e | e | e <;> simp [madeCells, e]
theorem el_quad : ElemK Try.prog 70 79 (.agg #[.int .i64 0, .int .i64 0, .int .i64 0, .int .i64 0]) 4 32 :=
  ⟨by kernel_rfl, info_parts (by kernel_rfl), by rfl, by decide, by decide⟩
end Go.Proofs.Ytpakkjkjppibnaa

/- Loops over functions whose loop variable is a slice that the function lays anew: a contract of what is handed over (Rx), and the law of such a loop; regions that draw, in a round. No condition but what each statement names. -/
import Derived.Test.YtnaoanmkepcinaaHPhA
namespace Go.Proofs.Ytnaoanmkepcinaa
open Go.RowKit Go.Shelf

theorem grown_trans {A B C : World} {X : Option Nat} (h : A.grownBy B X) (k : B.grownBy C X) : A.grownBy C X :=
  ⟨k.os.trans h.os, k.tape.trans h.tape, k.output.trans h.output, Nat.le_trans h.size k.size, fun i hi hne => (k.block i (Nat.lt_of_lt_of_le hi h.size) hne).trans (h.block i hi hne)⟩
theorem grown_none {A B : World} (h : A.grownBy B none) (X : Option Nat) : A.grownBy B X := ⟨h.os, h.tape, h.output, h.size, fun i hi _ => h.block i hi (by simp)⟩

/-- What a loop's body leaves behind. -/
def postR {α : Type} (X : Option Nat) (I : List α → World → Prop) (xs : List α) (W : World) : Exit → Act → World → Prop
  | .normal, _, W' => W.grownBy W' X ∧ I xs W'
  | _, _, _ => False
theorem postR_no {α : Type} {X : Option Nat} {I : List α → World → Prop} {xs : List α} {W : World} : ¬ LetsOut (postR X I xs W) := fun ⟨_, _, h⟩ => h

/-- A function hands over, one by one, xs with S xs; each x lies as Rx says; a round turns no block that lies but X. -/
def SeqR {α : Type} (P : Program) (g : Nat) (lb : Array Value) (encs : α → Array Value) (Rx : α → World → Prop) (X : Option Nat) (S : List α → Prop) (w0 : World) : Prop :=
  ∀ (l : Nat) (J : List α → World → Prop) (W : World), Below w0.heap.size w0 W → OwnFrom W.heap.size J →
    (∀ pre x W1, J pre W1 → Rx x W1 → YieldAt Fence.wide 0 P l (encs x) W1 fun e W' => e = .returned (.bool true) ∧ J (pre ++ [x]) W' ∧ W1.grownBy W' X) →
    J [] W → CallsIn Fence.wide 0 P g (#[.func (.yield l) #[] #[]] ++ lb) W fun e W' => (∃ v, e = .returned v) ∧ ∃ xs, S xs ∧ J xs W'

theorem rangeR {α : Type} {P : Program} {g : Operand} {ps : Array Tmp} {assign body : Code} {Q : Exit → Act → World → Prop} {a : Act} {w : World} {gf : Nat} {lb : Array Value}
    (hg : a.eval g = .func (.func gf) #[] lb) (eg : ∀ args w, (callFunc gf args).run P w = .ok (.enter gf args) w)
    {encs : α → Array Value} {Rx : α → World → Prop} {X : Option Nat} {S : List α → Prop} (hseq : SeqR P gf lb encs Rx X S w) (hX : ∀ k, X = some k → k < w.heap.size) (hps : ∀ x, (encs x).size = ps.size)
    (hRx : ∀ x, OwnFrom w.heap.size (fun (_ : Unit) W => Rx x W))
    (I : List α → World → Prop) (hI : OwnFrom w.heap.size I) (h0 : I [] w) (a₁ : α → Act)
    (hassign : ∀ (l : Nat) (x : α) (W : World) (K : Act → World → Prop), K (a₁ x) W →
      assign.wpIn (Fence.wide.inRound l) 0 P (Exit.then K (fun _ _ _ => False)) { tmps := (ps.zip (encs x)).foldl (fun t (p, v) => t.setIfInBounds p v) a.tmps, defers := [] } W)
    (hbody : ∀ (l : Nat) (pre : List α) (x : α) (W : World), w.heap.size ≤ l → (∃ r, W.heap[l]? = some (.loop r)) → I pre W → Rx x W → body.wpIn (Fence.wide.inRound l) 0 P (postR X I (pre ++ [x]) W) (a₁ x) W)
    (hdone : ∀ (D : Nat) (xs : List α) (W : World), w.heap.size ≤ D → S xs → I xs W → W.heap[D]? = some (.deferred (some [])) → Q .normal { a with defers := { target := .collected D, args := #[] } :: a.defers } W) :
    (Code.rangeFunc g ps assign body).wpIn Fence.wide 0 P Q a w := by
  refine wpIn_rangeFunc fun fn hfn => ?_
  obtain ⟨N, hN⟩ : ∃ N, w.heap.size = N := ⟨_, rfl⟩
  obtain ⟨L, hL⟩ : ∃ L : LoopState → Loop, L = fun st => { state := st, pending := none, fn, tmps := a.tmps, params := ps, assign, body, defers := w.heap.size } := ⟨_, rfl⟩
  have eD : (w.alloc (.deferred (some []))).heap.size = N + 1 := by rw [World.size_alloc, hN]
  obtain ⟨V, hV⟩ : ∃ V, (w.alloc (.deferred (some []))).alloc (.loop (L .ready)) = V := ⟨_, rfl⟩
  have vL : V.heap[N + 1]? = some (.loop (L .ready)) := by rw [← hV, ← eD]; exact World.alloc_heap_new _ _
  have vD : V.heap[N]? = some (.deferred (some [])) := by
    rw [← hV, ← hN]; exact (Below.heap_alloc _ _ _ (by simp)).trans (World.alloc_heap_new w _)
  have vI : I [] V := by rw [← hV]; exact hI.alloc _ (hI.alloc _ h0)
  have vB : Below w.heap.size w V := by rw [← hV]; exact ((Below.refl _ w).alloc (Nat.le_refl _) _).alloc (by simp) _
  have vS : V.heap.size = N + 2 := by rw [← hV]; simp; omega
  refine ⟨N + 1, [{ target := .collected N, args := #[] }], V, { target := .fn (.func gf) lb, args := #[.func (.yield (N + 1)) #[] #[]] }, V, gf, #[.func (.yield (N + 1)) #[] #[]] ++ lb, V, ?_, ?_, fun _ _ => trivial, ?_, fun h => by simp [Fence.wide] at h, ?_⟩
  · rw [← hV, hL, ← hN]; exact run_enterLoop_outer _ _ _ _ _
  · simp only [resolve, hg]; simp [go_sem]
  · simp [invoke, go_sem, eg]
  · refine (hseq (N + 1) (fun pre W => I pre W ∧ W.heap[N + 1]? = some (.loop (L .ready)) ∧ W.heap[N]? = some (.deferred (some []))) V vB ?_ ?_ ⟨vI, vL, vD⟩).mono ?_
    · intro s A B row ⟨i1, i2, i3⟩ hg' hr
      have hne : ∀ k, k < N + 2 → some k ≠ row := fun k hk e => by have := (hr k e.symm).1; omega
      refine ⟨hI s A B row i1 hg' fun r e => ⟨by have := (hr r e).1; omega, (hr r e).2⟩, (hg'.block _ (Array.getElem?_eq_some_iff.1 i2).1 (hne _ (by omega))).trans i2, (hg'.block _ (Array.getElem?_eq_some_iff.1 i3).1 (hne _ (by omega))).trans i3⟩
    · rintro pre x W ⟨i1, i2, i3⟩ hx
      have hlt : N + 1 < W.heap.size := (Array.getElem?_eq_some_iff.1 i2).1
      have hy := run_yield (P := P) (args := encs x) i2 (by rw [hL]; exact hps x)
      rw [hL] at hy
      refine ⟨fn, _, assign, body, hy, roundIn_of_wpIn hfn (hassign _ x W _ ⟨_, run_beginRound i2 (by rw [hL]), ?_⟩)⟩
      obtain ⟨U, hU⟩ : ∃ U, W.putObj (N + 1) (.loop { L .ready with state := .busy }) = U := ⟨_, rfl⟩
      have uL : U.heap[N + 1]? = some (.loop { L .ready with state := .busy }) := by rw [← hU]; exact World.putObj_heap_same hlt
      have uD : U.heap[N]? = some (.deferred (some [])) := by rw [← hU]; exact (World.putObj_heap_other (by omega)).trans i3
      have uI : I pre U := by rw [← hU]; exact hI.putObj _ i1 (by omega) i2 rfl
      have uX : Rx x U := by rw [← hU]; exact (hRx x).putObj (s := ()) _ hx (by omega) i2 rfl
      have uG : W.grownBy U (some (N + 1)) := by rw [← hU]; exact grownBy_putObj' _ _ _
      rw [hU]
      refine wpIn_mono (hbody _ pre x U (by omega) ⟨_, uL⟩ uI uX) ?_
      rintro e a3 T hp
      cases e with
      | normal =>
        obtain ⟨tG, tI⟩ := hp
        have nX : ∀ k, N ≤ k → some k ≠ X := fun k hk e => by have := hX k e.symm; omega
        have tL := (tG.block _ (Array.getElem?_eq_some_iff.1 uL).1 (nX _ (by omega))).trans uL
        have tD := (tG.block _ (Array.getElem?_eq_some_iff.1 uD).1 (nX _ (Nat.le_refl _))).trans uD
        have hr := run_endRound (P := P) none tL
        have eR : ({ ({ L .ready with state := .busy } : Loop) with state := if (none : Option Code).isNone then .ready else .done, pending := none } : Loop) = L .ready := by rw [hL]; rfl
        rw [eR] at hr
        have htl : N + 1 < T.heap.size := (Array.getElem?_eq_some_iff.1 tL).1
        refine ⟨_, _, hr, rfl, ⟨hI.putObj _ tI (by omega) tL rfl, World.putObj_heap_same htl, (World.putObj_heap_other (by omega)).trans tD⟩, ?_⟩
        refine ⟨by rw [show (T.putObj (N + 1) _).os = T.os from rfl, tG.os, uG.os], by rw [show (T.putObj (N + 1) _).tape = T.tape from rfl, tG.tape, uG.tape], by rw [show (T.putObj (N + 1) _).output = T.output from rfl, tG.output, uG.output], by have := uG.size; have := tG.size; simp; omega, fun k hk hkX => ?_⟩
        by_cases e : k = N + 1
        · subst e
          rw [World.putObj_heap_same htl, i2]
        · rw [World.putObj_heap_other e, tG.block k (Nat.lt_of_lt_of_le hk uG.size) hkX, uG.block k hk (by simpa using e)]
      | ret => exact hp.elim
      | exit id => exact hp.elim
      | goto t => exact hp.elim
      | panic ch => exact hp.elim
      | outgrown => exact hp.elim
    · rintro e T ⟨⟨v, rfl⟩, xs, hS, tI, tL, tD⟩
      refine ⟨none, _, by have := run_endLoop (P := P) tL (by rw [hL]; simp); rw [hL] at this; exact this, ?_⟩
      exact hdone N xs _ (by omega) hS (hI.putObj _ tI (by omega) tL rfl) ((World.putObj_heap_other (by omega)).trans tD)

/-! ### A region that draws its order, in a round, with calls of yield -/
theorem anyIn_round {l n : Nat} {P : Program} {ops : List Oper} {Q : Exit → Act → World → Prop} {md : Region.Mode} (hnd : noDefer ops = true) :
    ∀ (fuel : Nat) (listed : Array Bool) (a : Act) (w : World), wpAnyIn Fence.wide n P md ops.toArray Q fuel listed a w → wpAnyIn (Fence.wide.inRound l) n P md ops.toArray Q fuel listed a w
  | 0, _, _, _, h => h
  | fuel + 1, listed, a, w, h => by
    refine ⟨h.1, fun i hi => ?_⟩
    refine wpOpIn_mono (fun a' w' h' => anyIn_round hnd fuel _ a' w' h') ?_
    have h2 := h.2 i hi
    unfold wpOpIn at h2 ⊢
    cases ho : ops.toArray[i]? with
    | none => rw [ho] at h2; exact h2
    | some o =>
      rw [ho] at h2
      simp only at h2 ⊢
      split
      · rename_i hw
        rw [if_pos hw] at h2
        refine ⟨h2.1, ?_⟩
        have h3 := h2.2
        rw [Oper.semAt_eq _ _ _ (noDefer_spec hnd i o ho)] at h3 ⊢
        generalize (execOp a.eval o).run P w = r at *
        cases r with
        | ok x w' => cases x <;> exact h3
        | halt x w' => cases x <;> exact h3
      · rename_i hw
        rw [if_neg hw] at h2
        exact h2
theorem region_roundIn {l n id : Nat} {P : Program} {ops : List Oper} {Q : Exit → Act → World → Prop} {a : Act} {w : World} (hm : P.follows .mixedOrders = true) (hnd : noDefer ops = true)
    (h : wpAnyIn Fence.wide n P .any ops.toArray Q ops.toArray.size (Array.replicate ops.toArray.size false) a w.drew) : (Code.region id ops.toArray true).wpIn (Fence.wide.inRound l) n P Q a w :=
  wpIn_region_any hm (anyIn_round hnd _ _ _ _ h)

end Go.Proofs.Ytnaoanmkepcinaa

/- Heat: appends and copies in drawn regions; rows exchanged, a row copied; what becomes of the determinant. -/
import Derived.Test.YtnaoanmkepcinaaHPair
import Derived.Laws.CopyOwn
namespace Go.Proofs.Ytnaoanmkepcinaa
open Go.RowKit

theorem el_row1 : ElemK Try.prog 22 28 (.slice none 0 0) 1 24 :=
  ⟨by kernel_rfl, info_parts (by kernel_rfl), by rfl, by decide, by decide⟩
theorem el_int1 : ElemK Try.prog 28 3 (.int .i64 0) 1 8 :=
  ⟨by kernel_rfl, info_parts (by kernel_rfl), by rfl, by decide, by decide⟩

section
variable {P : Program} {ops : Array Oper} {o : Oper} {a : Act} {K : Act → World → Prop} {Q : Exit → Act → World → Prop} {E : Prop}
/-- 'append(s, x...)' of one-cell elements, as a step of a region that draws. -/
theorem stepS {t e : TypeId} {z : Value} {bytes : Nat} (EO : ElemK P t e z 1 bytes) (hgd : o.guard = none) {s x : Operand}
    (ho : o.op = .call { callee := .builtin .append, args := #[s, x], argTypes := #[t, t] })
    {B : Nat} {W : World} {v : Value} {n m c : Nat} {xs ys : List Value} {ad : Addr} (hs : a.eval s = v) (hx : a.eval x = .slice (some ad) m c) (hl : ys.length = m) (hnews : ∀ j u, ys[j]? = some u → W.cell? (ad.add j) = some u)
    (h1 : ∀ u ∈ ys, u.oneCell' = true) (hm : 0 < m) (hn : n + m ≤ 4000000) (hB : B ≤ W.heap.size) (hown : W.ownsRow B e 1 v n xs)
    (h : ∀ g cap w', w'.ownsRow B e 1 (.slice (some ⟨g, 0, none⟩) (n + m) cap) (n + m) (xs ++ ys) → W.grownBy w' v.ownBlock → (v.ownBlock = some g ∨ g = W.heap.size) → g < w'.heap.size →
      K (a.put o.dst (.slice (some ⟨g, 0, none⟩) (n + m) cap)) w') : if Region.wanted o (yielded ops a.tmps) = true then Oper.wp P o a W K Q else E := by
  obtain ⟨i, hi, hz, hsz, hby⟩ := EO.info
  have hsm := EO.small
  refine step_append_lies W hgd s x t ho B e i z 1 bytes EO.und hi hz hsz hby EO.zc EO.pos v n xs hs hown ad m c ys hx (by omega) hnews h1 hm (by unfold maxLen; omega) ?_ hB W.heap.size rfl h
  have : (n + m) * bytes ≤ (n + m) * 96 := Nat.mul_le_mul_left _ hsm
  omega
/-- 'copy(d, s)' into a row that is known whole, as a step of a region that draws. -/
theorem stepCopy {W : World} (hgd : o.guard = none) {d s : Operand} {dT sT elem : TypeId} (ho : o.op = .call { callee := .builtin .copy, args := #[d, s], argTypes := #[dT, sT] }) (hu : P.underlying dT = some (.slice elem)) (hsz : (P.info? elem).map (·.size) = some 1)
    {g n dCap sCap : Nat} {ad : Addr} (hd : a.eval d = .slice (some ⟨g, 0, none⟩) n dCap) (hs : a.eval s = .slice (some ad) n sCap) {cur : Array Value} {t : TypeId} (hg : W.heap[g]? = some (.cells cur t (0, 0))) {cs : List Value} (hn : cs.length = n)
    (hsrc : ∀ j v, cs[j]? = some v → W.cell? (ad.add j) = some v) (hfit : cs.length ≤ cur.size) (h1 : ∀ v ∈ cs, v.oneCell' = true)
    (h : K (a.put o.dst (goInt cs.length)) (W.setRow g (cs ++ cur.toList.drop cs.length).toArray)) :
    if Region.wanted o (yielded ops a.tmps) = true then Oper.wp P o a W K Q else E := by
  have hw : Region.wanted o (yielded ops a.tmps) = true := by simp [Region.wanted, hgd]
  rw [if_pos hw]
  have hrun := run_copy_row (P := P) W dT sT o.type elem g 0 n dCap ad n sCap cur t cs hu hsz hg (by rw [hn]; exact (Nat.min_self n).symm) hsrc (by omega) h1
  simp only [List.take_zero, List.nil_append, Nat.zero_add] at hrun
  unfold Oper.wp
  simp [execOp, ho, resolve, invoke, builtin, hd, hs, hrun, Result.andThen]
  exact h
end

/-- A row that is owned, after a copy over the whole of it. -/
theorem own_setRow {w : World} {B n g cap : Nat} {e : TypeId} {xs cs : List Value} (h : w.ownsRow B e 1 (.slice (some ⟨g, 0, none⟩) n cap) n xs) (hn : cs.length = n) :
    ∃ cur : Array Value, w.heap[g]? = some (.cells cur e (0, 0)) ∧ cs.length ≤ cur.size ∧ (w.setRow g (cs ++ cur.toList.drop cs.length).toArray).ownsRow B e 1 (.slice (some ⟨g, 0, none⟩) n cap) n cs ∧ w.grownBy (w.setRow g (cs ++ cur.toList.drop cs.length).toArray) (some g) := by
  rcases h.2 with ⟨h', _⟩ | ⟨g', cap', cur, h', hb, hg, hnc, hcm, hcs, htake⟩
  · simp at h'
  · simp only [Value.slice.injEq, Option.some.injEq, Addr.mk.injEq, and_true, true_and] at h'
    obtain ⟨rfl, rfl⟩ := h'
    refine ⟨cur, hg, by rw [hcs]; omega, ⟨by simpa using hn, .inr ⟨g, cap, _, rfl, hb, setRow_heap w g cur _ e _ hg, hnc, hcm, ?_, ?_⟩⟩, ⟨rfl, rfl, rfl, by simp [World.setRow], fun k _ hk => setRow_other w g k _ (fun e => hk (by simp [e]))⟩⟩
    · simp only [List.size_toArray, List.length_append, List.length_drop, Array.length_toList]
      omega
    · simp [hn]

/-- Two headers exchanged. -/
theorem OwnT.swap {w : World} {B g cap n i k : Nat} {vs : List Value} {m : List (List Int)} {x y : Value} {r s : List Int} (h : OwnT w B (.slice (some ⟨g, 0, none⟩) n cap) vs m) (_hik : i ≠ k)
    (hx : vs[i]? = some x) (hy : vs[k]? = some y) (hr : m[i]? = some r) (hs : m[k]? = some s) :
    OwnT ((w.setCell ⟨g, i, none⟩ y).setCell ⟨g, k, none⟩ x) B (.slice (some ⟨g, 0, none⟩) n cap) ((vs.set i y).set k x) ((m.set i s).set k r) ∧
      ∀ (e : TypeId) (B' n' size : Nat) (u : Value) (us : List Value), e ≠ 28 → w.ownsRow B' e size u n' us → ((w.setCell ⟨g, i, none⟩ y).setCell ⟨g, k, none⟩ x).ownsRow B' e size u n' us := by
  have hil := (List.getElem?_eq_some_iff.1 hx).1
  have hkl := (List.getElem?_eq_some_iff.1 hy).1
  have hl := h.len
  have hn : n = m.length := by
    rcases h.top.2 with ⟨h', _⟩ | ⟨_, _, _, h', _⟩
    · simp at h'
    · simp only [Value.slice.injEq] at h'; exact h'.2.1
  have ht := h.top
  rw [← hn] at ht
  have h1 := ht.stored i y
  have h2 := h1.1.stored k x
  have hother : ∀ (e : TypeId) (B' n' size : Nat) (u : Value) (us : List Value), e ≠ 28 → w.ownsRow B' e size u n' us → ((w.setCell ⟨g, i, none⟩ y).setCell ⟨g, k, none⟩ x).ownsRow B' e size u n' us := by
    intro e B' n' size u us hne ho
    have q1 := ho.kept h1.2 (own_ne ho ht hne)
    exact q1.kept h2.2 (own_ne q1 h1.1 hne)
  refine ⟨⟨by rw [List.length_set, List.length_set, ← hn]; exact h2.1, fun j z q hz hq => ?_, fun j z hz => ?_, fun e => ?_⟩, hother⟩
  · have hzq : w.ownsRow B 3 1 z q.length (ints q) := by
      rw [List.getElem?_set] at hz hq
      by_cases e1 : k = j
      · subst e1
        rw [if_pos rfl, if_pos (by rw [List.length_set]; exact hkl)] at hz
        rw [if_pos rfl, if_pos (by rw [List.length_set]; omega)] at hq
        obtain rfl := Option.some.inj hz
        obtain rfl := Option.some.inj hq
        exact h.row i x r hx hr
      · rw [if_neg e1, List.getElem?_set] at hz hq
        by_cases e2 : i = j
        · subst e2
          rw [if_pos rfl, if_pos hil] at hz
          rw [if_pos rfl, if_pos (by omega)] at hq
          obtain rfl := Option.some.inj hz
          obtain rfl := Option.some.inj hq
          exact h.row k y s hy hs
        · rw [if_neg e2] at hz hq
          exact h.row j z q hz hq
    exact hother _ _ _ _ _ _ (by decide) hzq
  · rw [List.getElem?_set] at hz
    by_cases e1 : k = j
    · subst e1
      rw [if_pos rfl, if_pos (by rw [List.length_set]; exact hkl)] at hz
      obtain rfl := Option.some.inj hz
      exact h.fat i x hx
    · rw [if_neg e1, List.getElem?_set] at hz
      by_cases e2 : i = j
      · subst e2
        rw [if_pos rfl, if_pos hil] at hz
        obtain rfl := Option.some.inj hz
        exact h.fat k y hy
      · rw [if_neg e2] at hz
        exact h.fat j z hz
  · have : m = [] := List.eq_nil_of_length_eq_zero (by have := congrArg List.length e; simpa using this)
    have := h.nil this
    simp at this

theorem vB_put {m : List (List Int)} (h : vB m = true) {i : Nat} {r : List Int} (hr : rowB m.length r = true) : vB (m.set i r) = true := by
  unfold vB at h ⊢
  rw [List.length_set]
  rw [Bool.and_eq_true] at h ⊢
  refine ⟨h.1, ?_⟩
  rw [List.all_eq_true] at h ⊢
  intro s hs
  rcases List.mem_or_eq_of_mem_set hs with hs | rfl
  · exact h.2 s hs
  · exact hr
theorem vB_row {m : List (List Int)} (h : vB m = true) {i : Nat} {r : List Int} (hr : m[i]? = some r) : rowB m.length r = true := by
  unfold vB at h
  rw [Bool.and_eq_true, List.all_eq_true] at h
  exact h.2 r (List.mem_of_getElem? hr)
theorem at2_row {m : List (List Int)} {j : Nat} {r : List Int} (h : m[j]? = some r) : at2 m j = fun c => r.getD c 0 := by
  funext c
  unfold at2
  rw [List.getD_eq_getElem?_getD (l := m), h]; rfl
/-- two rows exchanged -/
theorem dt_swap {m : List (List Int)} {i k : Nat} {r s : List Int} (hr : m[i]? = some r) (hs : m[k]? = some s) (hik : i ≠ k) : dt m.length ((m.set i s).set k r) = -dt m.length m := by
  have hi := (List.getElem?_eq_some_iff.1 hr).1
  have hk := (List.getElem?_eq_some_iff.1 hs).1
  rw [dt_D m.length m, ← D_swap hi hk hik]
  refine at2_ext fun a b _ _ => ?_
  unfold sw
  by_cases e1 : a = i
  · subst e1
    rw [if_pos rfl, at2_row hs]
    have : ((m.set a s).set k r)[a]? = some s := by rw [List.getElem?_set_ne (fun e => hik e.symm), List.getElem?_set_self hi]
    rw [at2_row this]
  · rw [if_neg e1]
    by_cases e2 : a = k
    · subst e2
      rw [if_pos rfl, at2_row hr]
      have : ((m.set i s).set a r)[a]? = some r := by rw [List.getElem?_set_self (by rw [List.length_set]; exact hk)]
      rw [at2_row this]
    · rw [if_neg e2]
      unfold at2
      rw [List.getD_eq_getElem?_getD (l := (m.set i s).set k r), List.getD_eq_getElem?_getD (l := m), List.getElem?_set_ne (fun e => e2 e.symm), List.getElem?_set_ne (fun e => e1 e.symm)]
/-- a row that is there twice -/
theorem dt_twice {m : List (List Int)} {i k : Nat} {s : List Int} (hi : i < m.length) (hs : m[k]? = some s) (hik : i ≠ k) : dt m.length (m.set i s) = 0 := by
  have hk := (List.getElem?_eq_some_iff.1 hs).1
  rw [dt_D]
  refine D_twice hi hk hik _ ?_
  have h1 : (m.set i s)[i]? = some s := List.getElem?_set_self hi
  have h2 : (m.set i s)[k]? = some s := by rw [List.getElem?_set_ne hik, hs]
  rw [at2_row h1, at2_row h2]

end Go.Proofs.Ytnaoanmkepcinaa

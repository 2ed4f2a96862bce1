/- Heat: rows of ratios that grow; the inverse as a table. -/
import Derived.Test.YtnaoanmkepcinaaHRefSolve2
import Derived.Test.YtnaoanmkepcinaaDetLaw
import Derived.Deep.AppendLies
import Derived.Deep.RegionLaw
namespace Go.Proofs.Ytnaoanmkepcinaa
open Go.RowKit

theorem el_rrow : ElemOk Try.prog 43 40 (.slice none 0 0) 24 :=
  ⟨by kernel_rfl, info_parts (by kernel_rfl), by rfl, by decide⟩

section
variable {P : Program} {ops : Array Oper} {o : Oper} {a : Act} {K : Act → World → Prop} {Q : Exit → Act → World → Prop} {E : Prop}
/-- 'append' of one element of k cells, as a step of a region that draws; and where the new value lies. -/
theorem stepK {t e : TypeId} {z : Value} {size bytes : Nat} (EO : ElemK P t e z size bytes) (hgd : o.guard = none) {s x : Operand}
    (ho : o.op = .call { callee := .builtin .append, args := #[s, x], argTypes := #[t, t] })
    {w0 W : World} {v : Value} {n B c : Nat} {xs : List Value} {cur : Array Value} {fr : Nat × Nat} (hs : a.eval s = v) (hx : a.eval x = .slice (some ⟨B, 0, none⟩) 1 c) (hB : W.heap[B]? = some (.cells cur e fr))
    (hbel : Below w0.heap.size w0 W) (hown : W.ownsRow w0.heap.size e size v n xs) (hk : cur.size = size) (h1 : ∀ u ∈ cur.toList, u.oneCell' = true) (hn : n ≤ 4000000)
    (h : ∀ g cap w', w'.ownsRow w0.heap.size e size (.slice (some ⟨g, 0, none⟩) (n + 1) cap) (n + 1) (xs ++ cur.toList) → W.grownBy w' v.ownBlock → (v.ownBlock = some g ∨ g = W.heap.size) → g < w'.heap.size → Below w0.heap.size w0 w' →
      K (a.put o.dst (.slice (some ⟨g, 0, none⟩) (n + 1) cap)) w') : if Region.wanted o (yielded ops a.tmps) = true then Oper.wp P o a W K Q else E := by
  obtain ⟨i, hi, hz, hsz, hby⟩ := EO.info
  have hsm := EO.small
  refine step_append_lies W hgd s x t ho w0.heap.size e i z size bytes EO.und hi hz hsz hby EO.zc EO.pos v n xs hs hown ⟨B, 0, none⟩ 1 c cur.toList hx (by simp [hk]) (World.news_of_block hB) h1 (by decide) (by unfold maxLen; omega) ?_ hbel.size W.heap.size rfl ?_
  · have : (n + 1) * bytes ≤ (n + 1) * 96 := Nat.mul_le_mul_left _ hsm
    omega
  · intro g cap w' h2 h3 h4 h5
    exact h g cap w' h2 h3 h4 h5 (hbel.grown h3 hbel.size (fun k e => (hown.lt k e).1))
end

/-- Rows of ratios, each with a block of its own. -/
structure OwnR (w : World) (B g cap n : Nat) (vs : List Value) (rows : List (List (Int × Int))) : Prop where
  top : w.ownsRow B 40 1 (.slice (some ⟨g, 0, none⟩) n cap) n vs
  len : rows.length = n
  row : ∀ (i : Nat) (x : Value) (r : List (Int × Int)), vs[i]? = some x → rows[i]? = some r → w.ownsRow B 69 2 x r.length (pairs r)
  apart : ∀ (i j : Nat) (x y : Value), i ≠ j → vs[i]? = some x → vs[j]? = some y → x.ownBlock = none ∨ x.ownBlock ≠ y.ownBlock
theorem OwnR.below {w w' : World} {B g cap n : Nat} {vs : List Value} {rows : List (List (Int × Int))} (h : OwnR w B g cap n vs rows) (hb : Below w.heap.size w w') : OwnR w' B g cap n vs rows :=
  ⟨own_below h.top hb, h.len, fun i x r hx hr => own_below (h.row i x r hx hr) hb, h.apart⟩
theorem OwnR.le {w : World} {B B' g cap n : Nat} {vs : List Value} {rows : List (List (Int × Int))} (h : OwnR w B g cap n vs rows) (hb : B' ≤ B) : OwnR w B' g cap n vs rows :=
  ⟨own_le h.top hb, h.len, fun i x r hx hr => own_le (h.row i x r hx hr) hb, h.apart⟩
/-- One row grows. -/
theorem OwnR.push {W w1 : World} {B g cap n i g' cap' : Nat} {vs : List Value} {rows : List (List (Int × Int))} {x : Value} {r : List (Int × Int)} {q : Int × Int} (h : OwnR W B g cap n vs rows)
    (hx : vs[i]? = some x) (hr : rows[i]? = some r) (ho : w1.ownsRow B 69 2 (.slice (some ⟨g', 0, none⟩) (r.length + 1) cap') (r.length + 1) (pairs (r ++ [q]))) (hg : W.grownBy w1 x.ownBlock)
    (hat : x.ownBlock = some g' ∨ W.heap.size ≤ g') :
    OwnR (w1.setCell ⟨g, i, none⟩ (.slice (some ⟨g', 0, none⟩) (r.length + 1) cap')) B g cap n (vs.set i (.slice (some ⟨g', 0, none⟩) (r.length + 1) cap')) (rows.set i (r ++ [q])) ∧ w1.ownsRow B 40 1 (.slice (some ⟨g, 0, none⟩) n cap) n vs := by
  have htop := h.top.kept hg (own_ne h.top (h.row i x r hx hr) (by decide))
  have hil := (List.getElem?_eq_some_iff.1 hx).1
  have hirl := (List.getElem?_eq_some_iff.1 hr).1
  have hst := htop.stored i (.slice (some ⟨g', 0, none⟩) (r.length + 1) cap')
  have hnew : (w1.setCell ⟨g, i, none⟩ (.slice (some ⟨g', 0, none⟩) (r.length + 1) cap')).ownsRow B 69 2 (.slice (some ⟨g', 0, none⟩) (r.length + 1) cap') (r.length + 1) (pairs (r ++ [q])) :=
    ho.kept hst.2 (own_ne ho htop (by decide))
  have hold : ∀ j y s, j ≠ i → vs[j]? = some y → rows[j]? = some s → (w1.setCell ⟨g, i, none⟩ (.slice (some ⟨g', 0, none⟩) (r.length + 1) cap')).ownsRow B 69 2 y s.length (pairs s) := by
    intro j y s hji hy hs
    have h1 := (h.row j y s hy hs).kept hg (h.apart j i y x hji hy hx)
    exact h1.kept hst.2 (own_ne h1 htop (by decide))
  have hap : ∀ j y, j ≠ i → vs[j]? = some y → y.ownBlock = none ∨ y.ownBlock ≠ some g' := by
    intro j y hji hy
    rcases hat with hat | hat
    · rw [← hat]; exact h.apart j i y x hji hy hx
    · have hvl : vs.length = n := by have := h.top.1; simpa using this
      obtain ⟨s, hs⟩ : ∃ s, rows[j]? = some s := ⟨_, List.getElem?_eq_getElem (by have := (List.getElem?_eq_some_iff.1 hy).1; rw [h.len]; omega)⟩
      exact own_old (h.row j y s hy hs) hat
  refine ⟨⟨hst.1, by rw [List.length_set]; exact h.len, fun j y s hy hs => ?_, fun j k y z hjk hy hz => ?_⟩, htop⟩
  · rw [List.getElem?_set] at hy hs
    by_cases e : i = j
    · subst e
      rw [if_pos rfl, if_pos hil] at hy
      rw [if_pos rfl, if_pos hirl] at hs
      obtain rfl := Option.some.inj hy
      obtain rfl := Option.some.inj hs
      rw [List.length_append]
      exact hnew
    · rw [if_neg e] at hy hs
      exact hold j y s (fun h => e h.symm) hy hs
  · rw [List.getElem?_set] at hy hz
    by_cases e1 : i = j
    · subst e1
      rw [if_pos rfl, if_pos hil] at hy
      rw [if_neg hjk] at hz
      obtain rfl := Option.some.inj hy
      rcases hap k z (fun h => hjk h.symm) hz with h1 | h1
      · exact .inr (by rw [h1]; simp [Value.ownBlock])
      · exact .inr fun e => h1 (by rw [← e]; rfl)
    · rw [if_neg e1] at hy
      by_cases e2 : i = k
      · subst e2
        rw [if_pos rfl, if_pos hil] at hz
        obtain rfl := Option.some.inj hz
        exact hap j y (fun h => e1 h.symm) hy
      · rw [if_neg e2] at hz
        exact h.apart j k y z hjk hy hz

/-- one number of the inverse -/
def cf (m : List (List Int)) (i k : Nat) : Int := alt (i + k) * dt (m.length - 1) (wo m k i)
def rc (m : List (List Int)) (i k : Nat) : Int × Int := (rN (cf m i k) (dt m.length m), rD (cf m i k) (dt m.length m))
def rowL (m : List (List Int)) (j k : Nat) : List (Int × Int) := (List.range k).map (rc m j)
theorem rowL_len (m : List (List Int)) (j k : Nat) : (rowL m j k).length = k := by simp [rowL]
theorem rowL_succ (m : List (List Int)) (j k : Nat) : rowL m j (k + 1) = rowL m j k ++ [rc m j k] := by unfold rowL; rw [List.range_succ, List.map_append]; rfl
/-- the table of which c j numbers of row j are there -/
def tab (m : List (List Int)) (c : Nat → Nat) : List (List (Int × Int)) := (List.range m.length).map fun j => rowL m j (c j)
theorem tab_get {m : List (List Int)} {c : Nat → Nat} {i : Nat} (h : i < m.length) : (tab m c)[i]? = some (rowL m i (c i)) := by
  unfold tab; rw [List.getElem?_map, List.getElem?_range h]; rfl
theorem tab_congr {m : List (List Int)} {c d : Nat → Nat} (h : ∀ j, j < m.length → c j = d j) : tab m c = tab m d := by
  unfold tab
  apply List.map_congr_left
  intro j hj
  rw [h j (List.mem_range.1 hj)]
theorem tab_set {m : List (List Int)} {c d : Nat → Nat} {i : Nat} (h : i < m.length) (hd : ∀ j, j < m.length → d j = if j = i then c i + 1 else c j) : (tab m c).set i (rowL m i (c i) ++ [rc m i (c i)]) = tab m d := by
  apply List.ext_getElem?
  intro j
  rw [List.getElem?_set]
  by_cases hj : j < m.length
  · by_cases e : i = j
    · subst e
      rw [if_pos rfl, if_pos (by simp [tab]; exact h), tab_get h, hd i h, if_pos rfl, rowL_succ]
    · rw [if_neg e, tab_get hj, tab_get hj, hd j hj, if_neg fun h => e h.symm]
  · rw [if_neg (by omega), List.getElem?_eq_none (by simp [tab]; omega), List.getElem?_eq_none (by simp [tab]; omega)]
def invE (m : List (List Int)) : Int := if vB m then (if dt m.length m = 0 then 61 else 0) else 60
def invL (m : List (List Int)) : List (List (Int × Int)) := if invE m = 0 then tab m (fun _ => m.length) else []
theorem OwnR.made {w : World} {B g n : Nat} {m : List (List Int)} (h : w.ownsRow B 40 1 (.slice (some ⟨g, 0, none⟩) n n) n (List.replicate n (.slice none 0 0))) (hn : m.length = n) : OwnR w B g n n (List.replicate n (.slice none 0 0)) (tab m fun _ => 0) := by
  have hx : ∀ (i : Nat) (x : Value), (List.replicate n (Value.slice none 0 0))[i]? = some x → x = .slice none 0 0 := fun i x h => List.eq_of_mem_replicate (List.mem_of_getElem? h)
  refine ⟨h, by simp [tab, hn], fun i x r hi hr => ?_, fun i j x y _ hi _ => ?_⟩
  · obtain rfl := hx i x hi
    have hil : i < m.length := by
      have := (List.getElem?_eq_some_iff.1 hr).1
      simpa [tab] using this
    rw [tab_get hil] at hr
    obtain rfl := Option.some.inj hr
    exact World.ownsRow_nil _ _ _ _
  · obtain rfl := hx i x hi
    exact .inl rfl
theorem alt_two (i k : Nat) : alt (i + k) = if (i + k) % 2 = 1 then -1 else 1 := by
  unfold alt
  by_cases h : (i + k) % 2 = 0
  · rw [if_pos h, if_neg (by omega)]
  · rw [if_neg h, if_pos (by omega)]
theorem cf_bd {m : List (List Int)} (h : vB m = true) {i k : Nat} (hi : i < m.length) (hk : k < m.length) : -1000000000000000000 ≤ dt (m.length - 1) (wo m k i) ∧ dt (m.length - 1) (wo m k i) ≤ 1000000000000000000 := by
  obtain ⟨b1, b2, b3, b4, b5⟩ := rep_bd h
  have hl : (wo m k i).length = m.length - 1 := wo_len hk
  have hcl : ((rep m.length).eraseIdx i).length = m.length - 1 := by rw [List.length_eraseIdx_of_lt (by omega), b2]
  have h1 := (dt_bd (m.length - 1) (wo m k i) ((rep m.length).eraseIdx i) hl hcl (b3.wo k i (by omega))).1
  obtain ⟨c, hc⟩ : ∃ c, (rep m.length)[i]? = some c := ⟨_, List.getElem?_eq_getElem (by omega)⟩
  have hp := pr_erase _ i c hc
  have hc1 := b4 c (List.mem_of_getElem? hc)
  obtain ⟨n, hn⟩ : ∃ n, m.length = n + 1 := ⟨m.length - 1, by omega⟩
  rw [hn] at h1 hp b5 ⊢
  simp only [Nat.add_sub_cancel] at h1 ⊢
  have h2 : fac n * pr ((rep (n + 1)).eraseIdx i) ≤ fac (n + 1) * pr (rep (n + 1)) := by
    rw [← hp]
    exact Nat.mul_le_mul (Nat.le_mul_of_pos_left _ (by omega)) (Nat.le_mul_of_pos_left _ (by omega))
  omega

end Go.Proofs.Ytnaoanmkepcinaa

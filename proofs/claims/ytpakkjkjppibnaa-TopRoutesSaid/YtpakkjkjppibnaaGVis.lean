/- Layout: a map from cells to lists of visits, in memory (map[api.XY][]layout.visit): 'm[c] = append(m[c], v)'. -/
import Derived.Test.YtpakkjkjppibnaaGMap
import Derived.Test.YtpakkjkjppibnaaGIns
import Derived.Test.YtpakkjkjppibnaaGPar2
import Derived.WideKeyEntry
import Derived.Maps.AppendAt
import Derived.Maps.RangeWalk
namespace Go.Proofs.Ytpakkjkjppibnaa
open Go.RowKit Go.Maps Go.ChangeMaps Go.MapKept
open Go.WideElems (Fit rd rg pl)
open Go.WideMaps (KeyLaw)

/-- what a path does in a cell: which path, its direction, whether it goes straight through -/
abbrev Vis := Int × Int × Bool
def visC (l : List Vis) : List Value := l.flatMap fun v => [.int .i64 v.1, .int .i64 v.2.1, .bool v.2.2]
theorem visC_append (l m : List Vis) : visC (l ++ m) = visC l ++ visC m := by simp [visC]
theorem visC_length (l : List Vis) : (visC l).length = l.length * 3 := by
  induction l with
  | nil => rfl
  | cons x l ih => rw [show x :: l = [x] ++ l from rfl, visC_append, List.length_append, ih]; simp [visC]; omega
theorem xy_law : KeyLaw Try.prog 26 :=
  deep_law_laid (P := Try.prog) (by kernel_rfl) (m := Try.prog.types.size + 1) (by decide +kernel) (of_decide_eq_true (by kernel_rfl)) (by kernel_rfl) (by kernel_rfl)
/-- a slice as it stands, read off no memory -/
def slR : Value → Option (DataW Value × List MemPlace)
  | .slice a n c => some (.held (.slice a n c), [])
  | _ => none
theorem slR_inv {v : Value} {z : DataW Value × List MemPlace} (h : slR v = some z) : ∃ a n c, v = .slice a n c ∧ z = (.held v, []) := by
  cases v <;> simp [slR] at h
  exact ⟨_, _, _, rfl, h.symm⟩
theorem zero_vis (w : World) : (zeroValue 149).run Try.prog w = .ok (.slice none 0 0) w := by kernel_rfl

section
variable {H : Type} {P : Program} {w : World} {t k e : TypeId} {R : Value → Option (DataW H × List MemPlace)} {b : Nat} {es : Array MapEntry} {clock : Nat}
/-- the entry that is taken holds what a look-up gives -/
theorem entry_look (K : KeyLaw P k) (ht : P.underlying t = some (.map k e)) {z : Value} (hz : ∀ u : World, (zeroValue e).run P u = .ok z u) (hb : w.heap[b]? = some (.map es clock)) (F : Fit P k R es clock)
    {key : Value} {kl : Lit} (hkey : keyOf P k key = some kl) :
    ∃ (v0 : Value) (st : Nat) (es1 : Array MapEntry) (clock1 : Nat), (Instr.mapEntry t (.map (some b)) key).run P w = .ok (.tuple #[v0, goInt st]) (setBlock w b (.map es1 clock1)) ∧
      (Instr.lookup t (.map (some b)) key false).run P w = .ok v0 w ∧
      ∀ (w2 : World) (val : Value), w2.heap[b]? = some (.map es1 clock1) → ∃ es' clock', (Instr.entryStore t (.map (some b)) (goInt st) val).run P w2 = .ok () (setBlock w2 b (.map es' clock')) ∧
        (Instr.mapUpdate t (.map (some b)) key val).run P w = .ok () (setBlock w b (.map es' clock')) := by
  obtain ⟨v0, st, es1, clock1, h1, hc, hst⟩ := Go.WideElems.entry_then_store K ht hz hb F hkey
  refine ⟨v0, st, es1, clock1, h1, ?_, hst⟩
  rcases K.find w hkey es.toList F.keys with ⟨h2, h3⟩ | ⟨j, e0, h2, h3, h4⟩
  · rcases hc with ⟨e1, hm, hk, _⟩ | ⟨_, rfl⟩
    · exact absurd hk (h3 e1 hm)
    · simp [Instr.lookup, run_underlying ht, MapKept.run_getObj_map hb, K.check w _ hkey, h2, hz, Result.andThen]
  · have hj : es[j]? = some e0 := by simpa using h3
    simp [Instr.mapEntry, run_underlying ht, MapKept.run_getObj_map hb, K.check w false hkey, h2, hj, h4, K.stays w hkey, MapKept.run_setObj_map _ hb, Result.andThen] at h1
    obtain ⟨⟨rfl, _⟩, _⟩ := h1
    simp [Instr.lookup, run_underlying ht, MapKept.run_getObj_map hb, K.check w _ hkey, h2, Result.andThen]
end

/-- block b is a map that holds at each cell the slice that F says -/
def HM (w : World) (b n : Nat) (F : Ce → Option Value) : Prop :=
  ∃ D : DataW Value, w.ownsMap Try.prog 26 slR b n D ∧ (∀ c, WfC c → Maps.has D (litXY c) = (F c).isSome) ∧ (∀ c, WfC c → D.atKey (litXY c) (.held (.slice none 0 0)) = .held ((F c).getD (.slice none 0 0)))
theorem HM.made (w : World) : HM (w.alloc (.map #[] 0)) w.heap.size 0 (fun _ => none) := ⟨_, World.ownsMap_made w _ _ _, fun _ _ => rfl, fun _ _ => rfl⟩
theorem HM.kept {w w' : World} {b n : Nat} {F : Ce → Option Value} (h : HM w b n F) {row : Option Nat} (hg : w.grownBy w' row) (hne : some b ≠ row) : HM w' b n F := by
  obtain ⟨D, h1, h2⟩ := h
  exact ⟨D, h1.kept hg hne, h2⟩
theorem HM.at {w w' : World} {b n : Nat} {F : Ce → Option Value} (h : HM w b n F) (he : w'.heap[b]? = w.heap[b]?) : HM w' b n F := by
  obtain ⟨D, ⟨es, clock, e1, e2⟩, h2⟩ := h
  exact ⟨D, ⟨es, clock, he.trans e1, e2⟩, h2⟩

/-- block b is a map from cells to lists of visits, in rows of its own from B on -/
def VM (w : World) (b n B : Nat) (G : Ce → List Vis) : Prop :=
  ∃ F : Ce → Option Value, HM w b n F ∧ (∀ c v, F c = some v → WfC c ∧ G c ≠ [] ∧ w.ownsRow B 151 3 v (G c).length (visC (G c))) ∧ (∀ c, F c = none → G c = []) ∧
    (∀ c c' v v', F c = some v → F c' = some v' → c ≠ c' → v.ownBlock ≠ v'.ownBlock) ∧ B ≤ b
theorem VM.made (w : World) (B : Nat) (hB : B ≤ w.heap.size) : VM (w.alloc (.map #[] 0)) w.heap.size 0 B (fun _ => []) :=
  ⟨fun _ => none, HM.made w, ⟨fun _ _ h => (by cases h), fun _ _ => rfl, fun _ _ _ _ h => (by cases h), hB⟩⟩
theorem own_notmap {w : World} {b B n : Nat} {e : TypeId} {size : Nat} {v : Value} {xs : List Value} {es : Array MapEntry} {clock : Nat} (h : w.ownsRow B e size v n xs) (hb : w.heap[b]? = some (.map es clock)) : v.ownBlock ≠ some b := by
  rcases h.2 with ⟨rfl, _⟩ | ⟨g, cap, cur, rfl, _, hg, _⟩
  · simp [Value.ownBlock]
  · intro e
    obtain rfl : g = b := Option.some.inj e
    rw [hb] at hg
    cases hg
theorem HM.block {w : World} {b n : Nat} {F : Ce → Option Value} (h : HM w b n F) : ∃ es clock, w.heap[b]? = some (.map es clock) := by
  obtain ⟨D, ⟨es, clock, e1, _⟩, _⟩ := h
  exact ⟨es, clock, e1⟩
theorem VM.kept {w w' : World} {b n B : Nat} {G : Ce → List Vis} (h : VM w b n B G) (hg : w.grownBy w' none) : VM w' b n B G := by
  obtain ⟨F, h1, h2, h3, h4, h5⟩ := h
  exact ⟨F, h1.kept hg (by simp), fun c v hc => ⟨(h2 c v hc).1, (h2 c v hc).2.1, (h2 c v hc).2.2.kept hg (by cases v.ownBlock <;> simp)⟩, h3, h4, h5⟩
theorem VM.lt {w : World} {b n B : Nat} {G : Ce → List Vis} (h : VM w b n B G) : b < w.heap.size := by
  obtain ⟨F, h1, _⟩ := h
  obtain ⟨es, cl, e⟩ := h1.block
  exact (Array.getElem?_eq_some_iff.1 e).1
theorem grown_block {w : World} {b : Nat} {es : Array MapEntry} {clock : Nat} (hb : w.heap[b]? = some (.map es clock)) (o : Obj) : w.grownBy (setBlock w b o) (some b) :=
  ⟨rfl, rfl, rfl, by simp [setBlock], fun i _ hi => heap_setBlock_other hb _ (fun e => hi (by rw [e]))⟩
def updG (G : Ce → List Vis) (c : Ce) (x : Vis) : Ce → List Vis := fun z => if z = c then G c ++ [x] else G z

theorem vm_entry {w : World} {b n B : Nat} {G : Ce → List Vis} (h : VM w b n B G) (hn : n < maxLen) {c : Ce} (hc : WfC c) :
    ∃ (v0 : Value) (st : Nat) (w1 : World), (Instr.mapEntry 147 (.map (some b)) (.agg #[.int .i64 c.1, .int .i64 c.2])).run Try.prog w = .ok (.tuple #[v0, goInt st]) w1 ∧
      w.grownBy w1 (some b) ∧ w1.heap.size = w.heap.size ∧ w1.ownsRow B 151 3 v0 (G c).length (visC (G c)) ∧ v0.ownBlock ≠ some b ∧ (∃ es cl, w1.heap[b]? = some (.map es cl)) ∧
      ∀ (w2 : World) (v' : Value) (x : Vis), w1.grownBy w2 v0.ownBlock → w2.ownsRow B 151 3 v' ((G c).length + 1) (visC (G c ++ [x])) → (v'.ownBlock = v0.ownBlock ∨ v'.ownBlock = some w1.heap.size) →
        ∃ w3, (Instr.entryStore 147 (.map (some b)) (goInt st) v').run Try.prog w2 = .ok () w3 ∧ VM w3 b (n + 1) B (updG G c x) ∧ w2.grownBy w3 (some b) := by
  obtain ⟨F, ⟨D, hD, h2, h3⟩, hrow, hnil, hsep, hBb⟩ := h
  have hD0 := hD
  obtain ⟨es, clock, hb, hF, hs, hDe⟩ := hD0
  obtain ⟨v0, st, es1, clock1, he, hlk, hst⟩ := entry_look xy_law Try.underlying147 zero_vis hb hF (xy_key hc)
  obtain ⟨v, ps, hrun, hv⟩ := hD.lookup xy_keyed Try.underlying147 (zero_vis w) (zd := .held (.slice none 0 0)) (zp := []) rfl (xy_key hc)
  rw [hlk] at hrun
  injection hrun with hrun _
  subst hrun
  rw [h3 c hc] at hv
  obtain ⟨_, _, _, _, hzz⟩ := slR_inv hv
  have hv0 : v0 = (F c).getD (.slice none 0 0) := by
    simp only [Prod.mk.injEq, DataW.held.injEq] at hzz
    exact hzz.1.symm
  have hgb := grown_block hb (.map es1 clock1)
  have hrow0 : w.ownsRow B 151 3 v0 (G c).length (visC (G c)) := by
    cases hFc : F c with
    | none =>
      rw [hv0, hFc, hnil c hFc]
      exact World.ownsRow_nil _ _ _ _
    | some u =>
      rw [hv0, hFc]
      exact (hrow c u hFc).2.2
  have hnb := own_notmap hrow0 hb
  refine ⟨v0, st, _, he, hgb, by simp [setBlock], hrow0.kept hgb (.inr hnb), hnb, ⟨_, _, heap_setBlock_same hb _⟩, fun w2 v' x hg2 ho2 hloc => ?_⟩
  have hb1 : (setBlock w b (.map es1 clock1)).heap[b]? = some (.map es1 clock1) := heap_setBlock_same hb _
  have hblt : b < w.heap.size := (Array.getElem?_eq_some_iff.1 hb).1
  have hb2 : w2.heap[b]? = some (.map es1 clock1) := (hg2.block b (by simpa [setBlock] using hblt) (fun e => hnb e.symm)).trans hb1
  obtain ⟨es', clock', hes, hup⟩ := hst w2 v' hb2
  obtain ⟨a', k', hform⟩ : ∃ a' k', v' = .slice a' ((G c).length + 1) k' := by
    rcases ho2.2 with ⟨_, h0⟩ | ⟨g, cap, cur, e, _⟩
    · omega
    · exact ⟨_, _, e⟩
  obtain ⟨w', hup', hD', _⟩ := hD.update xy_keyed Try.underlying147 hn (xy_key hc) (show slR v' = some (.held v', []) by rw [hform]; rfl)
  rw [hup] at hup'
  injection hup' with _ hw'
  subst hw'
  refine ⟨_, hes, ⟨fun z => if z = c then some v' else F z, ⟨D.put (litXY c) (.held v'), ?_, fun z hz => ?_, fun z hz => ?_⟩, fun z u hz => ?_, fun z hz => ?_, fun z z' u u' hz hz' hne => ?_, hBb⟩, grown_block hb2 _⟩
  · obtain ⟨e3, c3, g1, g2⟩ := hD'
    rw [heap_setBlock_same hb _] at g1
    exact ⟨e3, c3, by rw [heap_setBlock_same hb2 _]; exact g1, g2⟩
  · have ht := hD.tidy xy_keyed
    by_cases e : z = c
    · subst e; rw [Maps.has_put_same ht.isMap (litXY_key hc)]; simp
    · rw [Maps.has_put_other (fun hh => e (litXY_inj hz hc hh)), h2 z hz]; simp [e]
  · have ht := hD.tidy xy_keyed
    by_cases e : z = c
    · subst e; rw [Maps.atKey_put_same ht.isMap (litXY_key hc)]; simp
    · rw [Maps.atKey_put_other (fun hh => e (litXY_inj hz hc hh)), h3 z hz]; simp [e]
  · by_cases e : z = c
    · subst e
      simp only [if_true, Option.some.injEq] at hz
      subst hz
      refine ⟨hc, by simp [updG], ?_⟩
      simp only [updG, if_true, List.length_append, List.length_cons, List.length_nil]
      exact ho2.kept (grown_block hb2 _) (.inr (own_notmap ho2 hb2))
    · simp only [if_neg e] at hz
      obtain ⟨q1, q2, q3⟩ := hrow z u hz
      refine ⟨q1, by simp only [updG, if_neg e]; exact q2, ?_⟩
      simp only [updG, if_neg e]
      have q4 := q3.kept hgb (.inr (own_notmap q3 hb))
      have hd : u.ownBlock = none ∨ u.ownBlock ≠ v0.ownBlock := by
        cases hFc : F c with
        | none =>
          rw [hv0, hFc]
          cases hu : u.ownBlock with
          | none => exact .inl rfl
          | some g => exact .inr (by simp [Value.ownBlock])
        | some s => rw [hv0, hFc]; exact .inr (hsep z c u s hz hFc e)
      have q5 := q4.kept hg2 hd
      exact q5.kept (grown_block hb2 _) (.inr (own_notmap q5 hb2))
  · by_cases e : z = c
    · subst e; simp at hz
    · simp only [if_neg e] at hz
      simp only [updG, if_neg e]
      exact hnil z hz
  · have key : ∀ z u, z ≠ c → F z = some u → u.ownBlock ≠ v'.ownBlock := fun z u hne hz hh => by
      obtain ⟨q1, q2, q3⟩ := hrow z u hz
      have hpos : 0 < (G z).length := List.length_pos_iff.2 q2
      rcases hloc with h1 | h1
      · rw [h1] at hh
        cases hFc : F c with
        | none =>
          rw [hv0, hFc] at hh
          rcases q3.2 with ⟨_, h0⟩ | ⟨g, cap, cur, e, _⟩
          · omega
          · subst e; simp [Value.ownBlock] at hh
        | some s =>
          rw [hv0, hFc] at hh
          exact hsep z c u s hz hFc hne hh
      · rw [h1] at hh
        have := (q3.lt _ hh).2
        simp [setBlock] at this
    by_cases e : z = c
    · subst e
      simp only [if_true, Option.some.injEq] at hz
      subst hz
      simp only [if_neg (Ne.symm hne)] at hz'
      exact fun hh => key z' u' (Ne.symm hne) hz' hh.symm
    · simp only [if_neg e] at hz
      by_cases e' : z' = c
      · subst e'
        simp only [if_true, Option.some.injEq] at hz'
        subst hz'
        exact key z u e hz
      · simp only [if_neg e'] at hz'
        exact hsep z z' u u' hz hz' hne
end Go.Proofs.Ytpakkjkjppibnaa

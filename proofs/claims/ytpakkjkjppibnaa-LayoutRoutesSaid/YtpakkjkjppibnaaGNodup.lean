/- Layout: the route that is walked meets no cell twice: plain. -/
import Derived.Test.YtpakkjkjppibnaaKRouteP
namespace Go.Proofs.Ytpakkjkjppibnaa
open Go.RowKit

def vxD (d : Nat) : Int := if d = 0 then 1 else if d = 2 then -1 else 0
def vyD (d : Nat) : Int := if d = 1 then 1 else if d = 3 then -1 else 0
theorem beside_v (c : Int × Int) {d : Nat} (hd : d < 4) : besideP c d = (c.1 + vxD d, c.2 + vyD d) := by
  obtain ⟨x, y⟩ := c
  rcases (by omega : d = 0 ∨ d = 1 ∨ d = 2 ∨ d = 3) with rfl | rfl | rfl | rfl <;> simp [besideP, vxD, vyD] <;> omega
theorem fAt_bend {g : Gr} (hg : GrOk g) {to : Int × Int} (ht : openP g to = true) {c : Int × Int} {d e : Nat} (hc : openP g c = true) (hd : d < 4) (he : e < 4) (hne : c ≠ to) (h0 : 0 ≤ fAt g to c e) : fAt g to c d ≤ fAt g to c e + g.bend := by
  rcases (fAt_wk hg ht (openP_on hc) he h0).inv with ⟨h1, _⟩ | ⟨f, u, hf, hw, ho, hv⟩
  · exact absurd h1 hne
  · have h1 := Wk.step _ f _ d hw (by rw [beside_back' c hf]; exact hc) hd
    rw [beside_back' c hf] at h1
    have h2 := (fAt_le hg ht h1).2
    have h3 : stepP g d f ≤ g.move + g.bend := by unfold stepP; have := hg.b1; split <;> omega
    have h4 : g.move ≤ stepP g e f := by unfold stepP; have := hg.b1; split <;> omega
    omega
theorem gw_step {g : Gr} {to c : Int × Int} {d e : Nat} (hf : findD g (fieldP g to) c d = some e) : e < 4 ∧ openP g (besideP c e) = true ∧ 0 ≤ fAt g to (besideP c e) e ∧ fAt g to (besideP c e) e + stepP g d e = fAt g to c d := by
  obtain ⟨he, hh, _⟩ := findD_some hf
  obtain ⟨q1, q2, q3⟩ := hitD_iff.1 hh
  exact ⟨he, q1, q2, q3⟩
theorem gw_seen {g : Gr} (hg : GrOk g) {to c : Int × Int} {d : Nat} {r : List (Int × Int)} (h : Gw g to c d r) : ∀ x ∈ r, ∃ e, e < 4 ∧ 0 ≤ fAt g to x e ∧ openP g x = true ∧
    ((∃ n : Nat, 1 ≤ n ∧ x = (c.1 + n * vxD e, c.2 + n * vyD e) ∧ fAt g to x e + stepP g d e ≤ fAt g to c d) ∨ fAt g to x e + 2 * g.move + g.bend ≤ fAt g to c d) := by
  have hm := hg.m1
  have hb := hg.b1
  induction h with
  | done d => intro x hx; cases hx
  | go c d e r hne hf h ih =>
    obtain ⟨he, q1, q2, q3⟩ := gw_step hf
    have hs : g.move ≤ stepP g d e := by unfold stepP; split <;> omega
    intro x hx
    rcases List.mem_cons.1 hx with rfl | hx
    · exact ⟨e, he, q2, q1, .inl ⟨1, Nat.le_refl _, by rw [beside_v c he]; simp, by omega⟩⟩
    · obtain ⟨f, hf4, h0, ho, hh⟩ := ih x hx
      refine ⟨f, hf4, h0, ho, ?_⟩
      rcases hh with ⟨n, hn, hxn, hle⟩ | hle
      · by_cases hef : e = f
        · subst hef
          left
          refine ⟨n + 1, by omega, ?_, ?_⟩
          · rw [hxn, beside_v c he]
            rcases (by omega : e = 0 ∨ e = 1 ∨ e = 2 ∨ e = 3) with rfl | rfl | rfl | rfl <;> simp [vxD, vyD] <;> omega
          · have : stepP g e e = g.move := by unfold stepP; rw [if_pos rfl]
            omega
        · right
          have : stepP g e f = g.move + g.bend := by unfold stepP; rw [if_neg hef]
          omega
      · right; omega
theorem gw_fresh {g : Gr} (hg : GrOk g) {to : Int × Int} (ht : openP g to = true) {c : Int × Int} {d : Nat} {r : List (Int × Int)} (h : Gw g to c d r) (hc : openP g c = true) (hd : d < 4) : c ∉ r := by
  intro hm
  obtain ⟨e, he, h0, ho, hh⟩ := gw_seen hg h c hm
  have hne : c ≠ to := by
    cases h with
    | done => cases hm
    | go _ _ _ _ hne => exact hne
  have h1 := fAt_bend hg ht (d := d) hc hd he hne h0
  have h2 := hg.m1
  rcases hh with ⟨n, hn, hx, hle⟩ | hle
  · obtain ⟨x, y⟩ := c
    injection hx with hx hy
    rcases (by omega : e = 0 ∨ e = 1 ∨ e = 2 ∨ e = 3) with rfl | rfl | rfl | rfl <;> simp [vxD, vyD] at hx hy <;> omega
  · omega
theorem gw_nodup {g : Gr} (hg : GrOk g) {to : Int × Int} (ht : openP g to = true) {c : Int × Int} {d : Nat} {r : List (Int × Int)} (h : Gw g to c d r) : openP g c = true → d < 4 → (c :: r).Nodup := by
  induction h with
  | done d => intro _ _; simp
  | go c d e r hne hf h ih =>
    intro hc hd
    obtain ⟨he, q1, q2, q3⟩ := gw_step hf
    exact List.nodup_cons.2 ⟨gw_fresh hg ht (Gw.go c d e r hne hf h) hc hd, ih q1 he⟩
/-- a route's first cell, its first step, and the rest -/
structure Fst (g : Gr) (to fr : Int × Int) (n : Int) (d0 : Nat) (r : List (Int × Int)) : Prop where
  ne : fr ≠ to
  beg : beginsP g (fieldP g to) fr 4 = (n, (d0 : Int))
  n0 : 0 ≤ n
  d4 : d0 < 4
  op : openP g (besideP fr d0) = true
  f0 : 0 ≤ fAt g to (besideP fr d0) d0
  val : n = g.move + fAt g to (besideP fr d0) d0
  gw : Gw g to (besideP fr d0) d0 r
theorem fst_nodup {g : Gr} (hg : GrOk g) {to : Int × Int} (ht : openP g to = true) {fr : Int × Int} (hf : openP g fr = true) {n : Int} {d0 : Nat} {r : List (Int × Int)} (h : Fst g to fr n d0 r) : (fr :: besideP fr d0 :: r).Nodup := by
  refine List.nodup_cons.2 ⟨fun hm => ?_, gw_nodup hg ht h.gw h.op h.d4⟩
  have hd := h.d4
  rcases List.mem_cons.1 hm with e | hm
  · obtain ⟨x, y⟩ := fr
    rcases (by omega : d0 = 0 ∨ d0 = 1 ∨ d0 = 2 ∨ d0 = 3) with rfl | rfl | rfl | rfl <;> simp [besideP] at e <;> omega
  · obtain ⟨e, he, h0, ho, hh⟩ := gw_seen hg h.gw fr hm
    have hm1 := hg.m1
    have hle : fAt g to fr e + g.move ≤ fAt g to (besideP fr d0) d0 := by
      rcases hh with ⟨_, _, _, hh⟩ | hh
      · have : g.move ≤ stepP g d0 e := by unfold stepP; have := hg.b1; split <;> omega
        omega
      · have := hg.b1; omega
    have hbw := begins_way hg ht fr
    rw [h.beg] at hbw
    have hv := h.val
    have hn := h.n0
    rcases hbw with ⟨h1, _⟩ | ⟨_, h2⟩
    · dsimp only at h1; omega
    · rcases (fAt_wk hg ht (openP_on hf) he h0).inv with ⟨h3, _⟩ | ⟨f, u, hf4, hw, ho2, hv2⟩
      · exact h.ne h3
      · have h4 := h2 _ ⟨f, u, hf4, hw.op ht, hw, rfl⟩
        have h5 : g.move ≤ stepP g e f := by unfold stepP; have := hg.b1; split <;> omega
        dsimp only at h4
        omega
theorem len_le_sub {α : Type} [DecidableEq α] : ∀ (l m : List α), l.Nodup → (∀ x ∈ l, x ∈ m) → l.length ≤ m.length
  | [], _, _, _ => Nat.zero_le _
  | x :: l, m, hn, hs => by
    have hx := hs x (by simp)
    have h1 := List.length_erase_of_mem hx
    have h2 : 0 < m.length := List.length_pos_of_mem hx
    have h3 := len_le_sub l (m.erase x) (List.nodup_cons.1 hn).2 fun y hy => by
      have : y ≠ x := fun e => (List.nodup_cons.1 hn).1 (e ▸ hy)
      exact (List.mem_erase_of_ne this).2 (hs y (by simp [hy]))
    simp only [List.length_cons]
    omega
theorem cells_few {g : Gr} (hg : GrOk g) {l : List (Int × Int)} (hn : l.Nodup) (ho : ∀ x ∈ l, openP g x = true) : l.length ≤ g.w * g.h := by
  have := len_le_sub l ((List.range (g.w * g.h)).map (cellP g)) hn fun x hx => by
    have h1 := openP_on (ho x hx)
    have h2 := hg.index h1
    exact List.mem_map.2 ⟨(indexP g x).toNat, List.mem_range.2 (by have := h2.2.2.2.2; omega), cell_index hg h1⟩
  simpa using this
theorem fst_open {g : Gr} (hg : GrOk g) {to fr : Int × Int} (hf : openP g fr = true) {n : Int} {d0 : Nat} {r : List (Int × Int)} (h : Fst g to fr n d0 r) : ∀ x ∈ fr :: besideP fr d0 :: r, openP g x = true := fun x hx => by
  rcases List.mem_cons.1 hx with rfl | hx
  · exact hf
  · rcases List.mem_cons.1 hx with rfl | hx
    · exact h.op
    · obtain ⟨_, _, _, ho, _⟩ := gw_seen hg h.gw x hx; exact ho
theorem gw_walk {g : Gr} {to c : Int × Int} {d : Nat} {r : List (Int × Int)} (h : Gw g to c d r) : ∀ f path, r.length < f → walkP g (fieldP g to) to f path c d = some (path ++ r) := by
  induction h with
  | done d =>
    intro f path hf
    obtain ⟨f, rfl⟩ : ∃ f', f = f' + 1 := ⟨f - 1, by omega⟩
    rw [walkP, if_pos rfl, List.append_nil]
  | go c d e r hne hf h ih =>
    intro f path hl
    obtain ⟨f, rfl⟩ : ∃ f', f = f' + 1 := ⟨f - 1, by omega⟩
    rw [walkP, if_neg hne, hf]
    dsimp only
    rw [ih f _ (by simpa using hl)]
    simp
/-- where begins answers, there is a route -/
theorem fst_exists {g : Gr} (hg : GrOk g) {to : Int × Int} (ht : openP g to = true) {fr : Int × Int} (hne : fr ≠ to) (h0 : 0 ≤ (beginsP g (fieldP g to) fr 4).1) :
    ∃ n d0 r, Fst g to fr n d0 r := by
  rcases begins_spec hg (fieldP g to) fr 4 with ⟨h1, _⟩ | ⟨d, h1, h2, h3, h4, _⟩
  · rw [h1] at h0; omega
  · unfold hitB at h2
    simp only [Bool.and_eq_true, decide_eq_true_eq] at h2
    obtain ⟨r, hr, _⟩ := walk_ok hg ht ((fAt g to (besideP fr d) d).toNat + 1) (besideP fr d) d h1 h2.1 h2.2 (by have : 0 ≤ fAt g to (besideP fr d) d := h2.2; omega)
    exact ⟨stepV g (fieldP g to) fr d, d, r, hne, h3, h4, h1, h2.1, h2.2, rfl, hr⟩
end Go.Proofs.Ytpakkjkjppibnaa

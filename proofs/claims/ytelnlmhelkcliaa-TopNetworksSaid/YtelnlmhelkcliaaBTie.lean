/- Benes: the ties of a permutation, and which settings of the first and last switches they make: plain, without a program. -/
import Derived.Test.YtelnlmhelkcliaaBFol
namespace Go.Proofs.Ytelnlmhelkcliaa

def noneT : FL := (fun _ => none, fun _ => none)
def tieP (π ρ : Nat → Nat) (m j : Nat) : FL := followP π ρ (m + 1) noneT j false
/-- closed under what follows -/
def Cls (m : Nat) (π ρ : Nat → Nat) (P : Nat → Prop) : Prop := ∀ k, k < 2 * m → P (k / 2) → P (mate π ρ k / 2)
structure Tie (m : Nat) (π ρ : Nat → Nat) (j : Nat) (t : FL) : Prop where
  good : ∀ χ, Col m π ρ χ → ∀ P, Cls m π ρ P → P j → Good m π ρ χ (χ (2 * j)) P t
  top : t.1 j = some false
  cls : ∀ k, k < 2 * m → (t.1 (k / 2)).isSome = true → (t.1 (mate π ρ k / 2)).isSome = true ∧ (t.2 (π k / 2)).isSome = true
theorem tie_ok {m : Nat} {π ρ : Nat → Nat} (h : PermN m π ρ) {j : Nat} (hj : j < m) : Tie m π ρ j (tieP π ρ m j) := by
  have hg : ∀ χ, Col m π ρ χ → ∀ P, Cls m π ρ P → P j → Good m π ρ χ (χ (2 * j)) P (tieP π ρ m j) := fun χ hc P hP hp =>
    follow_good h hc hP (m + 1) noneT j false ⟨fun i b hb => (by cases hb), fun l b hb => (by cases hb)⟩ hj hp (by cases χ (2 * j) <;> rfl)
  have hd := follow_done h (m + 1) noneT j false hj (by have := freeN_le noneT.1 m; omega)
  refine ⟨hg, ?_, fun k hk h1 => hd.2 k hk h1 rfl⟩
  obtain ⟨χ, hχ⟩ := h.col
  obtain ⟨b, hb⟩ := Option.isSome_iff_exists.1 hd.1
  have := ((hg χ hχ (fun _ => True) (fun _ _ _ => trivial) trivial).val j b hb).2.1
  change (tieP π ρ m j).1 j = some b at hb
  rw [hb, this]
  cases χ (2 * j) <;> rfl
theorem Tie.lt {m : Nat} {π ρ : Nat → Nat} (h : PermN m π ρ) {j : Nat} {t : FL} (ht : Tie m π ρ j t) {i : Nat} (hi : (t.1 i).isSome = true) : i < m := by
  obtain ⟨χ, hχ⟩ := h.col
  obtain ⟨b, hb⟩ := Option.isSome_iff_exists.1 hi
  exact ((ht.good χ hχ (fun _ => True) (fun _ _ _ => trivial) trivial).val i b hb).1
theorem Tie.last {m : Nat} {π ρ : Nat → Nat} (h : PermN m π ρ) {j : Nat} {t : FL} (ht : Tie m π ρ j t) {l : Nat} (hl : (t.2 l).isSome = true) : l < m ∧ ∃ k, k < 2 * m ∧ π k / 2 = l ∧ (t.1 (k / 2)).isSome = true := by
  obtain ⟨χ, hχ⟩ := h.col
  obtain ⟨b, hb⟩ := Option.isSome_iff_exists.1 hl
  obtain ⟨h1, _, h2⟩ := (ht.good χ hχ (fun _ => True) (fun _ _ _ => trivial) trivial).lst l b hb
  exact ⟨h1, h2⟩

/-- the ties of the first k switches -/
def tiesP (π ρ : Nat → Nat) (m : Nat) : Nat → List (Nat × FL)
  | 0 => []
  | k + 1 => if (tiesP π ρ m k).any (fun t => (t.2.1 k).isSome) then tiesP π ρ m k else tiesP π ρ m k ++ [(k, tieP π ρ m k)]
structure Ties (m : Nat) (π ρ : Nat → Nat) (k : Nat) (T : List (Nat × FL)) : Prop where
  each : ∀ t ∈ T, t.1 < m ∧ Tie m π ρ t.1 t.2
  cover : ∀ j, j < k → ∃ t ∈ T, (t.2.1 j).isSome = true
  disj : T.Pairwise fun t u => ∀ j, (t.2.1 j).isSome = true → (u.2.1 j).isSome = true → False
theorem ties_ok {m : Nat} {π ρ : Nat → Nat} (h : PermN m π ρ) : ∀ k, k ≤ m → Ties m π ρ k (tiesP π ρ m k)
  | 0, _ => ⟨fun t ht => (by cases ht), fun j hj => absurd hj (Nat.not_lt_zero _), List.Pairwise.nil⟩
  | k + 1, hk => by
    have ih := ties_ok h k (by omega)
    unfold tiesP
    by_cases hc : (tiesP π ρ m k).any (fun t => (t.2.1 k).isSome) = true
    · rw [if_pos hc]
      refine ⟨ih.each, fun j hj => ?_, ih.disj⟩
      by_cases e : j = k
      · subst e
        obtain ⟨t, h1, h2⟩ := List.any_eq_true.1 hc
        exact ⟨t, h1, h2⟩
      · exact ih.cover j (by omega)
    · rw [if_neg hc]
      have hno : ∀ t ∈ tiesP π ρ m k, ¬ (t.2.1 k).isSome = true := fun t ht e => hc (List.any_eq_true.2 ⟨t, ht, e⟩)
      have hT := tie_ok h (j := k) (by omega)
      refine ⟨fun t ht => ?_, fun j hj => ?_, ?_⟩
      · rcases List.mem_append.1 ht with ht | ht
        · exact ih.each t ht
        · rw [List.mem_singleton] at ht; subst ht; exact ⟨by dsimp only; omega, hT⟩
      · by_cases e : j = k
        · subst e
          exact ⟨(j, tieP π ρ m j), by simp, by dsimp only; rw [hT.top]; rfl⟩
        · obtain ⟨t, h1, h2⟩ := ih.cover j (by omega)
          exact ⟨t, by simp [h1], h2⟩
      · refine List.pairwise_append.2 ⟨ih.disj, by simp, fun t ht u hu j h1 h2 => ?_⟩
        rw [List.mem_singleton] at hu
        subst hu
        obtain ⟨ht1, ht2⟩ := ih.each t ht
        obtain ⟨χ, hχ⟩ := h.col
        obtain ⟨b, hb⟩ := Option.isSome_iff_exists.1 h2
        have hcl : Cls m π ρ (fun i => ¬ (t.2.1 i).isSome = true) := fun q hq hn hs => hn (by
          have hm := h.mate_lt hq
          have := (ht2.cls (mate π ρ q) hm hs).1
          rwa [h.mate_mate hq] at this)
        exact ((hT.good χ hχ _ hcl (hno t ht)).val j b hb).2.2 h1

/-- the side to which light of an input goes -/
def sideB (s : Nat → Bool) (k : Nat) : Bool := oddB k ^^ s (k / 2)
/-- settings of the first switches that the last ones can go on from -/
def Cons (m : Nat) (π ρ : Nat → Nat) (s : Nat → Bool) : Prop := ∀ k, k < 2 * m → sideB s (mate π ρ k) = !sideB s k

def flipT (b : Bool) (t : FL) : FL := (fun j => (t.1 j).map (· ^^ b), fun l => (t.2 l).map (· ^^ b))
def over (F : Nat → Option Bool) (o : Nat → Bool) : Nat → Bool := fun j => (F j).getD (o j)
/-- what the first k ties set -/
def outF (T : List (Nat × FL)) (way : Nat) : Nat → (Nat → Bool) × (Nat → Bool)
  | 0 => (fun _ => false, fun _ => false)
  | k + 1 => (over (flipT (way.testBit k) (T.getD k (0, noneT)).2).1 (outF T way k).1, over (flipT (way.testBit k) (T.getD k (0, noneT)).2).2 (outF T way k).2)

theorem getD_mem {α : Type} {l : List α} {i : Nat} (d : α) (h : i < l.length) : l.getD i d ∈ l := by
  rw [List.getD_eq_getElem?_getD, List.getElem?_eq_getElem h]; exact List.getElem_mem h
theorem pairwise_getD {α : Type} {R : α → α → Prop} {l : List α} (h : l.Pairwise R) (d : α) {i j : Nat} (hij : i < j) (hj : j < l.length) : R (l.getD i d) (l.getD j d) := by
  rw [List.getD_eq_getElem?_getD, List.getElem?_eq_getElem (by omega), List.getD_eq_getElem?_getD, List.getElem?_eq_getElem hj]
  exact List.pairwise_iff_getElem.1 h i j (by omega) hj hij

section
variable {m : Nat} {π ρ : Nat → Nat} {T : List (Nat × FL)}
theorem Ties.alone1 (hT : Ties m π ρ m T) {i k j : Nat} (hi : i < T.length) (hk : k < T.length) (hne : i ≠ k) (h1 : ((T.getD i (0, noneT)).2.1 j).isSome = true) : (T.getD k (0, noneT)).2.1 j = none := by
  cases h2 : (T.getD k (0, noneT)).2.1 j with
  | none => rfl
  | some b =>
    exfalso
    rcases Nat.lt_or_gt_of_ne hne with h | h
    · exact pairwise_getD hT.disj (0, noneT) h hk j h1 (by rw [h2]; rfl)
    · exact pairwise_getD hT.disj (0, noneT) h hi j (by rw [h2]; rfl) h1
theorem same_last (h : PermN m π ρ) {k q : Nat} (hk : k < 2 * m) (hq : q < 2 * m) (e : π k / 2 = π q / 2) : q = k ∨ q = mate π ρ k := by
  rcases (by unfold flip1; split <;> omega : π q = π k ∨ π q = flip1 (π k)) with e | e
  · left; rw [← h.i1 q hq, e, h.i1 k hk]
  · right; unfold mate; rw [← e, h.i1 q hq]
theorem Ties.alone2 (h : PermN m π ρ) (hT : Ties m π ρ m T) {i k l : Nat} (hi : i < T.length) (hk : k < T.length) (hne : i ≠ k) (h1 : ((T.getD i (0, noneT)).2.2 l).isSome = true) : (T.getD k (0, noneT)).2.2 l = none := by
  cases h2 : (T.getD k (0, noneT)).2.2 l with
  | none => rfl
  | some b =>
    exfalso
    obtain ⟨_, q, hq, e1, h3⟩ := (hT.each _ (getD_mem (0, noneT) hi)).2.last h h1
    obtain ⟨_, q', hq', e2, h4⟩ := (hT.each _ (getD_mem (0, noneT) hk)).2.last h (by rw [h2]; rfl)
    have := hT.alone1 hi hk hne (j := q' / 2) (by
      rcases same_last h hq hq' (by rw [e1, e2]) with rfl | rfl
      · exact h3
      · exact ((hT.each _ (getD_mem (0, noneT) hi)).2.cls q hq h3).1)
    rw [this] at h4
    cases h4
theorem outF_fst (hT : Ties m π ρ m T) (way : Nat) {i j : Nat} {b : Bool} (hi : i < T.length) (hb : (T.getD i (0, noneT)).2.1 j = some b) : ∀ k, i < k → k ≤ T.length → (outF T way k).1 j = (b ^^ way.testBit i)
  | 0, h, _ => absurd h (Nat.not_lt_zero _)
  | k + 1, h, hk => by
    unfold outF over flipT
    dsimp only
    by_cases e : i = k
    · subst e; rw [hb]; rfl
    · rw [hT.alone1 hi (by omega) e (by rw [hb]; rfl)]
      exact outF_fst hT way hi hb k (by omega) (by omega)
theorem outF_snd (h : PermN m π ρ) (hT : Ties m π ρ m T) (way : Nat) {i l : Nat} {b : Bool} (hi : i < T.length) (hb : (T.getD i (0, noneT)).2.2 l = some b) : ∀ k, i < k → k ≤ T.length → (outF T way k).2 l = (b ^^ way.testBit i)
  | 0, h, _ => absurd h (Nat.not_lt_zero _)
  | k + 1, hik, hk => by
    unfold outF over flipT
    dsimp only
    by_cases e : i = k
    · subst e; rw [hb]; rfl
    · rw [hT.alone2 h hi (by omega) e (by rw [hb]; rfl)]
      exact outF_snd h hT way hi hb k (by omega) (by omega)
/-- the tie of a first switch -/
theorem Ties.find1 (hT : Ties m π ρ m T) {j : Nat} (hj : j < m) : ∃ i b, i < T.length ∧ (T.getD i (0, noneT)).2.1 j = some b := by
  obtain ⟨t, ht, hs⟩ := hT.cover j hj
  obtain ⟨i, hi, rfl⟩ := List.mem_iff_getElem.1 ht
  obtain ⟨b, hb⟩ := Option.isSome_iff_exists.1 hs
  refine ⟨i, b, hi, ?_⟩
  rw [List.getD_eq_getElem?_getD, List.getElem?_eq_getElem hi]
  exact hb
theorem Ties.find2 (h : PermN m π ρ) (hT : Ties m π ρ m T) {l : Nat} (hl : l < m) : ∃ i b, i < T.length ∧ (T.getD i (0, noneT)).2.2 l = some b := by
  have hr := h.rlt (2 * l) (by omega)
  obtain ⟨i, b, hi, hb⟩ := hT.find1 (j := ρ (2 * l) / 2) (by omega)
  have := ((hT.each _ (getD_mem (0, noneT) hi)).2.cls (ρ (2 * l)) hr (by rw [hb]; rfl)).2
  rw [h.i2 _ (by omega), show 2 * l / 2 = l by omega] at this
  obtain ⟨b', hb'⟩ := Option.isSome_iff_exists.1 this
  exact ⟨i, b', hi, hb'⟩

theorem Tie.side (_h : PermN m π ρ) {χ : Nat → Bool} (hc : Col m π ρ χ) {j : Nat} {t : FL} (ht : Tie m π ρ j t) {k : Nat} (hk : k < 2 * m) {b : Bool} (hb : t.1 (k / 2) = some b) : (oddB k ^^ b) = (χ k ^^ χ (2 * j)) := by
  have := ((ht.good χ hc (fun _ => True) (fun _ _ _ => trivial) trivial).val _ b hb).2.1
  rw [this, hc.even hk]
  cases χ (2 * (k / 2)) <;> cases χ (2 * j) <;> cases oddB k <;> rfl

/-- (a) what the ties set goes on -/
theorem out_cons (h : PermN m π ρ) (hT : Ties m π ρ m T) (way : Nat) : Cons m π ρ (outF T way T.length).1 := by
  intro k hk
  obtain ⟨χ, hc⟩ := h.col
  obtain ⟨i, b, hi, hb⟩ := hT.find1 (j := k / 2) (by omega)
  have hti := (hT.each _ (getD_mem (0, noneT) hi)).2
  obtain ⟨b', hb'⟩ := Option.isSome_iff_exists.1 (hti.cls k hk (by rw [hb]; rfl)).1
  unfold sideB
  rw [outF_fst hT way hi hb _ hi (Nat.le_refl _), outF_fst hT way hi hb' _ hi (Nat.le_refl _), ← Bool.xor_assoc, ← Bool.xor_assoc, hti.side h hc hk hb, hti.side h hc (h.mate_lt hk) hb', (hc k hk).2]
  cases χ k <;> cases χ (2 * (T.getD i (0, noneT)).1) <;> cases way.testBit i <;> rfl
/-- (b) the last switches -/
theorem out_last (h : PermN m π ρ) (hT : Ties m π ρ m T) (way : Nat) {l : Nat} (hl : l < m) : (outF T way T.length).2 l = sideB (outF T way T.length).1 (ρ (2 * l)) := by
  obtain ⟨χ, hc⟩ := h.col
  obtain ⟨i, b, hi, hb⟩ := hT.find2 h hl
  have hti := (hT.each _ (getD_mem (0, noneT) hi)).2
  obtain ⟨_, q, hq, e1, h3⟩ := hti.last h (l := l) (by rw [hb]; rfl)
  have hr := h.rlt (2 * l) (by omega)
  obtain ⟨b', hb'⟩ : ∃ b', (T.getD i (0, noneT)).2.1 (ρ (2 * l) / 2) = some b' := Option.isSome_iff_exists.1 (by
    rcases same_last h (q := ρ (2 * l)) hq hr (by rw [h.i2 _ (by omega), e1]; omega) with e | e
    · rw [e]; exact h3
    · rw [e]; exact (hti.cls q hq h3).1)
  unfold sideB
  rw [outF_snd h hT way hi hb _ hi (Nat.le_refl _), outF_fst hT way hi hb' _ hi (Nat.le_refl _), ← Bool.xor_assoc, hti.side h hc hr hb']
  have := ((hti.good χ hc (fun _ => True) (fun _ _ _ => trivial) trivial).lst _ b hb).2.1
  rw [this]
/-- (c) whatever goes on is set by some way -/
theorem testBit_of (f : Nat → Bool) : ∀ n, ∃ w, w < 2 ^ n ∧ ∀ i, i < n → w.testBit i = f i
  | 0 => ⟨0, by decide, fun i hi => absurd hi (Nat.not_lt_zero _)⟩
  | n + 1 => by
    obtain ⟨w, hw, hb⟩ := testBit_of f n
    cases hf : f n with
    | false =>
      refine ⟨w, by rw [Nat.pow_succ]; omega, fun i hi => ?_⟩
      by_cases e : i = n
      · subst e; rw [hf]; exact Nat.testBit_lt_two_pow hw
      · exact hb i (by omega)
    | true =>
      refine ⟨2 ^ n + w, by rw [Nat.pow_succ]; omega, fun i hi => ?_⟩
      by_cases e : i = n
      · subst e; rw [hf, Nat.testBit_two_pow_add_eq, Nat.testBit_lt_two_pow hw]; rfl
      · rw [Nat.testBit_two_pow_add_gt (by omega)]; exact hb i (by omega)
theorem out_all (h : PermN m π ρ) (hT : Ties m π ρ m T) {s : Nat → Bool} (hs : Cons m π ρ s) : ∃ way, way < 2 ^ T.length ∧ ∀ j, j < m → (outF T way T.length).1 j = s j := by
  obtain ⟨χ, hc⟩ := h.col
  obtain ⟨way, hw, hb⟩ := testBit_of (fun i => s (T.getD i (0, noneT)).1) T.length
  refine ⟨way, hw, fun j hj => ?_⟩
  obtain ⟨i, b, hi, hib⟩ := hT.find1 hj
  obtain ⟨htm, hti⟩ := hT.each _ (getD_mem (0, noneT) hi)
  have hx : ∀ k, k < 2 * m → sideB s k = (s (k / 2) ^^ oddB k) := fun k _ => Bool.xor_comm _ _
  have hcl : Cls m π ρ (fun x => x < m → (s x ^^ χ (2 * x)) = (s (T.getD i (0, noneT)).1 ^^ χ (2 * (T.getD i (0, noneT)).1))) := fun k hk hP _ => by
    rw [← hP (by omega)]
    have e1 := hs k hk
    have e2 := (hc k hk).2
    have e3 := hc.even hk
    have e4 := hc.even (h.mate_lt hk)
    rw [e2] at e4
    unfold sideB at e1
    revert e1 e3 e4
    cases s (mate π ρ k / 2) <;> cases s (k / 2) <;> cases oddB k <;> cases oddB (mate π ρ k) <;> cases χ k <;> cases χ (2 * (k / 2)) <;> cases χ (2 * (mate π ρ k / 2)) <;> decide
  obtain ⟨_, e1, e2⟩ := (hti.good χ hc _ hcl (fun _ => rfl)).val j b hib
  have e3 := e2 hj
  rw [outF_fst hT way hi hib _ hi (Nat.le_refl _), hb i hi, e1]
  revert e3
  cases s j <;> cases χ (2 * j) <;> cases s (T.getD i (0, noneT)).1 <;> cases χ (2 * (T.getD i (0, noneT)).1) <;> decide
/-- (d) and by one alone -/
theorem out_inj (hT : Ties m π ρ m T) {way way' : Nat} (hw : way < 2 ^ T.length) (hw' : way' < 2 ^ T.length) (he : ∀ j, j < m → (outF T way T.length).1 j = (outF T way' T.length).1 j) : way = way' := by
  apply Nat.eq_of_testBit_eq
  intro i
  by_cases hi : i < T.length
  · obtain ⟨htm, hti⟩ := hT.each _ (getD_mem (0, noneT) hi)
    have := he _ htm
    rw [outF_fst hT way hi hti.top _ hi (Nat.le_refl _), outF_fst hT way' hi hti.top _ hi (Nat.le_refl _)] at this
    simpa using this
  · have hp : 2 ^ T.length ≤ 2 ^ i := Nat.pow_le_pow_right (by decide) (by omega)
    rw [Nat.testBit_lt_two_pow (by omega), Nat.testBit_lt_two_pow (by omega)]
/-- there are at most as many ties as switches -/
theorem ties_few (hT : Ties m π ρ m T) : T.length ≤ m := by
  have hn : (T.map (·.1)).Nodup := by
    rw [List.Nodup, List.pairwise_map]
    refine hT.disj.imp_of_mem fun {t u} ht hu hd e => hd t.1 ?_ ?_
    · rw [(hT.each t ht).2.top]; rfl
    · rw [e, (hT.each u hu).2.top]; rfl
  have : ∀ (l : List Nat) (m : Nat), l.Nodup → (∀ x ∈ l, x < m) → l.length ≤ m := by
    intro l m hn hl
    have h1 := List.Nodup.length_le_of_subset hn (l₂ := List.range m) fun x hx => List.mem_range.2 (hl x hx)
    simpa using h1
  have := this _ m hn fun x hx => by
    obtain ⟨t, ht, rfl⟩ := List.mem_map.1 hx
    exact (hT.each t ht).1
  simpa using this
end
end Go.Proofs.Ytelnlmhelkcliaa

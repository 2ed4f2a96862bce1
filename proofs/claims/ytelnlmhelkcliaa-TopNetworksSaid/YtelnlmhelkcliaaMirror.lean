/- mirror, mirrored: the settings in a mirror. -/
import Derived.Test.YtelnlmhelkcliaaConcat
import Derived.Test.YtelnlmhelkcliaaThrough
namespace Go.Proofs.Ytelnlmhelkcliaa
open Go.RowKit

/-- the settings in a mirror -/
def mir {α : Type} : Nat → List α → List α
  | 0, l => l
  | k + 1, l => seg l (pw k) (pw k) ++ (seg l 0 (pw k) ++ (mir k (seg l (pw (k + 1)) (cnt k)) ++ mir k (seg l (pw (k + 1) + cnt k) (cnt k))))
theorem mir_len {α : Type} (k : Nat) : ∀ l : List α, l.length = cnt k → (mir k l).length = cnt k := by
  induction k with
  | zero => intro l h; exact h
  | succ k ih =>
    intro l h
    have e1 : pw (k + 1) = 2 * pw k := rfl
    have e2 : cnt (k + 1) = pw (k + 1) + 2 * cnt k := rfl
    simp only [mir, List.length_append]
    rw [ih _ (seg_len _ _ _ (by omega)), ih _ (seg_len _ _ _ (by omega)), seg_len _ _ _ (by omega), seg_len _ _ _ (by omega)]
    omega

theorem bools_seg (S : List Bool) (b n : Nat) : ((bools S).drop b).take n = bools (seg S b n) := by
  simp [bools, seg]
theorem seg_end {α : Type} (S : List α) (b n : Nat) (h : S.length = b + n) : S.drop b = seg S b n := by
  unfold seg; rw [List.take_of_length_le]; rw [List.length_drop]; omega

theorem mirror0 (n : Int) (v : Value) (S : List Bool) (w : World) (hn : n = pw 0) (hl : S.length = cnt 0) (hv : Rd w v (bools S)) :
    Calls Try.prog 51 #[.int .i64 n, v] w fun e w' => ∃ u, e = .returned u ∧ w'.ownsRow w.heap.size 4 1 u (cnt 0) (bools (mir 0 S)) ∧ Below w.heap.size w w' := by
  subst hn
  have HL := Lib.hid hl
  have h1 : S.length = 1 := by rw [hl]; rfl
  have HL1 := Lib.hid h1
  clear hl h1
  simp only [pw]
  go_enter Try.func51, Try.ntmps51
  go_wp2_with fail
  refine (cloneB_any _ S _ hv (by rw [HL1.out]; decide) (by rw [HL1.out]; decide)).mono ?_
  rw [HL.out]
  rintro e w1 ⟨u, rfl, hu, hb1⟩
  go_wp2_with fail
  go_ret
  exact ⟨_, rfl, hu, hb1⟩

set_option maxHeartbeats 2000000 in
theorem mirror_any (k : Nat) : ∀ (n : Int) (v : Value) (S : List Bool) (w : World), k ≤ 3 → n = pw k → S.length = cnt k → Rd w v (bools S) →
    Calls Try.prog 51 #[.int .i64 n, v] w fun e w' => ∃ u, e = .returned u ∧ w'.ownsRow w.heap.size 4 1 u (cnt k) (bools (mir k S)) ∧ Below w.heap.size w w' := by
  induction k with
  | zero => intro n v S w _ hn hl hv; exact mirror0 n v S w hn hl hv
  | succ k ih =>
    intro n v S w hk hn hl hv
    have h1 := pw_pos k
    have h2 := pw_le (k + 1) hk
    have h3 := cnt_bd k (by omega)
    have hpw : pw (k + 1) = 2 * pw k := rfl
    have hcn : cnt (k + 1) = pw (k + 1) + 2 * cnt k := rfl
    subst hn
    have HPK := Lib.hid (show ((pw (k + 1) : Nat) : Int) / 2 = pw k by omega)
    have hne : (((pw (k + 1) : Nat) : Int) == 2) = false := by rw [beq_eq_false_iff_ne]; omega
    have HL : Hid ((bools S).length = cnt (k + 1)) := Lib.hid (by rw [bools_length, hl])
    have HLA : Hid ((seg S (pw (k + 1)) (cnt k)).length = cnt k) := Lib.hid (seg_len _ _ _ (by omega))
    have HLB : Hid ((seg S (pw (k + 1) + cnt k) (cnt k)).length = cnt k) := Lib.hid (seg_len _ _ _ (by omega))
    obtain ⟨A, hA⟩ : ∃ A, A = mir k (seg S (pw (k + 1)) (cnt k)) := ⟨_, rfl⟩
    obtain ⟨B, hB⟩ : ∃ B, B = mir k (seg S (pw (k + 1) + cnt k) (cnt k)) := ⟨_, rfl⟩
    have HM : Hid (mir (k + 1) S = seg S (pw k) (pw k) ++ (seg S 0 (pw k) ++ (A ++ B))) := Lib.hid (by simp only [mir]; rw [← hA, ← hB])
    have HA := Lib.hid hA
    have HB := Lib.hid hB
    have HML : Hid ((seg S (pw k) (pw k) ++ (seg S 0 (pw k) ++ (A ++ B))).length = cnt (k + 1)) := Lib.hid (by rw [← HM.out]; exact mir_len _ _ hl)
    have IH := Lib.hid ih
    have hc56 := cnt_bd (k + 1) hk
    clear ih hl hA hB hpw hcn
    go_enter Try.func51, Try.ntmps51
    go_wp2_with fail
    refine (splitB_any k _ _ _ _ (by omega) rfl HL.out hv).mono ?_
    rintro e w1 ⟨v1, v2, v3, v4, rfl, hP, hb1⟩
    have r1 : Rd w1 v1 (bools (seg S 0 (pw k))) := by have := hP.first; rw [← bools_seg]; exact this
    have r2 : Rd w1 v2 (bools (seg S (pw k) (pw k))) := by have := hP.last; rw [← bools_seg]; exact this
    have r3 : Rd w1 v3 (bools (seg S (pw (k + 1)) (cnt k))) := by have := hP.upper; rw [← bools_seg]; exact this
    have r4 : Rd w1 v4 (bools (seg S (pw (k + 1) + cnt k) (cnt k))) := by have := hP.lower; rw [← bools_seg]; exact this
    clear hP
    have q1 := Lib.hid r1
    have q2 := Lib.hid r2
    have q3 := Lib.hid r3
    have q4 := Lib.hid r4
    obtain ⟨a1, n1, c1, rfl⟩ : ∃ a n c, v1 = .slice a n c := by obtain ⟨a, c, rfl, _⟩ := r1; exact ⟨_, _, _, rfl⟩
    obtain ⟨a2, n2, c2, rfl⟩ : ∃ a n c, v2 = .slice a n c := by obtain ⟨a, c, rfl, _⟩ := r2; exact ⟨_, _, _, rfl⟩
    obtain ⟨a3, n3, c3, rfl⟩ : ∃ a n c, v3 = .slice a n c := by obtain ⟨a, c, rfl, _⟩ := r3; exact ⟨_, _, _, rfl⟩
    obtain ⟨a4, n4, c4, rfl⟩ : ∃ a n c, v4 = .slice a n c := by obtain ⟨a, c, rfl, _⟩ := r4; exact ⟨_, _, _, rfl⟩
    clear r1 r2 r3 r4
    go_wp2_with fail
    generalize hW : w1.alloc (Obj.cells #[Value.slice a1 n1 c1, Value.slice a2 n2 c2, Value.slice a3 n3 c3, Value.slice a4 n4 c4] 73) = W
    have hbW : Below w1.heap.size w1 W := by rw [← hW]; exact (Below.refl _ _).alloc (Nat.le_refl _) _
    have d0 : W.cell? ⟨w1.heap.size, 0, none⟩ = some (.slice a1 n1 c1) := by rw [← hW]; exact World.cell?_alloc_at _ _ _ _ rfl
    have d1 : W.cell? ⟨w1.heap.size, 1, none⟩ = some (.slice a2 n2 c2) := by rw [← hW]; exact World.cell?_alloc_at _ _ _ _ rfl
    have d2 : W.cell? ⟨w1.heap.size, 2, none⟩ = some (.slice a3 n3 c3) := by rw [← hW]; exact World.cell?_alloc_at _ _ _ _ rfl
    have d3 : W.cell? ⟨w1.heap.size, 3, none⟩ = some (.slice a4 n4 c4) := by rw [← hW]; exact World.cell?_alloc_at _ _ _ _ rfl
    have hlt : w1.heap.size < W.heap.size := by rw [← hW]; simp
    clear hW
    have hwr : IntKind.i64.wrap (((pw (k + 1) : Nat) : Int) / 2) = ((pw (k + 1) : Nat) : Int) / 2 := IntWalk.i64_in _ ⟨by omega, by omega⟩
    go_region_held3 (fun w' => w'.cell? ⟨w1.heap.size, 0, none⟩ = some (.slice a1 n1 c1) ∧ w'.cell? ⟨w1.heap.size, 1, none⟩ = some (.slice a2 n2 c2) ∧ w'.cell? ⟨w1.heap.size, 2, none⟩ = some (.slice a3 n3 c3) ∧ w'.cell? ⟨w1.heap.size, 3, none⟩ = some (.slice a4 n4 c4))
      (first | exact ⟨cell_below (cell_below (cell_below (w := W.drew) d0 hb2) hb3) hb4, cell_below (cell_below (cell_below (w := W.drew) d1 hb2) hb3) hb4, cell_below (cell_below (cell_below (w := W.drew) d2 hb2) hb3) hb4, cell_below (cell_below (cell_below (w := W.drew) d3 hb2) hb3) hb4⟩ | exact ⟨cell_below (cell_below (w := W.drew) d0 hb2) hb3, cell_below (cell_below (w := W.drew) d1 hb2) hb3, cell_below (cell_below (w := W.drew) d2 hb2) hb3, cell_below (cell_below (w := W.drew) d3 hb2) hb3⟩ | exact ⟨cell_below (w := W.drew) d0 hb2, cell_below (w := W.drew) d1 hb2, cell_below (w := W.drew) d2 hb2, cell_below (w := W.drew) d3 hb2⟩ | go_keep)
      (first
        | (go_at_call 51; (with_reducible refine (IH.out _ _ (seg S (pw (k + 1)) (cnt k)) _ (by omega) HPK.out HLA.out (by exact q3.out.below hbW.drew (Nat.le_refl _))).mono ?_); rw [← HA.out]; rintro e w2 ⟨u1, rfl, hu1, hb2⟩; obtain ⟨x1, z1, rfl⟩ := own_form hu1)
        | (go_at_call 51; (with_reducible refine (IH.out _ _ (seg S (pw (k + 1) + cnt k) (cnt k)) _ (by omega) HPK.out HLB.out (by exact q4.out.below (hbW.drew.trans (hb2.mono (by simp; omega))) (Nat.le_refl _))).mono ?_); rw [← HB.out]; rintro e w3 ⟨u2, rfl, hu2, hb3⟩; obtain ⟨x2, z2, rfl⟩ := own_form hu2)
        | (go_at_call 65; have hb02 := hbW.drew.trans (hb2.mono (by simp; omega)); have hb03 := hb02.trans (hb3.mono (by have := hb2.size; simp at this; omega)); (with_reducible refine (joined_any _ _ _ _ _ _ _ _ _ (by exact q2.out.below hb03 (Nat.le_refl _)) (by exact q1.out.below hb03 (Nat.le_refl _)) (by exact (Rd.own hu1).below hb3 (Nat.le_refl _)) (by exact Rd.own hu2) (by rw [HML.out]; omega) (by rw [HML.out]; omega)).mono ?_); rw [HML.out, ← HM.out]; rintro e w4 ⟨u3, rfl, hu3, hb4⟩))
    clear hwr
    go_wp2_with fail
    go_ret
    have hz1 := hb1.size
    have hz3 := hb03.size
    exact ⟨_, rfl, own_le hu3 (by omega), (hb1.trans (hb03.mono hz1)).trans (hb4.mono (by omega))⟩

theorem mirrored0 (n : Int) (v : Value) (S : List Bool) (w : World) (hn : n = pw 0) (hl : S.length = cnt 0) (hv : Rd w v (bools S)) :
    Calls Try.prog 52 #[.int .i64 n, v] w fun e w' => ∃ u, e = .returned u ∧ w'.ownsRow w.heap.size 4 1 u (cnt 0) (bools (mir 0 S)) ∧ Below w.heap.size w w' := by
  subst hn
  have h1 : S.length = 1 := by rw [hl]; rfl
  have HL1 := Lib.hid h1
  clear hl h1
  simp only [pw]
  go_enter Try.func52, Try.ntmps52
  go_wp2_with (at_builtin; refine appS el_bool rfl rfl (w0 := w) rfl rfl (by exact (Below.refl _ _).alloc (Nat.le_refl _) _) (by exact own_lit w w.heap.size _ _ 0 (Nat.le_refl _) rfl (by decide)) (by exact hv.below ((Below.refl _ _).alloc (Nat.le_refl _) _) (Nat.le_refl _)) (by exact bools_cell S) (by rw [bools_length, HL1.out]; decide) ?_; intro v1 w1 ho1 hb1 _)
  go_ret
  rw [bools_length, HL1.out, Nat.zero_add] at ho1
  exact ⟨_, rfl, ho1, hb1⟩

set_option maxHeartbeats 2000000 in
theorem mirrored_any (k : Nat) : ∀ (n : Int) (v : Value) (S : List Bool) (w : World), k ≤ 3 → n = pw k → S.length = cnt k → Rd w v (bools S) →
    Calls Try.prog 52 #[.int .i64 n, v] w fun e w' => ∃ u, e = .returned u ∧ w'.ownsRow w.heap.size 4 1 u (cnt k) (bools (mir k S)) ∧ Below w.heap.size w w' := by
  induction k with
  | zero => intro n v S w _ hn hl hv; exact mirrored0 n v S w hn hl hv
  | succ k ih =>
    intro n v S w hk hn hl hv
    have h1 := pw_pos k
    have h2 := pw_le (k + 1) hk
    have h3 := cnt_bd k (by omega)
    have hpw : pw (k + 1) = 2 * pw k := rfl
    have hcn : cnt (k + 1) = pw (k + 1) + 2 * cnt k := rfl
    subst hn
    have HPK := Lib.hid (show ((pw (k + 1) : Nat) : Int) / 2 = pw k by omega)
    have hne : (((pw (k + 1) : Nat) : Int) == 2) = false := by rw [beq_eq_false_iff_ne]; omega
    obtain ⟨a, cap, rfl, hc, hcm, ha, hno⟩ := hv
    rw [bools_length] at hc ⊢
    -- the four parts
    have hcs : (bools S).length = S.length := bools_length S
    have p1 : Rd w (.slice (a.map fun x => x.add (pw k)) (pw (k + 1) - pw k) (cap - pw k)) (bools (seg S (pw k) (pw k))) :=
      ⟨_, _, by rw [bools_length, seg_len _ _ _ (by omega)]; congr 1; omega, by rw [bools_length, seg_len _ _ _ (by omega)]; omega, by omega, by rw [← bools_seg]; exact ha.sub _ _, fun h => by have := hno (by simpa using h); omega⟩
    have p2 : Rd w (.slice a (pw k) cap) (bools (seg S 0 (pw k))) :=
      ⟨_, _, by rw [bools_length, seg_len _ _ _ (by omega)], by rw [bools_length, seg_len _ _ _ (by omega)]; omega, by omega, by rw [← bools_seg]; exact ha.pre _, hno⟩
    have p3 : Rd w (.slice (a.map fun x => x.add (pw (k + 1))) (cnt k) (cap - pw (k + 1))) (bools (seg S (pw (k + 1)) (cnt k))) :=
      ⟨_, _, by rw [bools_length, seg_len _ _ _ (by omega)], by rw [bools_length, seg_len _ _ _ (by omega)]; omega, by omega, by rw [← bools_seg]; exact ha.sub _ _, fun h => by have := hno (by simpa using h); omega⟩
    have p4 : Rd w (.slice (a.map fun x => x.add (pw (k + 1) + cnt k)) (S.length - (pw (k + 1) + cnt k)) (cap - (pw (k + 1) + cnt k))) (bools (seg S (pw (k + 1) + cnt k) (cnt k))) :=
      ⟨_, _, by rw [bools_length, seg_len _ _ _ (by omega)]; congr 1; omega, by rw [bools_length, seg_len _ _ _ (by omega)]; omega, by omega, by rw [← bools_seg]; exact ha.sub _ _, fun h => by have := hno (by simpa using h); omega⟩
    have HLA : Hid ((seg S (pw (k + 1)) (cnt k)).length = cnt k) := Lib.hid (seg_len _ _ _ (by omega))
    have HLB : Hid ((seg S (pw (k + 1) + cnt k) (cnt k)).length = cnt k) := Lib.hid (seg_len _ _ _ (by omega))
    have HM : Hid (mir (k + 1) S = (((([] ++ seg S (pw k) (pw k)) ++ seg S 0 (pw k)) ++ mir k (seg S (pw (k + 1)) (cnt k))) ++ mir k (seg S (pw (k + 1) + cnt k) (cnt k)))) := Lib.hid (by simp only [mir]; simp)
    have l1 : Hid ((bools (seg S (pw k) (pw k))).length = pw k) := Lib.hid (by rw [bools_length, seg_len _ _ _ (by omega)])
    have l2 : Hid ((bools (seg S 0 (pw k))).length = pw k) := Lib.hid (by rw [bools_length, seg_len _ _ _ (by omega)])
    have l3 : Hid ((bools (mir k (seg S (pw (k + 1)) (cnt k)))).length = cnt k) := Lib.hid (by rw [bools_length, mir_len _ _ HLA.out])
    have l4 : Hid ((bools (mir k (seg S (pw (k + 1) + cnt k) (cnt k)))).length = cnt k) := Lib.hid (by rw [bools_length, mir_len _ _ HLB.out])
    have HSUM : Hid (0 + pw k + pw k + cnt k + cnt k = cnt (k + 1)) := Lib.hid (by omega)
    have IH := Lib.hid ih
    have e0 : (((pw (k + 1) : Nat) : Int) / 2).toNat = pw k := by omega
    have e1 : ((pw (k + 1) : Nat) : Int) / 2 ≤ cap := by omega
    have e2 : ((pw (k + 1) : Nat) : Int) ≤ cap := by omega
    have e3 : ((pw (k + 1) : Nat) : Int) + (cnt k : Nat) ≤ cap := by omega
    have e4 : ((pw (k + 1) : Nat) : Int) + (cnt k : Nat) ≤ S.length := by omega
    have e6 : 0 ≤ ((pw (k + 1) : Nat) : Int) / 2 := by omega
    have e7 : ((pw (k + 1) : Nat) : Int) / 2 ≤ (pw (k + 1) : Nat) := by omega
    have e8 : (((pw (k + 1) : Nat) : Int) + (cnt k : Nat)).toNat = pw (k + 1) + cnt k := by omega
    have e9 : ¬ cap = pw (k + 1) + cnt k := by omega
    clear ih hl ha hpw hcn hcs
    go_enter Try.func52, Try.ntmps52
    go_wp2_with (first
      | (go_at_call 57; refine (switches_any k _ _ (by omega) HPK.out).mono ?_; rintro e w' ⟨rfl, rfl⟩)
      | (go_at_call 52; (with_reducible refine (IH.out _ _ _ _ (by omega) HPK.out HLA.out (by exact p3.below hb2 (Nat.le_refl _))).mono ?_); rintro e w3 ⟨u3, rfl, hu3, hb3⟩)
      | (go_at_call 52; (with_reducible refine (IH.out _ _ _ _ (by omega) HPK.out HLB.out (by exact p4.below hb4 (Nat.le_refl _))).mono ?_); rintro e w5 ⟨u5, rfl, hu5, hb5⟩)
      | (at_builtin; refine appS el_bool rfl rfl (w0 := w) rfl rfl (by exact Below.refl _ _) (by exact World.ownsRow_nil _ _ _ _) (by exact p1) (by exact bools_cell _) (by rw [l1.out]; omega) ?_; rw [l1.out]; intro v1 w1 ho1 hb1 _)
      | (at_builtin; refine appS el_bool rfl rfl (w0 := w) rfl rfl (by exact hb1) (by exact ho1) (by exact p2.below hb1 (Nat.le_refl _)) (by exact bools_cell _) (by rw [l2.out]; omega) ?_; rw [l2.out]; intro v2 w2 ho2 hb2 _)
      | (at_builtin; refine appS el_bool rfl rfl (w0 := w) rfl rfl (by exact hb2.trans (hb3.mono hb2.size)) (by exact own_below ho2 hb3) (by exact Rd.own hu3) (by exact bools_cell _) (by rw [l3.out]; omega) ?_; rw [l3.out]; intro v4 w4 ho4 hb4 _)
      | (at_builtin; refine appS el_bool rfl rfl (w0 := w) rfl rfl (by exact hb4.trans (hb5.mono hb4.size)) (by exact own_below ho4 hb5) (by exact Rd.own hu5) (by exact bools_cell _) (by rw [l4.out]; omega) ?_; rw [l4.out]; intro v6 w6 ho6 hb6 _))
    go_ret
    refine ⟨_, rfl, ?_, hb6⟩
    rw [HM.out, bools_append, bools_append, bools_append, bools_append, ← HSUM.out]
    exact ho6

end Go.Proofs.Ytelnlmhelkcliaa

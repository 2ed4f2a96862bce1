/- Layout: visits. -/
import Derived.Test.YtpakkjkjppibnaaGVis
import Derived.Test.YtpakkjkjppibnaaKCheck
import Derived.Test.YtpakkjkjppibnaaGMust2
import Derived.Outline
import Derived.Deep.CutRange
namespace Go.Proofs.Ytpakkjkjppibnaa
open Go.RowKit Go.Maps

/-- lists of cells, each in a slice -/
def RdPP (w : World) (v : Value) (ps : List (List Ce)) : Prop := ∃ vs : List Value, Rd w v vs ∧ vs.length = ps.length ∧ ∀ (i : Nat) (u : Value) (p : List Ce), vs[i]? = some u → ps[i]? = some p → RdP w u p
theorem RdPP.below {w w' : World} {v : Value} {ps : List (List Ce)} (h : RdPP w v ps) (hb : Below w.heap.size w w') : RdPP w' v ps := by
  obtain ⟨vs, h1, h2, h3⟩ := h
  exact ⟨vs, h1.below hb (Nat.le_refl _), h2, fun i u p hu hp => (h3 i u p hu hp).below hb⟩

section
variable {P : Program} {ops : Array Oper} {rest : List Oper} {o : Oper} {a : Act} {Q : Exit → Act → World → Prop}
theorem appAt {t e : TypeId} {z : Value} {size bytes : Nat} (EO : ElemK P t e z size bytes) (hgd : o.guard = none) {s x : Operand}
    (ho : o.op = .call { callee := .builtin .append, args := #[s, x], argTypes := #[t, t] })
    {B blk c : Nat} {W : World} {v : Value} {n : Nat} {xs cur : List Value} (hs : a.eval s = v) (hx : a.eval x = .slice (some ⟨blk, 0, none⟩) 1 c) (hcur : ∀ j u, cur[j]? = some u → W.cell? ⟨blk, j, none⟩ = some u)
    (hbase : B ≤ W.heap.size) (hown : W.ownsRow B e size v n xs) (hk : cur.length = size) (h1 : ∀ u ∈ cur, u.oneCell' = true) (hn : n ≤ 4000000)
    (h : ∀ v' w', w'.ownsRow B e size v' (n + 1) (xs ++ cur) → W.grownBy w' v.ownBlock → (v'.ownBlock = v.ownBlock ∨ v'.ownBlock = some W.heap.size) → wpList P ops Q rest (a.put o.dst v') w') : wpList P ops Q (o :: rest) a W := by
  obtain ⟨i, hi, hz, hsz, hby⟩ := EO.info
  have hsm := EO.small
  refine wpList_append_own_at W hgd s x t ho B e i z size bytes EO.und hi hz hsz hby EO.zc EO.pos v n xs hs hown ⟨blk, 0, none⟩ 1 c cur hx (by simp [hk]) (fun j u hj => ?_) h1 (by unfold maxLen; omega) ?_ hbase (fun v' w' ho' hg _ hl => h v' w' ho' hg hl)
  · rw [Addr.add_lit, Nat.zero_add]; exact hcur j u hj
  · have : (n + 1) * bytes ≤ (n + 1) * 96 := Nat.mul_le_mul_left _ hsm
    omega
end
section
variable {ops : Array Oper} {rest : List Oper} {o : Oper} {a : Act} {Q : Exit → Act → World → Prop}
def BackV (w1 : World) (b n B : Nat) (G : Ce → List Vis) (c : Ce) (v0 : Value) (st : Nat) : Prop :=
  ∀ (w2 : World) (v' : Value) (x : Vis), w1.grownBy w2 v0.ownBlock → w2.ownsRow B 151 3 v' ((G c).length + 1) (visC (G c ++ [x])) → (v'.ownBlock = v0.ownBlock ∨ v'.ownBlock = some w1.heap.size) →
    ∃ w3, (Instr.entryStore 147 (.map (some b)) (goInt st) v').run Try.prog w2 = .ok () w3 ∧ VM w3 b (n + 1) B (updG G c x) ∧ w2.grownBy w3 (some b)
theorem wp_vm_entry (w : World) (hg : o.guard = none) (m x : Operand) (hop : o.op = Op.mapEntry 147 m x) (b n B : Nat) (G : Ce → List Vis) (c : Ce)
    (hm : a.eval m = .map (some b)) (h : VM w b n B G) (hn : n < maxLen) (hx : a.eval x = .agg #[.int .i64 c.1, .int .i64 c.2]) (hc : WfC c)
    (hK : ∀ v0 st w1, w.grownBy w1 (some b) → w1.heap.size = w.heap.size → w1.ownsRow B 151 3 v0 (G c).length (visC (G c)) → v0.ownBlock ≠ some b → (∃ es cl, w1.heap[b]? = some (.map es cl)) → BackV w1 b n B G c v0 st → wpList Try.prog ops Q rest (a.put o.dst (.tuple #[v0, goInt st])) w1) : wpList Try.prog ops Q (o :: rest) a w := by
  refine wpList_plain hg fun K' hK' => ?_
  obtain ⟨v0, st, w1, hrun, r1, r2, r3, r4, r6, r5⟩ := vm_entry h hn hc
  unfold Oper.wp
  simp [execOp, hop, hm, hx, hrun, Result.andThen]
  exact hK' _ _ (hK v0 st w1 r1 r2 r3 r4 r6 r5)
theorem wp_vm_store {w2 w1 : World} (hg : o.guard = none) (m s x : Operand) (hop : o.op = Op.entryStore 147 m s x) {b n B : Nat} {G : Ce → List Vis} {c : Ce} {v0 v' : Value} {st : Nat} (vis : Vis)
    (hbk : BackV w1 b n B G c v0 st) (hm : a.eval m = .map (some b)) (hs : a.eval s = goInt st) (hx : a.eval x = v') (h1 : w1.grownBy w2 v0.ownBlock) (h2 : w2.ownsRow B 151 3 v' ((G c).length + 1) (visC (G c ++ [vis])))
    (h3 : v'.ownBlock = v0.ownBlock ∨ v'.ownBlock = some w1.heap.size)
    (hK : ∀ w3, VM w3 b (n + 1) B (updG G c vis) → w2.grownBy w3 (some b) → wpList Try.prog ops Q rest (a.put o.dst undef) w3) : wpList Try.prog ops Q (o :: rest) a w2 := by
  refine wpList_plain hg fun K' hK' => ?_
  obtain ⟨w3, hrun, r1, r2⟩ := hbk w2 v' vis h1 h2 h3
  unfold Oper.wp
  simp [execOp, hop, hm, hs, hx, hrun, Result.andThen]
  exact hK' _ _ (hK w3 r1 r2)
end
theorem below_grownV {A B : World} (h : Below A.heap.size A B) : A.grownBy B none := ⟨h.os, h.tape, h.output, h.size, fun k hk _ => h.block k hk⟩
theorem own_other {w : World} {B1 n1 s1 B2 n2 s2 : Nat} {e1 e2 : TypeId} {v1 v2 : Value} {x1 x2 : List Value} (h1 : w.ownsRow B1 e1 s1 v1 n1 x1) (h2 : w.ownsRow B2 e2 s2 v2 n2 x2) (he : e1 ≠ e2) : v1.ownBlock = none ∨ v1.ownBlock ≠ v2.ownBlock := by
  rcases h1.2 with ⟨rfl, _⟩ | ⟨g1, c1, cur1, rfl, _, g1h, _⟩
  · exact .inl rfl
  · refine .inr ?_
    rcases h2.2 with ⟨rfl, _⟩ | ⟨g2, c2, cur2, rfl, _, g2h, _⟩
    · simp [Value.ownBlock]
    · intro e
      obtain rfl : g1 = g2 := Option.some.inj e
      rw [g1h] at g2h
      simp only [Option.some.injEq, Obj.cells.injEq] at g2h
      exact he g2h.2.1
theorem el_vis : ElemK Try.prog 149 151 (.agg #[.int .i64 0, .int .i64 0, .bool false]) 3 24 :=
  ⟨by kernel_rfl, info_parts (by kernel_rfl), by rfl, by decide, by decide⟩

/-- what path n does in its i-th cell, its directions being D -/
def visOf (n : Nat) (D : List Int) (i : Nat) : Vis := if 0 < i ∧ i < D.length then (n, D.getD i 0, D.getD i 0 == D.getD (i - 1) 0) else (n, 0, false)
def visL (n : Nat) (D : List Int) (p : List Ce) (G : Ce → List Vis) : Nat → Ce → List Vis
  | 0 => G
  | i + 1 => updG (visL n D p G i) (p.getD i (0, 0)) (visOf n D i)
def visA (ps : List (List Ce)) : Nat → Ce → List Vis
  | 0 => fun _ => []
  | n + 1 => visL n (dirsR (ps.getD n [])).1 (ps.getD n []) (visA ps n) (ps.getD n []).length

theorem updG_len (G : Ce → List Vis) (c z : Ce) (x : Vis) : (updG G c x z).length ≤ (G z).length + 1 := by
  unfold updG
  split
  · rename_i h; rw [h]; simp
  · omega
theorem visL_len (n : Nat) (D : List Int) (p : List Ce) (G : Ce → List Vis) (c : Ce) : ∀ i, (visL n D p G i c).length ≤ (G c).length + i
  | 0 => Nat.le_refl _
  | i + 1 => by
    have h1 := visL_len n D p G c i
    have h2 := updG_len (visL n D p G i) (p.getD i (0, 0)) c (visOf n D i)
    show (updG (visL n D p G i) (p.getD i (0, 0)) (visOf n D i) c).length ≤ _
    omega
theorem visA_len {ps : List (List Ce)} (h : ∀ p ∈ ps, p.length ≤ 1000) (c : Ce) : ∀ n, n ≤ ps.length → (visA ps n c).length ≤ n * 1000
  | 0, _ => by simp [visA]
  | n + 1, hn => by
    have h1 := visA_len h c n (by omega)
    have h2 := visL_len n (dirsR (ps.getD n [])).1 (ps.getD n []) (visA ps n) c (ps.getD n []).length
    have h3 : (ps.getD n []).length ≤ 1000 := h _ (by rw [List.getD_eq_getElem?_getD, List.getElem?_eq_getElem (by omega)]; exact List.getElem_mem _)
    show (visL n _ _ _ _ c).length ≤ _
    omega
theorem cur3 {W : World} {blk : Nat} {a b c : Value} (h0 : W.cell? ⟨blk, 0, none⟩ = some a) (h1 : W.cell? ⟨blk, 1, none⟩ = some b) (h2 : W.cell? ⟨blk, 2, none⟩ = some c) : ∀ j u, [a, b, c][j]? = some u → W.cell? ⟨blk, j, none⟩ = some u
  | 0, u, h => by simp at h; rw [h0, h]
  | 1, u, h => by simp at h; rw [h1, h]
  | 2, u, h => by simp at h; rw [h2, h]
  | j + 3, u, h => by simp at h
theorem vis_round {w wr W0 w1 w2 w3 : World} {v0 dv : Value} {B2 m n0 : Nat} {D : List Value} {xs : List Value} (hB : Below w.heap.size w wr) (h0 : wr.grownBy W0 none) (h1 : W0.grownBy w1 (some w.heap.size)) (h2 : w1.grownBy w2 v0.ownBlock) (h3 : w2.grownBy w3 (some w.heap.size))
    (ho : w1.ownsRow w.heap.size 151 3 v0 n0 xs) (hm : ∃ es cl, W0.heap[w.heap.size]? = some (.map es cl)) (hm2 : ∃ es cl, w2.heap[w.heap.size]? = some (.map es cl)) (hD : wr.ownsRow B2 3 1 dv m D) : Below w.heap.size w w3 ∧ w3.ownsRow B2 3 1 dv m D := by
  have b0 := hB.grown h0 hB.size (fun k e => by cases e)
  have b1 := b0.grown h1 b0.size (fun k e => by cases e; exact Nat.le_refl _)
  have b2 := b1.grown h2 b1.size (fun k e => (ho.lt k e).1)
  have b3 := b2.grown h3 b2.size (fun k e => by cases e; exact Nat.le_refl _)
  obtain ⟨es, cl, hm⟩ := hm
  obtain ⟨es2, cl2, hm2⟩ := hm2
  have d0 := hD.kept h0 (by cases dv.ownBlock <;> simp)
  have d1 := d0.kept h1 (.inr (own_notmap d0 hm))
  have d2 := d1.kept h2 (own_other d1 ho (by decide))
  exact ⟨b3, d2.kept h3 (.inr (own_notmap d2 hm2))⟩
theorem hmap2 {w1 w2 : World} {b : Nat} {v0 : Value} (h : ∃ es cl, w1.heap[b]? = some (.map es cl)) (h2 : w1.grownBy w2 v0.ownBlock) (hn : v0.ownBlock ≠ some b) : ∃ es cl, w2.heap[b]? = some (.map es cl) := by
  obtain ⟨es, cl, h⟩ := h
  exact ⟨es, cl, (h2.block b (Array.getElem?_eq_some_iff.1 h).1 (fun e => hn e.symm)).trans h⟩
theorem frozen_newV (U : World) (cs : Array Value) (e : TypeId) (q B : Nat) (hB : B = U.heap.size) : (U.alloc (.cells cs e)).frozen? ⟨B, q, none⟩ = false := by
  subst hB
  have h := heap_alloc_new U (.cells cs e)
  generalize U.alloc (.cells cs e) = V at h ⊢
  simp [World.frozen?, h]
theorem cell_set_far {W : World} {a b : Addr} {u v : Value} (h : W.cell? a = some v) (hne : a.block ≠ b.block) : (W.setCell b u).cell? a = some v := by
  rw [World.cell?_of_block (Below.heap_setCell W b u a.block hne)]; exact h
theorem VM.map {w : World} {b n B : Nat} {G : Ce → List Vis} (h : VM w b n B G) : ∃ es cl, w.heap[b]? = some (.map es cl) := by
  obtain ⟨F, h1, _⟩ := h
  exact h1.block

set_option maxRecDepth 100000 in
set_option maxHeartbeats 4000000 in
theorem visits_any (ps : List (List Ce)) (v : Value) (w : World) (hv : RdPP w v ps) (hN : ps.length ≤ 12) (hL : ∀ p ∈ ps, p.length ≤ 1000) (hwf : ∀ p ∈ ps, WfL p) :
    Calls Try.prog 104 #[v] w fun e w' => e = .returned (.map (some w.heap.size)) ∧ (∃ cnt, VM w' w.heap.size cnt w.heap.size (visA ps ps.length)) ∧ Below w.heap.size w w' := by
  obtain ⟨vs, hrd, hvl, hall⟩ := hv
  obtain ⟨N, hNN⟩ : ∃ N, ps.length = N := ⟨_, rfl⟩
  rw [hNN] at hvl hN ⊢
  obtain ⟨a, cap, rfl, hc, hcm, ha, _⟩ := Rd.parts hrd hvl
  have HA := Lib.hid ha
  have HALL := Lib.hid hall
  have HVL := Lib.hid hvl
  have HNN := Lib.hid hNN
  have HL := Lib.hid hL
  have HWF := Lib.hid hwf
  have HDI := Lib.hid (fun (p : List Ce) u V (hr : RdP V u p) (hw : WfL p) (hn : p.length ≤ 100000) => directions_any p u V hr hw hn)
  have hmm := @run_makeMap Try.prog
  clear hrd ha hall hvl hNN hL hwf
  go_enter Try.func104, Try.ntmps104
  go_wp2_with fail
  clear hmm
  go_loopw [14] (fun i wr => ∃ n cnt : Nat, n ≤ N ∧ cnt ≤ n * 1000 ∧ i = .int .i64 n ∧ Hid (VM wr w.heap.size cnt w.heap.size (visA ps n)) ∧ Hid (Below w.heap.size w wr)) (fun i _ => N - (intOf i).toNat)
  case atStart => exact ⟨0, 0, by omega, by omega, rfl, Lib.hid (VM.made w _ (Nat.le_refl _)), Lib.hid ((Below.refl _ _).alloc (Nat.le_refl _) _)⟩
  case round =>
    obtain ⟨n, cnt, hn, hcnt, rfl, HV, HB⟩ := hrel
    by_cases hlt : n < N
    · have hlt' : (n : Int) < (N : Int) := by omega
      obtain ⟨u, hu⟩ : ∃ u, vs[n]? = some u := ⟨_, List.getElem?_eq_getElem (by rw [HVL.out]; exact hlt)⟩
      obtain ⟨p, hp⟩ : ∃ p, ps[n]? = some p := ⟨_, List.getElem?_eq_getElem (by rw [HNN.out]; exact hlt)⟩
      have hpm := List.mem_of_getElem? hp
      have HPD : Hid (ps.getD n [] = p) := Lib.hid (by rw [List.getD_eq_getElem?_getD, hp]; rfl)
      have HR0 := Lib.hid (HALL.out n u p hu hp)
      have hpl := HL.out p hpm
      have HWP := Lib.hid (HWF.out p hpm)
      rcases HA.out with hnil | ⟨bs, os, rfl, hcell⟩
      · have := congrArg List.length hnil
        rw [HVL.out] at this
        exact absurd this (by simp; omega)
      have q0 := cell_below (hcell n u hu) HB.out
      have hrr := HR0.out
      obtain ⟨ap, cp, rfl, hcp1, hcp2, hap, _⟩ := hrr
      have HAP := Lib.hid hap
      have HDN := Lib.hid (HDI.out p _ wr (HR0.out.below HB.out) HWP.out (by omega))
      obtain ⟨L, hLe⟩ : ∃ L, p.length = L := ⟨_, rfl⟩
      have HLE := Lib.hid hLe
      rw [hLe] at q0 hpl hcp1 HDN
      obtain ⟨D, hD⟩ : ∃ D, (dirsR p).1 = D := ⟨_, rfl⟩
      obtain ⟨ok, hok⟩ : ∃ ok, (dirsR p).2 = ok := ⟨_, rfl⟩
      rw [hD, hok] at HDN
      have HD := Lib.hid hD
      clear hu hp hpm hcell hap hLe hD hok
      go_wp2_with (go_at_call 64; (with_reducible refine HDN.out.mono ?_); rintro e w5 ⟨⟨ud, rfl, hod⟩, hb5⟩; have HO5 := Lib.hid hod; have HB5 := Lib.hid (HB.out.trans (hb5.mono HB.out.size)); have HV5 := Lib.hid (HV.out.kept (below_grownV hb5)); obtain ⟨da, dc, rfl⟩ := own_form hod; clear hod hb5)
      obtain ⟨m, hm⟩ : ∃ m, D.length = m := ⟨_, rfl⟩
      have HM := Lib.hid hm
      rw [hm] at HO5 ⊢
      clear hm q0
      obtain ⟨wo, rfl⟩ : ∃ wo, wo = wr := ⟨_, rfl⟩
      go_loopw [26] (fun p0 wx => ∃ i cn : Nat, i ≤ L ∧ cn ≤ n * 1000 + i ∧ p0 = .int .i64 i ∧ Hid (VM wx w.heap.size cn w.heap.size (visL n D p (visA ps n) i)) ∧ Hid (Below w.heap.size w wx) ∧ Hid (wx.ownsRow wo.heap.size 3 1 (.slice da m dc) m (ints D))) (fun p0 _ => L - (intOf p0).toNat)
      case atStart => exact ⟨0, cnt, by omega, by omega, rfl, HV5, HB5, HO5⟩
      case round =>
        clear HV HB
        obtain ⟨i, cn, hi, hcn, rfl, HV, HB, HO⟩ := hrel
        by_cases hil : i < L
        · have hil' : (i : Int) < (L : Int) := by omega
          obtain ⟨⟨x, y⟩, hx⟩ : ∃ z, p[i]? = some z := ⟨_, List.getElem?_eq_getElem (by rw [HLE.out]; exact hil)⟩
          obtain ⟨bq, oq, rfl, c0, c1⟩ := RdP.cell (HAP.out.below HB.out (Nat.le_refl _)) hx
          have HGX : Hid (p.getD i (0, 0) = (x, y)) := Lib.hid (by rw [List.getD_eq_getElem?_getD, hx]; rfl)
          have HWX := Lib.hid (HWP.out (x, y) (List.mem_of_getElem? hx))
          dsimp only at c0 c1
          obtain ⟨G, hG⟩ : ∃ G, visL n D p (visA ps n) i = G := ⟨_, rfl⟩
          rw [hG] at HV
          have HG := Lib.hid hG
          have HGL : Hid ((G (x, y)).length ≤ 4000000) := Lib.hid (by
            have e1 := visL_len n D p (visA ps n) (x, y) i
            have e2 := visA_len HL.out (x, y) n (by rw [HNN.out]; omega)
            rw [hG] at e1
            omega)
          clear hx hG
          by_cases hs : 0 < i ∧ i < m
          · obtain ⟨hs1, hs2⟩ := hs
            have g1 : decide (0 < (i : Int)) = true := decide_eq_true (by omega)
            have g2 : decide ((i : Int) < (m : Int)) = true := decide_eq_true (by omega)
            obtain ⟨di, hdi⟩ : ∃ x, D.getD i 0 = x := ⟨_, rfl⟩
            obtain ⟨dj, hdj⟩ : ∃ x, D.getD (i - 1) 0 = x := ⟨_, rfl⟩
            have HVO : Hid (visOf n D i = ((n : Int), di, di == dj)) := Lib.hid (by unfold visOf; rw [if_pos ⟨hs1, by rw [HM.out]; exact hs2⟩, hdi, hdj])
            obtain ⟨gd, cd, hde, _, hgd⟩ := own_some HO.out (by omega)
            injection hde with hd1 hd2 hd3
            subst hd1 hd3
            have r1 : wr.cell? ⟨gd, i, none⟩ = some (.int .i64 di) := by rw [HO.out.cellAt i (by omega), ints_getD (by rw [HM.out]; exact hs2), hdi]
            have r2 : wr.cell? ⟨gd, i - 1, none⟩ = some (.int .i64 dj) := by rw [HO.out.cellAt (i - 1) (by omega), ints_getD (by rw [HM.out]; omega), hdj]
            have HBS : Hid (w.heap.size < wr.heap.size) := Lib.hid HV.out.lt
            have HRR := Lib.hid (And.intro r1 r2)
            clear r1 r2 hdi hdj hd2 hgd
            go_wp2_with fail
            obtain ⟨wv, hwv⟩ : ∃ wv, (wr.alloc (.cells #[.int .i64 x, .int .i64 y] 26)).alloc (.cells #[.int .i64 n, .int .i64 0, .bool false] 151) = wv := ⟨_, rfl⟩
            have hbv : Below wr.heap.size wr wv := by rw [← hwv]; exact ((Below.refl _ _).alloc (Nat.le_refl _) _).alloc (by simp) _
            have hsz : wv.heap.size = wr.heap.size + 1 + 1 := by rw [← hwv]; simp
            have e0 : wv.cell? ⟨wr.heap.size, 0, none⟩ = some (.int .i64 x) := by rw [← hwv]; exact cell_alloc (World.cell?_alloc_at _ _ _ _ rfl) _
            have e1 : wv.cell? ⟨wr.heap.size, 1, none⟩ = some (.int .i64 y) := by rw [← hwv]; exact cell_alloc (World.cell?_alloc_at _ _ _ _ rfl) _
            have v0' : wv.cell? ⟨wr.heap.size + 1, 0, none⟩ = some (.int .i64 n) := by rw [← hwv]; exact World.cell?_alloc_at _ _ _ _ (by simp)
            have v1' : wv.cell? ⟨wr.heap.size + 1, 1, none⟩ = some (.int .i64 0) := by rw [← hwv]; exact World.cell?_alloc_at _ _ _ _ (by simp)
            have v2' : wv.cell? ⟨wr.heap.size + 1, 2, none⟩ = some (.bool false) := by rw [← hwv]; exact World.cell?_alloc_at _ _ _ _ (by simp)
            have vf : ∀ q, wv.frozen? ⟨wr.heap.size + 1, q, none⟩ = false := fun q => by rw [← hwv]; exact frozen_newV _ _ _ _ _ (by simp)
            rw [hwv]
            have HBV := Lib.hid hbv
            have HSZ := Lib.hid hsz
            have HCC := Lib.hid (And.intro e0 (And.intro e1 (And.intro v0' (And.intro v1' (And.intro v2' vf)))))
            have k1 := cell_below HRR.out.1 HBV.out
            have k2 := cell_below HRR.out.2 HBV.out
            have hgw : gd ≠ wr.heap.size + 1 := by have h := World.block_lt_of_cell? _ _ HRR.out.1; dsimp only at h; omega
            have e0 := HCC.out.1
            have e1 := HCC.out.2.1
            have v0' := HCC.out.2.2.1
            have v1' := HCC.out.2.2.2.1
            have v2' := HCC.out.2.2.2.2.1
            have vf1 := HCC.out.2.2.2.2.2 1
            have vf2 := HCC.out.2.2.2.2.2 2
            have i1 : (0 : Int) ≤ (i : Int) := by omega
            have i2 : (i : Int) < (m : Int) := by omega
            have i3 : IntKind.i64.wrap ((i : Int) - 1) = (i : Int) - 1 := IntWalk.i64_in _ (by omega)
            have i4 : (1 : Int) ≤ (i : Int) := by omega
            have i5 : (0 : Int) ≤ (i : Int) - 1 := by omega
            have i6 : (i : Int) - 1 < (m : Int) := by omega
            have i7 : ((i : Int) - 1).toNat = i - 1 := by omega
            clear hwv hbv hsz e0 e1 v0' v1' v2' vf
            go_cut [] from 41 to 56 (fun wx => Hid (wx = ((wv.setCell ⟨wr.heap.size + 1, 1, none⟩ (.int .i64 di)).setCell ⟨wr.heap.size + 1, 2, none⟩ (.bool (di == dj))).drew))
            case first =>
              go_region_law (fail)
              all_goals (
                go_wp2_with fail
                go_meet
                exact Lib.hid rfl)
            case rest =>
              have HWC := Lib.hid hcut.out
              clear k1 k2 i1 i2 i3 i4 i5 i6 i7 e0 e1 v0' v1' v2' vf1 vf2 hgw hcut
              have hx7 : XYc wc wr.heap.size (x, y) := by
                rw [HWC.out]
                exact ⟨cell_set_far (cell_set_far HCC.out.1 (by simp)) (by simp), cell_set_far (cell_set_far HCC.out.2.1 (by simp)) (by simp)⟩
              have hv7 : wc.cell? ⟨wr.heap.size + 1, 0, none⟩ = some (.int .i64 n) ∧ wc.cell? ⟨wr.heap.size + 1, 1, none⟩ = some (.int .i64 di) ∧ wc.cell? ⟨wr.heap.size + 1, 2, none⟩ = some (.bool (di == dj)) := by
                rw [HWC.out]
                refine ⟨(World.cell?_setCell_other _ _ _ _ (by simp)).trans ((World.cell?_setCell_other _ _ _ _ (by simp)).trans HCC.out.2.2.1), (World.cell?_setCell_other _ _ _ _ (by simp)).trans (World.cell?_setCell_same _ _ _ HCC.out.2.2.2.1), World.cell?_setCell_same _ _ _ ((World.cell?_setCell_other _ _ _ _ (by simp)).trans HCC.out.2.2.2.2.1)⟩
              obtain ⟨e0, e1⟩ := hx7
              obtain ⟨v0', v1', v2'⟩ := hv7
              have HB7 : Hid (Below wr.heap.size wr wc) := Lib.hid (by
                rw [HWC.out]
                exact ((HBV.out.setCell (by dsimp only; omega) _).setCell (by dsimp only; omega) _).drew)
              have HS6 : Hid (wr.heap.size + 1 + 1 ≤ wc.heap.size) := Lib.hid (by rw [HWC.out]; have h2 := HSZ.out; simp; omega)
              have HNB : Hid (wc.heap.size ≠ w.heap.size) := Lib.hid (by have h1 := HS6.out; have h2 := HBS.out; omega)
              go_wp2_with (first
                | (refine wp_vm_entry _ rfl _ _ rfl w.heap.size cn w.heap.size G (x, y) rfl ((HV.out.kept (below_grownV HB7.out)).kept (World.grownBy_alloc _ _ _)) (by unfold maxLen; omega) rfl HWX.out ?_; intro v0 st w1 hg1 hs1 ho1 hn1 hm1 hbk; have f0 : w1.cell? ⟨wc.heap.size, 0, none⟩ = some (.int .i64 n) := hg1.cell (World.cell?_alloc_at _ _ _ _ (by simp)) (fun e => HNB.out (Option.some.inj e)); have f1 : w1.cell? ⟨wc.heap.size, 1, none⟩ = some (.int .i64 di) := hg1.cell (World.cell?_alloc_at _ _ _ _ (by simp)) (fun e => HNB.out (Option.some.inj e)); have f2 : w1.cell? ⟨wc.heap.size, 2, none⟩ = some (.bool (di == dj)) := hg1.cell (World.cell?_alloc_at _ _ _ _ (by simp)) (fun e => HNB.out (Option.some.inj e)))
                | (at_builtin; refine appAt el_vis rfl rfl (v := v0) (n := (G (x, y)).length) (xs := visC (G (x, y))) (B := w.heap.size) (blk := wc.heap.size) (c := 1) (cur := [.int .i64 n, .int .i64 di, .bool (di == dj)]) rfl rfl (cur3 f0 f1 f2) (by rw [hs1]; have h1 := HBS.out; have h2 := HS6.out; simp; omega) ho1 rfl (by simp [Value.oneCell']) HGL.out ?_; intro v2 w2 ho2 hg2 hl2)
                | (refine wp_vm_store (v' := v2) rfl _ _ _ rfl ((n : Int), di, (di == dj)) hbk rfl rfl rfl hg2 (by rw [visC_append]; exact ho2) hl2 ?_; intro w3 hv3 hg3))
              have HFIN := Lib.hid (vis_round HB.out ((below_grownV HB7.out).trans (World.grownBy_alloc _ _ _)) hg1 hg2 hg3 ho1 (((HV.out.kept (below_grownV HB7.out)).kept (World.grownBy_alloc _ _ _))).map (hmap2 hm1 hg2 hn1) HO.out)
              have HNX : Hid (visL n D p (visA ps n) (i + 1) = updG G (x, y) ((n : Int), di, (di == dj))) := Lib.hid (by
                show updG (visL n D p (visA ps n) i) (p.getD i (0, 0)) (visOf n D i) = _
                rw [HG.out, HGX.out, HVO.out])
              have HV3 := Lib.hid hv3
              clear hg1 hg2 hg3 ho1 ho2 hl2 hbk hv3 f0 f1 f2
              go_roundw
              case rel => exact ⟨i + 1, cn + 1, by omega, by omega, by go_num, Lib.hid (by rw [HNX.out]; exact HV3.out), Lib.hid HFIN.out.1, Lib.hid HFIN.out.2⟩
              case measure => simp [intOf]; omega
          · have HVO : Hid (visOf n D i = ((n : Int), 0, false)) := Lib.hid (by unfold visOf; rw [if_neg (by rw [HM.out]; exact hs)])
            have HBS : Hid (w.heap.size < wr.heap.size) := Lib.hid HV.out.lt
            have HNB : Hid (wr.heap.size + 1 + 1 ≠ w.heap.size) := Lib.hid (by have := HBS.out; omega)
            by_cases h1 : 0 < i
            · have g1 : decide (0 < (i : Int)) = true := decide_eq_true (by omega)
              have g2 : decide ((i : Int) < (m : Int)) = false := decide_eq_false (by omega)
              go_wp2_with (first
                | (refine wp_vm_entry _ rfl _ _ rfl w.heap.size cn w.heap.size G (x, y) rfl (((HV.out.kept (World.grownBy_alloc _ _ _)).kept (World.grownBy_alloc _ _ _)).kept (World.grownBy_alloc _ _ _)) (by unfold maxLen; omega) rfl HWX.out ?_; intro v0 st w1 hg1 hs1 ho1 hn1 hm1 hbk; have f0 : w1.cell? ⟨wr.heap.size + 1 + 1, 0, none⟩ = some (.int .i64 n) := hg1.cell (World.cell?_alloc_at _ _ _ _ (by simp)) (fun e => HNB.out (Option.some.inj e)); have f1 : w1.cell? ⟨wr.heap.size + 1 + 1, 1, none⟩ = some (.int .i64 0) := hg1.cell (World.cell?_alloc_at _ _ _ _ (by simp)) (fun e => HNB.out (Option.some.inj e)); have f2 : w1.cell? ⟨wr.heap.size + 1 + 1, 2, none⟩ = some (.bool false) := hg1.cell (World.cell?_alloc_at _ _ _ _ (by simp)) (fun e => HNB.out (Option.some.inj e)))
                | (at_builtin; refine appAt el_vis rfl rfl (v := v0) (n := (G (x, y)).length) (xs := visC (G (x, y))) (B := w.heap.size) (blk := wr.heap.size + 1 + 1) (c := 1) (cur := [.int .i64 n, .int .i64 0, .bool false]) rfl rfl (cur3 f0 f1 f2) (by rw [hs1]; have := HBS.out; simp; omega) ho1 rfl (by simp [Value.oneCell']) HGL.out ?_; intro v2 w2 ho2 hg2 hl2)
                | (refine wp_vm_store (v' := v2) rfl _ _ _ rfl ((n : Int), 0, false) hbk rfl rfl rfl hg2 (by rw [visC_append]; exact ho2) hl2 ?_; intro w3 hv3 hg3))
              have HFIN := Lib.hid (vis_round HB.out (((World.grownBy_alloc wr _ none).trans (World.grownBy_alloc _ _ _)).trans (World.grownBy_alloc _ _ _)) hg1 hg2 hg3 ho1 ((((HV.out.kept (World.grownBy_alloc _ _ _)).kept (World.grownBy_alloc _ _ _)).kept (World.grownBy_alloc _ _ _))).map (hmap2 hm1 hg2 hn1) HO.out)
              have HNX : Hid (visL n D p (visA ps n) (i + 1) = updG G (x, y) ((n : Int), 0, false)) := Lib.hid (by
                show updG (visL n D p (visA ps n) i) (p.getD i (0, 0)) (visOf n D i) = _
                rw [HG.out, HGX.out, HVO.out])
              have HV3 := Lib.hid hv3
              clear hg1 hg2 hg3 ho1 ho2 hl2 hbk hv3 f0 f1 f2
              go_roundw
              case rel => exact ⟨i + 1, cn + 1, by omega, by omega, by go_num, Lib.hid (by rw [HNX.out]; exact HV3.out), Lib.hid HFIN.out.1, Lib.hid HFIN.out.2⟩
              case measure => simp [intOf]; omega
            · have g1 : decide (0 < (i : Int)) = false := decide_eq_false (by omega)
              go_wp2_with (first
                | (refine wp_vm_entry _ rfl _ _ rfl w.heap.size cn w.heap.size G (x, y) rfl (((HV.out.kept (World.grownBy_alloc _ _ _)).kept (World.grownBy_alloc _ _ _)).kept (World.grownBy_alloc _ _ _)) (by unfold maxLen; omega) rfl HWX.out ?_; intro v0 st w1 hg1 hs1 ho1 hn1 hm1 hbk; have f0 : w1.cell? ⟨wr.heap.size + 1 + 1, 0, none⟩ = some (.int .i64 n) := hg1.cell (World.cell?_alloc_at _ _ _ _ (by simp)) (fun e => HNB.out (Option.some.inj e)); have f1 : w1.cell? ⟨wr.heap.size + 1 + 1, 1, none⟩ = some (.int .i64 0) := hg1.cell (World.cell?_alloc_at _ _ _ _ (by simp)) (fun e => HNB.out (Option.some.inj e)); have f2 : w1.cell? ⟨wr.heap.size + 1 + 1, 2, none⟩ = some (.bool false) := hg1.cell (World.cell?_alloc_at _ _ _ _ (by simp)) (fun e => HNB.out (Option.some.inj e)))
                | (at_builtin; refine appAt el_vis rfl rfl (v := v0) (n := (G (x, y)).length) (xs := visC (G (x, y))) (B := w.heap.size) (blk := wr.heap.size + 1 + 1) (c := 1) (cur := [.int .i64 n, .int .i64 0, .bool false]) rfl rfl (cur3 f0 f1 f2) (by rw [hs1]; have := HBS.out; simp; omega) ho1 rfl (by simp [Value.oneCell']) HGL.out ?_; intro v2 w2 ho2 hg2 hl2)
                | (refine wp_vm_store (v' := v2) rfl _ _ _ rfl ((n : Int), 0, false) hbk rfl rfl rfl hg2 (by rw [visC_append]; exact ho2) hl2 ?_; intro w3 hv3 hg3))
              have HFIN := Lib.hid (vis_round HB.out (((World.grownBy_alloc wr _ none).trans (World.grownBy_alloc _ _ _)).trans (World.grownBy_alloc _ _ _)) hg1 hg2 hg3 ho1 ((((HV.out.kept (World.grownBy_alloc _ _ _)).kept (World.grownBy_alloc _ _ _)).kept (World.grownBy_alloc _ _ _))).map (hmap2 hm1 hg2 hn1) HO.out)
              have HNX : Hid (visL n D p (visA ps n) (i + 1) = updG G (x, y) ((n : Int), 0, false)) := Lib.hid (by
                show updG (visL n D p (visA ps n) i) (p.getD i (0, 0)) (visOf n D i) = _
                rw [HG.out, HGX.out, HVO.out])
              have HV3 := Lib.hid hv3
              clear hg1 hg2 hg3 ho1 ho2 hl2 hbk hv3 f0 f1 f2
              go_roundw
              case rel => exact ⟨i + 1, cn + 1, by omega, by omega, by go_num, Lib.hid (by rw [HNX.out]; exact HV3.out), Lib.hid HFIN.out.1, Lib.hid HFIN.out.2⟩
              case measure => simp [intOf]; omega
        · obtain rfl : i = L := by omega
          have HNX : Hid (visA ps (n + 1) = visL n D p (visA ps n) i) := Lib.hid (by
            show visL n (dirsR (ps.getD n [])).1 (ps.getD n []) (visA ps n) (ps.getD n []).length = _
            rw [HPD.out, HD.out, HLE.out])
          go_wp2_with fail
          go_roundw
          case rel => exact ⟨n + 1, cn, by omega, by omega, by go_num, Lib.hid (by rw [HNX.out]; exact HV.out), Lib.hid HB.out⟩
          case measure => simp [intOf]; omega
    · obtain rfl : n = N := by omega
      go_wp2_with fail
      go_ret
      exact ⟨rfl, ⟨_, HV.out⟩, HB.out⟩
end Go.Proofs.Ytpakkjkjppibnaa

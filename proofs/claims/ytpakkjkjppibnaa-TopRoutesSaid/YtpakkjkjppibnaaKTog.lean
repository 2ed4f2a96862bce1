/- Layout: together, Together.
   Layout: a map from pairs of paths to counts (map[[2]int]int) in which the pair (0, 1) alone is counted.
   Layout: Crossed, of two paths. -/
import Derived.Test.YtpakkjkjppibnaaGCross
import Derived.Test.YtpakkjkjppibnaaGDet2
namespace Go.Proofs.Ytpakkjkjppibnaa
open Go.RowKit Go.Maps

/-- the error and the crossings of paths: C is the first error of the grid and the paths -/
def TogE (C : Int) (G : Ce → List Vis) (E : Int) (L : List Cx) : Prop :=
  (C ≠ 0 ∧ E = C ∧ L = []) ∨ (C = 0 ∧ E = 73 ∧ L = [] ∧ ∃ c, badV (G c) = true) ∨ (C = 0 ∧ E = 0 ∧ CrossOK G L)

set_option maxRecDepth 100000 in
set_option maxHeartbeats 2000000 in
theorem together_any (w h mv bd : Int) (bv : Value) (bl : List Ce) (ps : List (List Ce)) (v : Value) (W : World) (hb : RdP W bv bl) (hv : RdPP W v ps) (hw : ∀ p ∈ ps, WfL p) :
    Calls Try.prog 68 #[.agg #[.int .i64 w, .int .i64 h, .int .i64 mv, .int .i64 bd, bv], v] W fun e w' => Below W.heap.size W w' ∧
      ∃ u E L, TogE (chkF w h mv bd bl ps) (visA ps ps.length) E L ∧ L.length ≤ 12000 ∧ e = .returned (.tuple #[u, .int .i64 E]) ∧ w'.ownsRow W.heap.size 103 4 u L.length (L.flatMap encX) := by
  have HBW := Lib.hid ((Below.refl W.heap.size W).alloc (Nat.le_refl _) (.cells #[.int .i64 w, .int .i64 h, .int .i64 mv, .int .i64 bd, bv] 24))
  have HV := Lib.hid hv
  have HCK := Lib.hid (fun V (hV : Below W.heap.size W V) => checked_any w h mv bd bv bl ps v V (hb.below hV) (hv.below hV) hw)
  have hcr : chkF w h mv bd bl ps = 0 → ∀ V, RdPP V v ps → Calls Try.prog 92 #[v] V (CrossP (visA ps ps.length) V) := fun hc V hV => by
    obtain ⟨_, h12, hall⟩ := chkF_ok hc
    exact crossings_any ps v V hV h12 (fun p hp => (checkF_ok (hall p hp)).2.2.1) hw
  obtain ⟨av, nv, cv, rfl⟩ := RdPP.form hv
  obtain ⟨a, cap, rfl⟩ := RdP.form hb
  generalize visA ps ps.length = G at *
  generalize chkF w h mv bd bl ps = C at *
  by_cases hC : C = 0
  · subst hC
    have HCR := Lib.hid (hcr rfl)
    clear hcr hw hv
    go_enter Try.func68, Try.ntmps68
    go_wp2_with (first
      | (go_at_call 91; (with_reducible refine (HCK.out _ HBW.out).mono ?_); rintro e w1 ⟨⟨x, rfl⟩, hb1⟩; have HB1 := Lib.hid (HBW.out.trans (hb1.mono HBW.out.size)); clear hb1)
      | (go_at_call 92; (with_reducible refine (HCR.out _ (HV.out.below HB1.out)).mono ?_); intro e w2 hcp; unfold CrossP at hcp; obtain ⟨hb2, hcp⟩ := hcp; have HB2 := Lib.hid (HB1.out.trans (hb2.mono HB1.out.size)); clear hb2; rcases hcp with ⟨hbad, rfl⟩ | ⟨u, L, hok, hL12, rfl, hown⟩))
    · go_wp2_with fail
      go_ret2
      exact ⟨HB2.out, _, _, [], .inr (.inl ⟨rfl, rfl, rfl, hbad⟩), Nat.zero_le _, rfl, World.ownsRow_nil _ _ _ _⟩
    · have HOK := Lib.hid hok
      have HL12 := Lib.hid hL12
      have HOW := Lib.hid (own_le hown HB1.out.size)
      clear hok hL12 hown
      go_wp2_with fail
      go_ret2
      exact ⟨HB2.out, _, _, L, .inr (.inr ⟨rfl, rfl, HOK.out⟩), HL12.out, rfl, HOW.out⟩
  · have hCb : (C != 0) = true := by simpa using hC
    have HC := Lib.hid hC
    clear hcr hw hv hC
    go_enter Try.func68, Try.ntmps68
    go_wp2_with (go_at_call 91; (with_reducible refine (HCK.out _ HBW.out).mono ?_); rintro e w1 ⟨⟨x, rfl⟩, hb1⟩; have HB1 := Lib.hid (HBW.out.trans (hb1.mono HBW.out.size)); clear hb1)
    go_ret2
    exact ⟨HB1.out, _, _, [], .inl ⟨HC.out, rfl, rfl⟩, Nat.zero_le _, rfl, World.ownsRow_nil _ _ _ _⟩

theorem cur2 {W : World} {blk : Nat} {a b : Value} (h0 : W.cell? ⟨blk, 0, none⟩ = some a) (h1 : W.cell? ⟨blk, 1, none⟩ = some b) : ∀ j u, [a, b][j]? = some u → W.cell? ⟨blk, j, none⟩ = some u
  | 0, u, h => by simp at h; rw [h0, h]
  | 1, u, h => by simp at h; rw [h1, h]
  | j + 2, u, h => by simp at h
theorem encX_len (x : Cx) : (encX x).length = 4 := rfl
theorem own_encX {W : World} {B n : Nat} {v : Value} {L : List Cx} (h : W.ownsRow B 103 4 v n (L.flatMap encX)) (hn : L.length = n) {i : Nat} {x : Cx} (hx : L[i]? = some x) :
    ∃ g c, v = .slice (some ⟨g, 0, none⟩) n c ∧ g < W.heap.size ∧ B ≤ g ∧ W.cell? ⟨g, i * 4, none⟩ = some (.int .i64 x.1) ∧ W.cell? ⟨g, i * 4 + 1, none⟩ = some (.int .i64 x.2.1) ∧ W.cell? ⟨g, i * 4 + 2, none⟩ = some (.int .i64 x.2.2.1) ∧ W.cell? ⟨g, i * 4 + 3, none⟩ = some (.int .i64 x.2.2.2) := by
  obtain ⟨hi, hxe⟩ := List.getElem?_eq_some_iff.1 hx
  have hx1 : L[i]! = x := by rw [getElem!_pos L i hi]; exact hxe
  have key : ∀ j u, j < 4 → (encX x)[j]! = u → W.cell? (⟨(v.ownBlock).getD 0, i * 4 + j, none⟩ : Addr) = some u → True := fun _ _ _ _ _ => trivial
  rcases h.2 with ⟨_, e⟩ | ⟨g, cap, cur, rfl, hB, hg, _⟩
  · omega
  have hc : ∀ j, j < 4 → W.cell? ⟨g, i * 4 + j, none⟩ = some ((encX x)[j]!) := fun j hj => by
    rw [h.cellAt _ (by omega), flat_at encX_len (by decide) L (i * 4 + j) (by omega), show (i * 4 + j) / 4 = i by omega, show (i * 4 + j) % 4 = j by omega, hx1]
  exact ⟨g, cap, rfl, (Array.getElem?_eq_some_iff.1 hg).1, hB, hc 0 (by omega), hc 1 (by omega), hc 2 (by omega), hc 3 (by omega)⟩

set_option maxRecDepth 100000 in
set_option maxHeartbeats 2000000 in
theorem Together_any (w h mv bd : Int) (bv : Value) (bl : List Ce) (ps : List (List Ce)) (v : Value) (W : World) (hb : RdP W bv bl) (hv : RdPP W v ps) (hw : ∀ p ∈ ps, WfL p) :
    Calls Try.prog 32 #[.agg #[.int .i64 w, .int .i64 h, .int .i64 mv, .int .i64 bd, bv], v] W fun e w' => Below W.heap.size W w' ∧
      ∃ u E L, TogE (chkF w h mv bd bl ps) (visA ps ps.length) E L ∧ L.length ≤ 12000 ∧ e = .returned (.tuple #[u, .int .i64 E]) ∧ RdP w' u (L.map cellX) := by
  have HBW := Lib.hid ((Below.refl W.heap.size W).alloc (Nat.le_refl _) (.cells #[.int .i64 w, .int .i64 h, .int .i64 mv, .int .i64 bd, bv] 24))
  have HTG := Lib.hid (fun V (hV : Below W.heap.size W V) => together_any w h mv bd bv bl ps v V (hb.below hV) (hv.below hV) hw)
  obtain ⟨av, nv, cv, rfl⟩ := RdPP.form hv
  obtain ⟨a, cap, rfl⟩ := RdP.form hb
  generalize visA ps ps.length = G at *
  generalize chkF w h mv bd bl ps = C at *
  clear hw hv
  go_enter Try.func32, Try.ntmps32
  go_wp2_with (go_at_call 68; (with_reducible refine (HTG.out _ HBW.out).mono ?_); rintro e w1 ⟨hb1, u, E, L, htg, hL, rfl, hown⟩; have HB1 := Lib.hid (HBW.out.trans (hb1.mono HBW.out.size)); have HTE := Lib.hid htg; have HLL := Lib.hid hL; obtain ⟨ua, uc, rfl⟩ := own_form hown; have HOW := Lib.hid hown; clear htg hL hown hb1)
  obtain ⟨n, hn⟩ : ∃ n, L.length = n := ⟨_, rfl⟩
  rw [hn] at HOW HLL ⊢
  have HN := Lib.hid hn
  have hn12 := HLL.out
  clear hn
  go_loopw [8, 19] (fun p8 p19 wr => ∃ (k : Nat) (a' : Option Addr) (c' : Nat), k ≤ n ∧ p8 = .slice a' k c' ∧ p19 = .int .i64 k ∧ Hid (Below w1.heap.size w1 wr) ∧ Hid (wr.ownsRow w1.heap.size 26 2 (.slice a' k c') k (pairs ((L.take k).map cellX)))) (fun _ p19 _ => n - (intOf p19).toNat)
  case atStart => exact ⟨0, none, 0, Nat.zero_le _, rfl, rfl, Lib.hid (Below.refl _ _), Lib.hid (World.ownsRow_nil _ _ _ _)⟩
  case round =>
    obtain ⟨k, a', c', hk, rfl, rfl, HB, HO⟩ := hrel
    by_cases hkn : k < n
    · have hkn' : (k : Int) < (n : Int) := by omega
      obtain ⟨⟨x1, x2, x3, x4⟩, hx⟩ : ∃ x, L[k]? = some x := ⟨_, List.getElem?_eq_getElem (by rw [HN.out]; exact hkn)⟩
      obtain ⟨g, c, e, hgl, _, q0, q1, q2, q3⟩ := own_encX (own_below HOW.out HB.out) HN.out hx
      injection e with e1 e2 e3
      subst e1 e3
      dsimp only at q0 q1 q2 q3
      have HX : Hid (pairs ((L.take (k + 1)).map cellX) = pairs ((L.take k).map cellX) ++ [.int .i64 x1, .int .i64 x2]) := Lib.hid (by
        rw [List.take_add_one, hx, List.map_append, pairs_append]; rfl)
      clear hx e2
      go_wp2_with (at_builtin; refine appAt el_xy rfl rfl (v := .slice a' k c') (n := k) (xs := pairs ((L.take k).map cellX)) (B := w1.heap.size) (blk := wr.heap.size + 1) (c := 1) (cur := [.int .i64 x1, .int .i64 x2]) rfl rfl (cur2 (World.cell?_alloc_at _ _ _ _ (by simp)) (World.cell?_alloc_at _ _ _ _ (by simp))) (by have := HB.out.size; simp; omega) (by exact (HO.out.alloc _).alloc _) rfl (by simp [Value.oneCell']) (by omega) ?_; intro v3 w3 ho3 hg3 _; have HB3 := Lib.hid (((HB.out.alloc HB.out.size _).alloc (by have := HB.out.size; simp; omega) _).grown hg3 (by have := HB.out.size; simp; omega) (fun k e => (HO.out.lt k e).1)); obtain ⟨a3, c3, rfl⟩ := own_form ho3; clear hg3)
      go_roundw
      case rel => exact ⟨k + 1, a3, c3, by omega, rfl, by go_num, HB3, Lib.hid (by rw [HX.out]; exact ho3)⟩
      case measure => simp [intOf]; omega
    · obtain rfl : k = n := by omega
      go_wp2_with fail
      go_ret2
      refine ⟨HB1.out.trans (HB.out.mono HB1.out.size), _, E, L, HTE.out, by rw [HN.out]; exact HLL.out, rfl, ?_⟩
      have h1 := HO.out
      rw [show L.take k = L by rw [List.take_of_length_le]; rw [HN.out]; exact Nat.le_refl _] at h1
      exact RdP.own h1 (by rw [List.length_map, HN.out])
end Go.Proofs.Ytpakkjkjppibnaa

namespace Go.Proofs.Ytpakkjkjppibnaa
open Go.RowKit Go.Maps Go.ChangeMaps Go.MapKept
open Go.WideElems (Fit rd rg pl)
open Go.WideMaps (KeyLaw)

def kv01 : Value := .agg #[.int .i64 0, .int .i64 1]
def lit01 : Lit := .string (keyBytes [.int .i64 0, .int .i64 1])
theorem ar_law : KeyLaw Try.prog 105 :=
  deep_law_laid (P := Try.prog) (by kernel_rfl) (m := Try.prog.types.size + 1) (by decide +kernel) (of_decide_eq_true (by kernel_rfl)) (by kernel_rfl) (by kernel_rfl)
theorem ar_keyed : Keyed Try.prog 105 := Keyed.of_law ar_law
theorem ar_key : keyOf Try.prog 105 kv01 = some lit01 := by kernel_rfl
theorem zero_int (w : World) : (zeroValue 3).run Try.prog w = .ok (.int .i64 0) w := by kernel_rfl

/-- block b counts k, wherever the entry stands -/
def MCl (w : World) (b k : Nat) : Prop := ∃ es clock, w.heap[b]? = some (.map es clock) ∧ ((es = #[] ∧ k = 0) ∨ ∃ born, es = #[⟨kv01, .int .i64 k, born⟩] ∧ born < clock)
def MCm (w : World) (b k st : Nat) : Prop := ∃ clock, w.heap[b]? = some (.map #[⟨kv01, .int .i64 k, st⟩] clock) ∧ st < clock
def MCn (w : World) (b k : Nat) : Prop := ∃ es clock, w.heap[b]? = some (.map es clock) ∧ ((es = #[] ∧ k = 0) ∨ 0 < k ∧ ∃ born, es = #[⟨kv01, .int .i64 k, born⟩] ∧ born < clock)
theorem MCn.toL {w : World} {b k : Nat} (h : MCn w b k) : MCl w b k := by
  obtain ⟨es, cl, e, h | ⟨_, h⟩⟩ := h
  · exact ⟨es, cl, e, .inl h⟩
  · exact ⟨es, cl, e, .inr h⟩
theorem MCm.toL {w : World} {b k st : Nat} (h : MCm w b k st) : MCl w b k := by
  obtain ⟨cl, e, h⟩ := h
  exact ⟨_, cl, e, .inr ⟨st, rfl, h⟩⟩
theorem MCm.toN {w : World} {b k st : Nat} (h : MCm w b k st) (hk : 0 < k) : MCn w b k := by
  obtain ⟨cl, e, h⟩ := h
  exact ⟨_, cl, e, .inr ⟨hk, st, rfl, h⟩⟩
theorem MCn.at {w w' : World} {b k : Nat} (h : MCn w b k) (he : w'.heap[b]? = w.heap[b]?) : MCn w' b k := by
  obtain ⟨es, cl, e, h⟩ := h
  exact ⟨es, cl, he.trans e, h⟩
theorem MCn.lt {w : World} {b k : Nat} (h : MCn w b k) : b < w.heap.size := by
  obtain ⟨es, cl, e, _⟩ := h
  exact (Array.getElem?_eq_some_iff.1 e).1
theorem MCn.made (w : World) : MCn (w.alloc (.map #[] 0)) w.heap.size 0 := ⟨#[], 0, (MapKept.heap_alloc w _).1, .inl ⟨rfl, rfl⟩⟩
theorem MCn.kept {w w' : World} {b k : Nat} (h : MCn w b k) {row : Option Nat} (hg : w.grownBy w' row) (hne : some b ≠ row) : MCn w' b k := h.at (hg.block b h.lt hne)

theorem cnt_look {w : World} {b k : Nat} (h : MCl w b k) : (Instr.lookup 104 (.map (some b)) kv01 false).run Try.prog w = .ok (.int .i64 k) w := by
  obtain ⟨es, cl, hb, h⟩ := h
  have ht := Try.underlying104
  rcases h with ⟨rfl, rfl⟩ | ⟨born, rfl, _⟩
  · have h2 : (Instr.findKey 105 kv01 []).run Try.prog w = .ok none w := by
      rcases ar_law.find w ar_key [] (by simp) with ⟨h2, _⟩ | ⟨j, e0, _, h3, _⟩
      · exact h2
      · simp at h3
    simp [Instr.lookup, run_underlying ht, MapKept.run_getObj_map hb, ar_law.check w _ ar_key, h2, Result.andThen]
  · have h2 : (Instr.findKey 105 kv01 [⟨kv01, .int .i64 k, born⟩]).run Try.prog w = .ok (some (0, .int .i64 k)) w := by
      rcases ar_law.find w ar_key [⟨kv01, .int .i64 k, born⟩] (by simp [ar_key]) with ⟨_, h3⟩ | ⟨j, e0, h2, h3, _⟩
      · exact absurd rfl (h3 ⟨kv01, .int .i64 k, born⟩ (by simp))
      · have hj : j = 0 := by
          have := (List.getElem?_eq_some_iff.1 h3).1
          simp at this
          exact this
        subst hj
        simp at h3
        subst h3
        exact h2
    simp [Instr.lookup, run_underlying ht, MapKept.run_getObj_map hb, ar_law.check w _ ar_key, h2, Result.andThen]

theorem setBlock_grown {w : World} {b : Nat} {es : Array MapEntry} {cl : Nat} (hb : w.heap[b]? = some (.map es cl)) (o : Obj) : w.grownBy (setBlock w b o) (some b) ∧ (setBlock w b o).heap.size = w.heap.size ∧ (setBlock w b o).heap[b]? = some o :=
  ⟨grown_block hb o, by simp [setBlock], heap_setBlock_same hb o⟩

theorem cnt_entry {w : World} {b k : Nat} (h : MCl w b k) : ∃ (st : Nat) (w1 : World), (Instr.mapEntry 104 (.map (some b)) kv01).run Try.prog w = .ok (.tuple #[.int .i64 k, goInt st]) w1 ∧ MCm w1 b k st ∧ w.grownBy w1 (some b) ∧ w1.heap.size = w.heap.size := by
  obtain ⟨es, cl, hb, h⟩ := h
  have ht := Try.underlying104
  rcases h with ⟨rfl, rfl⟩ | ⟨born, rfl, hlt⟩
  · have h2 : (Instr.findKey 105 kv01 []).run Try.prog w = .ok none w := by
      rcases ar_law.find w ar_key [] (by simp) with ⟨h2, _⟩ | ⟨j, e0, _, h3, _⟩
      · exact h2
      · simp at h3
    obtain ⟨g1, g2, g3⟩ := setBlock_grown hb (.map #[⟨kv01, .int .i64 0, cl⟩] (cl + 1))
    refine ⟨cl, _, ?_, ⟨cl + 1, g3, by omega⟩, g1, g2⟩
    simp [Instr.mapEntry, run_underlying ht, MapKept.run_getObj_map hb, ar_law.check w false ar_key, h2, MapKept.run_setObj_map _ hb, Result.andThen, setBlock]
  · have h2 : (Instr.findKey 105 kv01 [⟨kv01, .int .i64 k, born⟩]).run Try.prog w = .ok (some (0, .int .i64 k)) w := by
      rcases ar_law.find w ar_key [⟨kv01, .int .i64 k, born⟩] (by simp [ar_key]) with ⟨_, h3⟩ | ⟨j, e0, h2, h3, _⟩
      · exact absurd rfl (h3 ⟨kv01, .int .i64 k, born⟩ (by simp))
      · have hj : j = 0 := by
          have := (List.getElem?_eq_some_iff.1 h3).1
          simp at this
          exact this
        subst hj
        simp at h3
        subst h3
        exact h2
    obtain ⟨g1, g2, g3⟩ := setBlock_grown hb (.map #[⟨kv01, .int .i64 k, born⟩] cl)
    refine ⟨born, _, ?_, ⟨cl, g3, hlt⟩, g1, g2⟩
    simp [Instr.mapEntry, run_underlying ht, MapKept.run_getObj_map hb, ar_law.check w false ar_key, h2, ar_law.stays w ar_key, MapKept.run_setObj_map _ hb, Result.andThen, setBlock]

theorem cnt_store {w : World} {b k st : Nat} (h : MCm w b k st) (m : Nat) : ∃ w1, (Instr.entryStore 104 (.map (some b)) (goInt st) (.int .i64 m)).run Try.prog w = .ok () w1 ∧ MCm w1 b m st ∧ w.grownBy w1 (some b) ∧ w1.heap.size = w.heap.size := by
  obtain ⟨cl, hb, hlt⟩ := h
  obtain ⟨g1, g2, g3⟩ := setBlock_grown hb (.map #[⟨kv01, .int .i64 m, st⟩] cl)
  refine ⟨_, ?_, ⟨cl, g3, hlt⟩, g1, g2⟩
  have hidx : (#[⟨kv01, .int .i64 k, st⟩] : Array MapEntry).findIdx? (fun e => ((e.born : Nat) : Int) == ((st : Nat) : Int)) = some 0 := by simp [Array.findIdx?, Array.findIdx?.loop]
  have hm : (#[⟨kv01, .int .i64 k, st⟩] : Array MapEntry).modify 0 (fun e => { e with val := .int .i64 m }) = #[⟨kv01, .int .i64 m, st⟩] := rfl
  simp [Instr.entryStore, MapKept.run_getObj_map hb, asInt, asIntOf, goInt, hidx, hm, MapKept.run_setObj_map _ hb, Result.andThen, setBlock]

section
variable {ops : Array Oper} {o : Oper} {a : Act} {K : Act → World → Prop} {Q : Exit → Act → World → Prop} {E : Prop}
theorem stepLook (hgd : o.guard = none) {m x : Operand} (hop : o.op = Op.lookup 104 m x false) {W : World} {b k : Nat} (hm : a.eval m = .map (some b)) (hx : a.eval x = kv01) (h : MCl W b k) (hK : K (a.put o.dst (.int .i64 k)) W) :
    if Region.wanted o (yielded ops a.tmps) = true then Oper.wp Try.prog o a W K Q else E := by
  have hw : Region.wanted o (yielded ops a.tmps) = true := by simp [Region.wanted, hgd]
  rw [if_pos hw]
  unfold Oper.wp
  simp [execOp, hop, hm, hx, cnt_look h, Result.andThen]
  exact hK
theorem stepEntry (hgd : o.guard = none) {m x : Operand} (hop : o.op = Op.mapEntry 104 m x) {W : World} {b k : Nat} (hm : a.eval m = .map (some b)) (hx : a.eval x = kv01) (h : MCl W b k)
    (hK : ∀ (st : Nat) (w1 : World), MCm w1 b k st → W.grownBy w1 (some b) → w1.heap.size = W.heap.size → K (a.put o.dst (.tuple #[.int .i64 k, goInt st])) w1) :
    if Region.wanted o (yielded ops a.tmps) = true then Oper.wp Try.prog o a W K Q else E := by
  have hw : Region.wanted o (yielded ops a.tmps) = true := by simp [Region.wanted, hgd]
  rw [if_pos hw]
  obtain ⟨st, w1, hrun, r1, r2, r3⟩ := cnt_entry h
  unfold Oper.wp
  simp [execOp, hop, hm, hx, hrun, Result.andThen]
  exact hK st w1 r1 r2 r3
theorem stepStore (hgd : o.guard = none) {m s x : Operand} (hop : o.op = Op.entryStore 104 m s x) {W : World} {b k st j : Nat} (hm : a.eval m = .map (some b)) (hs : a.eval s = goInt st) (hx : a.eval x = .int .i64 j) (h : MCm W b k st)
    (hK : ∀ w1, MCm w1 b j st → W.grownBy w1 (some b) → w1.heap.size = W.heap.size → K (a.put o.dst undef) w1) :
    if Region.wanted o (yielded ops a.tmps) = true then Oper.wp Try.prog o a W K Q else E := by
  have hw : Region.wanted o (yielded ops a.tmps) = true := by simp [Region.wanted, hgd]
  rw [if_pos hw]
  obtain ⟨w1, hrun, r1, r2, r3⟩ := cnt_store h j
  unfold Oper.wp
  simp [execOp, hop, hm, hs, hx, hrun, Result.andThen]
  exact hK w1 r1 r2 r3
end

/-- what the map reads as -/
theorem MCn.owns {w : World} {b k : Nat} (h : MCn w b k) (hk : k ≤ 12000) : ∃ D : DataW Unit, w.ownsMap Try.prog 105 (plainElem Try.prog 3) b 1 D ∧ (∀ kl, Maps.has D kl = true → kl = lit01 ∧ 0 < k) ∧ (0 < k → Maps.has D lit01 = true) ∧
    (∀ zd, 0 < k → D.atKey lit01 zd = .lit (.int .i64 k)) := by
  obtain ⟨es, cl, hb, h⟩ := h
  rcases h with ⟨rfl, rfl⟩ | ⟨hk0, born, rfl, hlt⟩
  · exact ⟨_, ⟨#[], cl, hb, ⟨by simp, ⟨by simp, by simp, by simp⟩, by simp⟩, by simp, rfl⟩, fun kl h => (by simp [Maps.has] at h), fun h => absurd h (by omega), fun _ h => absurd h (by omega)⟩
  · have hw : (Lit.int .i64 (k : Int)).wf = true := by
      simp [Lit.wf, IntKind.min, IntKind.max, IntKind.bits, IntKind.signed]
      omega
    have hrd : WideElems.rd (H := Unit) Try.prog 105 (plainElem Try.prog 3) ⟨kv01, .int .i64 k, born⟩ = some (lit01, .lit (.int .i64 k)) := by
      unfold WideElems.rd
      rw [ar_key]
      simp [plainElem_int Try.underlying3 hw]
    have hrg : WideElems.rg (H := Unit) Try.prog 105 (plainElem Try.prog 3) ⟨kv01, .int .i64 k, born⟩ = (lit01, .lit (.int .i64 k)) := by
      unfold WideElems.rg
      rw [hrd]; rfl
    refine ⟨.map [(lit01, .lit (.int .i64 k))], ⟨_, cl, hb, ⟨by simp [maxLen], ⟨by simpa using hlt, by simp, by simp⟩, fun x hx => ?_⟩, by simp, ?_⟩, fun kl h => ⟨?_, hk0⟩, fun _ => ?_, fun zd _ => ?_⟩
    · simp at hx
      subst hx
      exact ⟨_, hrd⟩
    · simp only [List.map_cons, List.map_nil, hrg, List.foldr_cons, List.foldr_nil, DataW.insert]
    · cases kl <;> simp [Maps.has, Lit.sameKey, lit01] at h ⊢
      exact h.symm
    · simp [Maps.has, Lit.sameKey, lit01]
    · simp [DataW.atKey, Lit.sameKey, lit01]
end Go.Proofs.Ytpakkjkjppibnaa

namespace Go.Proofs.Ytpakkjkjppibnaa
open Go.RowKit Go.Maps

theorem el_ar3 : ElemK Try.prog 55 58 (.agg #[.int .i64 0, .int .i64 0, .int .i64 0]) 3 24 :=
  ⟨by kernel_rfl, info_parts (by kernel_rfl), by rfl, by decide, by decide⟩
def cntM (n : Nat) : List Ar3 := if n = 0 then [] else [(0, 1, (n : Int))]
theorem cntM_len (n : Nat) : (cntM n).length ≤ 1 := by unfold cntM; split <;> simp
theorem cntM_perm {n : Nat} {l : List Ar3} (h : l.Perm (cntM n)) : l = cntM n := by
  unfold cntM at h ⊢
  split at h
  · rename_i h0; rw [if_pos h0]; exact h.eq_nil
  · rename_i h0; rw [if_neg h0]; exact List.perm_singleton.1 h
/-- how the loop over the counts stands -/
def CPh (D : DataW Unit) (n : Nat) (left : Lit → Bool) (m : Nat) (M : List Ar3) : Prop := (m = 0 ∧ left = Maps.has D ∧ M = []) ∨ (m = 1 ∧ 0 < n ∧ (∀ kl, left kl = false) ∧ M = cntM n)
theorem mkId_shape (k : TypeId) (key : Value) (kl : Lit) (_ : keyOf Try.prog k key = some kl) : ∃ x : Value, key = id x := ⟨key, rfl⟩
theorem int_shape (v : Value) (y : DataW Unit × List MemPlace) (h : plainElem Try.prog 3 v = some y) : ∃ c : Int, v = Value.int .i64 c := by
  obtain ⟨c, e, _⟩ := plainElem_int_inv Try.underlying3 h
  exact ⟨c, e⟩

set_option maxRecDepth 100000 in
set_option maxHeartbeats 4000000 in
theorem Crossed_any (w h mv bd : Int) (bv : Value) (bl : List Ce) (ps : List (List Ce)) (v : Value) (W : World) (hb : RdP W bv bl) (hv : RdPP W v ps) (hw : ∀ p ∈ ps, WfL p)
    (h01 : ∀ E L, TogE (chkF w h mv bd bl ps) (visA ps ps.length) E L → ∀ x ∈ L, x.2.2 = (0, 1)) :
    Calls Try.prog 33 #[.agg #[.int .i64 w, .int .i64 h, .int .i64 mv, .int .i64 bd, bv], v] W fun e w' => Below W.heap.size W w' ∧
      ∃ u E L, TogE (chkF w h mv bd bl ps) (visA ps ps.length) E L ∧ e = .returned (.tuple #[u, .int .i64 E]) ∧ w'.ownsRow W.heap.size 58 3 u (cntM L.length).length ((cntM L.length).flatMap encA) := by
  have HBW := Lib.hid ((Below.refl W.heap.size W).alloc (Nat.le_refl _) (.cells #[.int .i64 w, .int .i64 h, .int .i64 mv, .int .i64 bd, bv] 24))
  have HTG := Lib.hid (fun V (hV : Below W.heap.size W V) => together_any w h mv bd bv bl ps v V (hb.below hV) (hv.below hV) hw)
  have H01 := Lib.hid h01
  have hmm := @run_makeMap Try.prog
  obtain ⟨av, nv, cv, rfl⟩ := RdPP.form hv
  obtain ⟨a, cap, rfl⟩ := RdP.form hb
  generalize visA ps ps.length = G at *
  generalize chkF w h mv bd bl ps = C at *
  clear hw hv h01
  go_enter Try.func33, Try.ntmps33
  go_wp2_with (go_at_call 68; (with_reducible refine (HTG.out _ HBW.out).mono ?_); rintro e w1 ⟨hb1, u, E, L, htg, hL, rfl, hown⟩; have HB1 := Lib.hid (HBW.out.trans (hb1.mono HBW.out.size)); have HTE := Lib.hid htg; have HLL := Lib.hid hL; obtain ⟨ua, uc, rfl⟩ := own_form hown; have HOW := Lib.hid hown; clear htg hL hown hb1)
  obtain ⟨n, hn⟩ : ∃ n, L.length = n := ⟨_, rfl⟩
  rw [hn] at HOW HLL ⊢
  have HN := Lib.hid hn
  have hn12 := HLL.out
  clear hn
  go_loopw [23] (fun p0 wr => ∃ k : Nat, k ≤ n ∧ p0 = .int .i64 k ∧ Hid (Below w1.heap.size w1 wr) ∧ Hid (MCn wr w1.heap.size k)) (fun p0 _ => n - (intOf p0).toNat)
  case atStart => exact ⟨0, Nat.zero_le _, rfl, Lib.hid ((Below.refl _ _).alloc (Nat.le_refl _) _), Lib.hid (MCn.made w1)⟩
  case round =>
    obtain ⟨k, hk, rfl, HB, HM⟩ := hrel
    by_cases hkn : k < n
    · have hkn' : (k : Int) < (n : Int) := by omega
      obtain ⟨⟨x1, x2, x3, x4⟩, hx⟩ : ∃ x, L[k]? = some x := ⟨_, List.getElem?_eq_getElem (by rw [HN.out]; exact hkn)⟩
      have h34 := H01.out E L HTE.out _ (List.mem_of_getElem? hx)
      obtain ⟨g, c, e, hgl, _, q0, q1, q2, q3⟩ := own_encX (own_below HOW.out HB.out) HN.out hx
      injection e with e1 e2 e3
      subst e1 e3
      dsimp only at q0 q1 q2 q3 h34
      simp only [Prod.mk.injEq] at h34
      obtain ⟨rfl, rfl⟩ := h34
      have hwr : IntKind.i64.wrap ((k : Int) + 1) = (k : Int) + 1 := IntWalk.i64_in _ (by omega)
      clear hx e2
      go_wp2_with fail
      obtain ⟨wv, hwv⟩ : ∃ wv, wr.alloc (.cells #[.int .i64 x1, .int .i64 x2, .int .i64 0, .int .i64 1] 103) = wv := ⟨_, rfl⟩
      have r2 : wv.cell? ⟨wr.heap.size, 2, none⟩ = some (.int .i64 0) := by rw [← hwv]; exact World.cell?_alloc_at _ _ _ _ rfl
      have r3 : wv.cell? ⟨wr.heap.size, 3, none⟩ = some (.int .i64 1) := by rw [← hwv]; exact World.cell?_alloc_at _ _ _ _ rfl
      have HBV : Hid (Below w1.heap.size w1 wv.drew) := Lib.hid (by rw [← hwv]; exact (HB.out.alloc HB.out.size _).drew)
      have HMV : Hid (MCl wv.drew w1.heap.size k) := Lib.hid (by
        rw [← hwv]
        exact ((HM.out.kept (World.grownBy_alloc _ _ none) (by simp)).kept (grown_drewN _ 1 none) (by simp)).toL)
      rw [hwv]
      clear hwv q0 q1 q2 q3 hgl
      obtain ⟨st, w5, hme, hm5, hg5, hs5⟩ := cnt_entry HMV.out
      obtain ⟨w6, hst, hm6, hg6, hs6⟩ := cnt_store hm5 (k + 1)
      have hl1 := cnt_look HMV.out
      have hl2 := cnt_look hm5.toL
      have HM6 := Lib.hid (hm6.toN (Nat.succ_pos k))
      have HB5 := Lib.hid (HBV.out.grown hg5 HBV.out.size (fun j e => by cases e; exact Nat.le_refl _))
      have HB6 := Lib.hid (HB5.out.grown hg6 HB5.out.size (fun j e => by cases e; exact Nat.le_refl _))
      change (Instr.mapEntry 104 (.map (some w1.heap.size)) (.agg #[.int .i64 0, .int .i64 1])).run Try.prog wv.drew = .ok (.tuple #[.int .i64 k, .int .i64 st]) w5 at hme
      change (Instr.entryStore 104 (.map (some w1.heap.size)) (.int .i64 st) (.int .i64 ((k : Int) + 1))).run Try.prog w5 = .ok () w6 at hst
      change (Instr.lookup 104 (.map (some w1.heap.size)) (.agg #[.int .i64 0, .int .i64 1]) false).run Try.prog wv.drew = .ok (.int .i64 k) wv.drew at hl1
      change (Instr.lookup 104 (.map (some w1.heap.size)) (.agg #[.int .i64 0, .int .i64 1]) false).run Try.prog w5 = .ok (.int .i64 k) w5 at hl2
      clear hm5 hg5 hs5 hm6 hg6 hs6
      go_region_law (fail)
      all_goals (
        go_wp2_with fail
        go_roundw
        case rel => exact ⟨k + 1, by omega, by go_num, HB6, HM6⟩
        case measure => simp [intOf]; omega)
    · obtain rfl : k = n := by omega
      obtain ⟨D, hD1, hD2, hD3, hD4⟩ := HM.out.owns HLL.out
      have HD2 := Lib.hid hD2
      have HD3 := Lib.hid hD3
      have HD4 := Lib.hid hD4
      clear hD2 hD3 hD4
      go_wp2_with (at_range; refine wpList_range_own _ rfl _ 104 rfl 105 3 ar_keyed Try.underlying104 (plainElem Try.prog 3) w1.heap.size 1 D rfl hD1 ?_; intro w2 hrg hg2 hs2)
      go_frame
      have HB2 : Hid (Below w1.heap.size w1 w2) := Lib.hid (HB.out.grown hg2 HB.out.size (fun j e => by cases e))
      have HSZ := Lib.hid HB.out.size
      obtain ⟨wo, rfl⟩ : ∃ wo, wo = wr := ⟨_, rfl⟩
      clear hg2 hs2 hD1
      go_loopw [11] (fun p1 wr => ∃ (left : Lit → Bool) (ct m : Nat) (a' : Option Addr) (c' : Nat), p1 = .slice a' m c' ∧ Hid (wr.ranges Try.prog 105 (plainElem Try.prog 3) w1.heap.size wo.heap.size 1 D left ct) ∧ Hid (Below w1.heap.size w1 wr) ∧
        Hid (∃ M, CPh D k left m M ∧ wr.ownsRow wo.heap.size 58 3 (.slice a' m c') m (M.flatMap encA))) (fun _ wr => wr.rangeLeft w1.heap.size wo.heap.size)
      case atStart => exact ⟨_, _, 0, none, 0, rfl, Lib.hid hrg, HB2, Lib.hid ⟨[], .inl ⟨rfl, rfl, rfl⟩, World.ownsRow_nil _ _ _ _⟩⟩
      case round =>
        clear hrg HB2 HB HM
        obtain ⟨left, ct, m, a', c', rfl, HR, HB, HMM⟩ := hrel
        have hrg := HR.out
        go_wp2_with (first
          | (at_next; refine wpList_next_ranges _ rfl _ rfl 105 ar_keyed (plainElem Try.prog 3) id (Value.int .i64) (mkId_shape _) int_shape w1.heap.size wo.heap.size 1 D left ct rfl hrg ?_ ?_)
          | go_in)
        · intro _ hl0
          obtain ⟨M, hph, hown⟩ := HMM.out
          have hM : M = cntM k ∧ M.length = m := by
            rcases hph with ⟨rfl, hl, rfl⟩ | ⟨rfl, h0, _, rfl⟩
            · refine ⟨?_, rfl⟩
              have hk0 : k = 0 := by
                by_cases hk0 : k = 0
                · exact hk0
                · have h1 := HD3.out (by omega)
                  rw [← hl, hl0] at h1
                  cases h1
              rw [hk0]; rfl
            · exact ⟨rfl, by unfold cntM; rw [if_neg (by omega)]; rfl⟩
          obtain ⟨rfl, hMl⟩ := hM
          have HSO := Lib.hid (sortA_any wo.heap.size (.slice a' m c') (cntM k) wr (by rw [hMl]; exact hown) (by have := cntM_len k; omega))
          have HOB := Lib.hid (fun j e => (hown.lt j e).1)
          clear hrg hown hph hMl hl0 HMM HR
          go_wp2_with (go_at_call 69; (with_reducible refine HSO.out.mono ?_); rintro e w4 ⟨rfl, L', hp, ho4, hg4⟩)
          go_ret2
          have hB4 := HB.out.grown hg4 HB.out.size (fun j e => Nat.le_trans HSZ.out (HOB.out j e))
          rw [cntM_perm hp] at ho4
          exact ⟨HB1.out.trans (hB4.mono HB1.out.size), _, E, L, HTE.out, rfl, by rw [HN.out]; exact own_le ho4 (Nat.le_trans HB1.out.size HSZ.out)⟩
        · intro key c kl y1 y2 w3 ct3 hkey hlk hvv hat hrg3 hlt3 hg3 hs3 hen
          have HME := Lib.hid hrg.left_eq
          obtain ⟨M, hph, hown⟩ := HMM.out
          rcases hph with ⟨rfl, hl, rfl⟩ | ⟨_, _, hl, _⟩
          rotate_left
          · rw [hl] at hlk
            cases hlk
          rw [hl] at hlk
          obtain ⟨rfl, hk0⟩ := HD2.out _ hlk
          obtain rfl : key = kv01 := ar_keyed.inj hkey ar_key
          obtain ⟨c2, e1, e2, _⟩ := plainElem_int_inv Try.underlying3 hvv
          obtain rfl : c = (k : Int) := by
            have h1 := HD4.out (.lit (.int .i64 0)) hk0
            rw [hat, (Prod.mk.inj e2).1] at h1
            simp only [DataW.lit.injEq, Lit.int.injEq, true_and, Value.int.injEq] at h1 e1
            rw [e1, h1]
          have HLF : Hid (∀ z, (left z && !z.sameKey lit01) = false) := Lib.hid fun z => by
            cases hz : left z with
            | false => rfl
            | true =>
              rw [hl] at hz
              rw [(HD2.out z hz).1]
              simp [lit01, Lit.sameKey]
          have hN := own_notiter hown hrg
          have HRG3 := Lib.hid hrg3
          have HB3 := Lib.hid (HB.out.grown hg3 HB.out.size (fun j e => by cases e; exact HSZ.out))
          have HO3 := Lib.hid (hown.kept hg3 (.inr hN.2.symm))
          have HK0 := Lib.hid hk0
          have HS3 : Hid (wo.heap.size ≤ w3.heap.size) := Lib.hid (by have := hrg3.lt; omega)
          clear hkey hlk hvv hat hrg3 hg3 hs3 hl hk0 e1 e2 hN hown hrg HMM HR HB
          unfold kv01 at hen ⊢
          try dsimp only [id] at hen ⊢
          go_wp2_with (first
            | (at_builtin; refine appAt el_ar3 rfl rfl (v := .slice a' 0 c') (n := 0) (xs := []) (B := wo.heap.size) (blk := w3.heap.size + 1) (c := 1) (cur := [.int .i64 0, .int .i64 1, .int .i64 k]) rfl rfl (cur3 (World.cell?_alloc_at _ _ _ _ (by simp)) (World.cell?_alloc_at _ _ _ _ (by simp)) (World.cell?_alloc_at _ _ _ _ (by simp))) (by have := HS3.out; simp; omega) (by exact (HO3.out.alloc _).alloc _) rfl (by simp [Value.oneCell']) (by omega) ?_; intro v5 w5 ho5 hg5 _; obtain ⟨a5, c5, rfl⟩ := own_form ho5)
            | go_in)
          have h2 := (World.grownBy_alloc w3 (.cells #[.int .i64 0, .int .i64 1] 105) none).trans (World.grownBy_alloc _ (.cells #[.int .i64 0, .int .i64 1, .int .i64 k] 58) none)
          have hr5 := HRG3.out.kept h2 (by simp) (by simp)
          have hN := own_notiter ((HO3.out.alloc (.cells #[.int .i64 0, .int .i64 1] 105)).alloc (.cells #[.int .i64 0, .int .i64 1, .int .i64 k] 58)) hr5
          have HR5 := Lib.hid (hr5.kept hg5 hN.1 hN.2)
          have hb5 := HB3.out.grown h2 HB3.out.size (fun j e => by cases e)
          have HB5 := Lib.hid (hb5.grown hg5 hb5.size (fun j e => Nat.le_trans HSZ.out (HO3.out.lt j e).1))
          have HO5 := Lib.hid ho5
          clear h2 hr5 hN hb5 hg5 ho5
          go_roundw
          case rel => exact ⟨_, ct3, 1, a5, c5, rfl, HR5, HB5, Lib.hid ⟨cntM k, .inr ⟨rfl, HK0.out, HLF.out, rfl⟩, by
            have h := HO5.out
            have e : (cntM k).flatMap encA = [] ++ [.int .i64 0, .int .i64 1, .int .i64 k] := by
              unfold cntM
              rw [if_neg (by have := HK0.out; omega)]
              rfl
            rw [e]
            exact h⟩⟩
          case measure => rw [HME.out, HR5.out.left_eq]; exact hlt3
end Go.Proofs.Ytpakkjkjppibnaa

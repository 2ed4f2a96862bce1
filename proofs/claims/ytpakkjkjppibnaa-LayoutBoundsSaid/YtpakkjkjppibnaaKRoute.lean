/- Layout: the route, as the program computes it.
   Layout: a route that is found, in memory.
   Layout: a route that is walked, in memory.
   Layout: the sanity check of every law: the route on a grid of 4 by 3 cells. -/
import Derived.Test.YtpakkjkjppibnaaGOpened
import Derived.Laws.StructEq
import Derived.OwnWalk
import Derived.Outline
namespace Go.Proofs.Ytpakkjkjppibnaa
open Go.RowKit

/-! ### plain -/
theorem beginsP_spec (g : Gr) (o : List (List Int)) (c : Int × Int) (hlo : ∀ i d, -1 ≤ outGet o i d) (hm : 1 ≤ g.move) : ∀ k, (beginsP g o c k).1 < 0 ∨
    ∃ d, d < k ∧ (beginsP g o c k).2 = (d : Int) ∧ openP g (besideP c d) = true ∧ 0 ≤ outGet o (indexP g (besideP c d)).toNat d ∧ (beginsP g o c k).1 = g.move + outGet o (indexP g (besideP c d)).toNat d
  | 0 => .inl (by show (-1 : Int) < 0; decide)
  | k + 1 => by
    rw [beginsP_succ]
    have ih := beginsP_spec g o c hlo hm k
    unfold begStep
    have keep : (beginsP g o c k).1 < 0 ∨ ∃ d, d < k + 1 ∧ (beginsP g o c k).2 = (d : Int) ∧ openP g (besideP c d) = true ∧ 0 ≤ outGet o (indexP g (besideP c d)).toNat d ∧ (beginsP g o c k).1 = g.move + outGet o (indexP g (besideP c d)).toNat d := by
      rcases ih with h | ⟨d, h1, h2⟩
      · exact .inl h
      · exact .inr ⟨d, by omega, h2⟩
    split
    · next ho =>
      split
      · exact keep
      · next hv =>
        split
        · exact .inr ⟨k, by omega, rfl, ho, by omega, rfl⟩
        · split
          · exact .inr ⟨k, by omega, rfl, ho, by omega, rfl⟩
          · exact keep
    · exact keep
theorem beginsP_dir (g : Gr) (o : List (List Int)) (c : Int × Int) : ∀ k, ∃ d : Nat, (beginsP g o c k).2 = (d : Int) ∧ (d < k ∨ d = 0)
  | 0 => ⟨0, rfl, .inr rfl⟩
  | k + 1 => by
    rw [beginsP_succ]
    obtain ⟨d, h1, h2⟩ := beginsP_dir g o c k
    unfold begStep
    have keep : ∃ d : Nat, (beginsP g o c k).2 = (d : Int) ∧ (d < k + 1 ∨ d = 0) := ⟨d, h1, by omega⟩
    split
    · split
      · exact keep
      · split
        · exact ⟨k, rfl, .inl (by omega)⟩
        · split
          · exact ⟨k, rfl, .inl (by omega)⟩
          · exact keep
    · exact keep
/-- whether the route goes on in a direction -/
def hitD (g : Gr) (F : List (List Int)) (at' : Int × Int) (dir d : Nat) : Bool :=
  openP g (besideP at' d) && (decide (0 ≤ outGet F (indexP g (besideP at' d)).toNat d) && decide (outGet F (indexP g (besideP at' d)).toNat d + stepP g dir d = outGet F (indexP g at').toNat dir))
def findD (g : Gr) (F : List (List Int)) (at' : Int × Int) (dir : Nat) : Option Nat := (List.range 4).find? (hitD g F at' dir)
def walkP (g : Gr) (F : List (List Int)) (to : Int × Int) : Nat → List (Int × Int) → Int × Int → Nat → Option (List (Int × Int))
  | 0, _, _, _ => none
  | f + 1, path, at', dir => if at' = to then some path else
    match findD g F at' dir with
    | none => none
    | some d => walkP g F to f (path ++ [besideP at' d]) (besideP at' d) d
/-- path, cost and error; none: the fuel is out -/
def routeP (f : Nat) (w h mv bd : Int) (bl : List (Int × Int)) (fr to : Int × Int) : Option (List (Int × Int) × Int × Int) :=
  if validP w h mv bd bl then
    if openP (grP w h mv bd bl) fr && openP (grP w h mv bd bl) to then
      if fr = to then some ([fr], 0, 0)
      else
        if (beginsP (grP w h mv bd bl) (fieldP (grP w h mv bd bl) to) fr 4).1 < 0 then some ([], 0, 5)
        else (walkP (grP w h mv bd bl) (fieldP (grP w h mv bd bl) to) to f
          [fr, besideP fr (beginsP (grP w h mv bd bl) (fieldP (grP w h mv bd bl) to) fr 4).2.toNat]
          (besideP fr (beginsP (grP w h mv bd bl) (fieldP (grP w h mv bd bl) to) fr 4).2.toNat)
          (beginsP (grP w h mv bd bl) (fieldP (grP w h mv bd bl) to) fr 4).2.toNat).map fun p => (p, (beginsP (grP w h mv bd bl) (fieldP (grP w h mv bd bl) to) fr 4).1, 0)
    else some ([], 0, 72)
  else some ([], 0, 70)

theorem el_xy : ElemK Try.prog 22 26 (.agg #[.int .i64 0, .int .i64 0]) 2 16 :=
  ⟨by kernel_rfl, info_parts (by kernel_rfl), by rfl, by decide, by decide⟩
theorem eqXY (a b c d : Int) (W : World) : (Op.equalIn 10000 26 (.agg #[.int .i64 a, .int .i64 b]) (.agg #[.int .i64 c, .int .i64 d])).run Try.prog W = .ok (a == c && b == d) W := by
  have hu := Try.underlying26
  have hf : Try.prog.fieldsOf 26 = #[{ name := "X", type := 3, offset := 0, embedded := false, tag := "", pkgPath := "", byteOffset := 0 }, { name := "Y", type := 3, offset := 1, embedded := false, tag := "", pkgPath := "", byteOffset := 8 }] := by
    unfold Program.fieldsOf; rw [hu]
  rw [run_equalIn_agg W 9999 26 _ _ (by rw [hf]; exact hu) (by kernel_rfl), hf]
  have hi := Try.underlying3
  simp [Op.eqFields, part, isAgg, run_underlying hi, run_equalIn_int _ _ _ _ _ _ _ hi]
  by_cases h1 : a = c
  · by_cases h2 : b = d
    · simp [h1, h2]
    · simp [h1, h2]
  · simp [h1]

/-- a row of pairs of one's own -/
theorem own_lit2 (w : World) (B : Nat) (e : TypeId) (cur : Array Value) (n : Nat) (hb : B ≤ w.heap.size) (hn : cur.size = n * 2) (hm : n ≤ maxLen) :
    (w.alloc (.cells cur e)).ownsRow B e 2 (.slice (some ⟨w.heap.size, 0, none⟩) n n) n cur.toList := by
  refine ⟨by simp [hn], .inr ⟨w.heap.size, n, cur, rfl, hb, heap_alloc_new w _, Nat.le_refl _, hm, by simp [hn], ?_⟩⟩
  rw [← hn]; exact List.take_of_length_le (by simp)

set_option maxRecDepth 100000 in
theorem route_bad (w h mv bd : Int) (bv : Value) (bl : List (Int × Int)) (fr to : Int × Int) (W : World) (hv : RdP W bv bl) (hb : validP w h mv bd bl = false) :
    Calls Try.prog 17 #[.agg #[.int .i64 w, .int .i64 h, .int .i64 mv, .int .i64 bd, bv], .agg #[.int .i64 fr.1, .int .i64 fr.2], .agg #[.int .i64 to.1, .int .i64 to.2]] W fun e w' => e = .returned (.tuple #[.slice none 0 0, .int .i64 0, .int .i64 70]) ∧ Below W.heap.size W w' := by
  have hbW := Lib.hid ((((Below.refl W.heap.size W).alloc (Nat.le_refl _) (.cells #[.int .i64 w, .int .i64 h, .int .i64 mv, .int .i64 bd, bv] 24)).alloc (by simp) (.cells #[.int .i64 fr.1, .int .i64 fr.2] 26)).alloc (by simp; omega) (.cells #[.int .i64 to.1, .int .i64 to.2] 26))
  have HVA := Lib.hid (fun V (hV : Below W.heap.size W V) => opened_bad w h mv bd bv bl V (hv.below hV) hb)
  obtain ⟨a, cap, rfl, hc, hcm, _, _⟩ := hv
  obtain ⟨f1, f2⟩ := fr
  obtain ⟨t1, t2⟩ := to
  clear hb
  dsimp only at *
  go_enter Try.func17, Try.ntmps17
  go_wp2_with (go_at_call 38; (with_reducible refine (HVA.out _ hbW.out).mono ?_); rintro e w1 ⟨rfl, hb1⟩)
  go_ret3
  exact ⟨rfl, hbW.out.trans (hb1.mono (by simp; omega))⟩

/-- the variables of a call of Route (of Must, ..): a grid and two cells, boxed -/
def Boxes (V : World) (B : Nat) (f1 f2 t1 t2 : Int) : Prop := V.cell? ⟨B + 1, 0, none⟩ = some (.int .i64 f1) ∧ V.cell? ⟨B + 1, 1, none⟩ = some (.int .i64 f2) ∧ V.cell? ⟨B + 1 + 1, 0, none⟩ = some (.int .i64 t1) ∧ V.cell? ⟨B + 1 + 1, 1, none⟩ = some (.int .i64 t2)
theorem Boxes.below {V V' : World} {B : Nat} {f1 f2 t1 t2 : Int} (h : Boxes V B f1 f2 t1 t2) (hb : Below V.heap.size V V') : Boxes V' B f1 f2 t1 t2 :=
  ⟨cell_below h.1 hb, cell_below h.2.1 hb, cell_below h.2.2.1 hb, cell_below h.2.2.2 hb⟩
theorem Boxes.new (W : World) (o : Obj) (f1 f2 t1 t2 : Int) (t : TypeId) : Boxes (((W.alloc o).alloc (.cells #[.int .i64 f1, .int .i64 f2] t)).alloc (.cells #[.int .i64 t1, .int .i64 t2] t)) W.heap.size f1 f2 t1 t2 := by
  have e1 : (W.alloc o).heap.size = W.heap.size + 1 := by simp
  have e2 : ((W.alloc o).alloc (.cells #[.int .i64 f1, .int .i64 f2] t)).heap.size = W.heap.size + 1 + 1 := by simp
  refine ⟨cell_alloc ?_ _, cell_alloc ?_ _, ?_, ?_⟩
  · rw [← e1]; exact World.cell?_alloc_at _ _ _ _ rfl
  · rw [← e1]; exact World.cell?_alloc_at _ _ _ _ rfl
  · rw [← e2]; exact World.cell?_alloc_at _ _ _ _ rfl
  · rw [← e2]; exact World.cell?_alloc_at _ _ _ _ rfl

set_option maxRecDepth 100000 in
theorem route_block (w h : Nat) (mv bd : Int) (bv : Value) (bl : List (Int × Int)) (fr to : Int × Int) (W : World) (hv : RdP W bv bl) (hb : validP w h mv bd bl = true) (ho : (openP (grK w h mv bd bl bl.length) fr && openP (grK w h mv bd bl bl.length) to) = false) :
    Calls Try.prog 17 #[.agg #[.int .i64 w, .int .i64 h, .int .i64 mv, .int .i64 bd, bv], .agg #[.int .i64 fr.1, .int .i64 fr.2], .agg #[.int .i64 to.1, .int .i64 to.2]] W fun e w' => e = .returned (.tuple #[.slice none 0 0, .int .i64 0, .int .i64 72]) ∧ Below W.heap.size W w' := by
  have hbW := Lib.hid ((((Below.refl W.heap.size W).alloc (Nat.le_refl _) (.cells #[.int .i64 w, .int .i64 h, .int .i64 mv, .int .i64 bd, bv] 24)).alloc (by simp) (.cells #[.int .i64 fr.1, .int .i64 fr.2] 26)).alloc (by simp; omega) (.cells #[.int .i64 to.1, .int .i64 to.2] 26))
  have HBX := Lib.hid (Boxes.new W (.cells #[.int .i64 w, .int .i64 h, .int .i64 mv, .int .i64 bd, bv] 24) fr.1 fr.2 to.1 to.2 26)
  have HVA := Lib.hid (fun V (hV : Below W.heap.size W V) => opened_ok w h mv bd bv bl V (hv.below hV) hb)
  have HOA := Lib.hid (fun Bg sb V (hV : GridAt V Bg (grK w h mv bd bl bl.length) bv (some ⟨sb, 0, none⟩) (w * h)) => open_any Bg (grK w h mv bd bl bl.length) bv _ _ fr V hV)
  have HOB := Lib.hid (fun Bg sb V (hV : GridAt V Bg (grK w h mv bd bl bl.length) bv (some ⟨sb, 0, none⟩) (w * h)) => open_any Bg (grK w h mv bd bl bl.length) bv _ _ to V hV)
  obtain ⟨a, cap, rfl, hc, hcm, _, _⟩ := hv
  obtain ⟨f1, f2⟩ := fr
  obtain ⟨t1, t2⟩ := to
  clear hb
  dsimp only at *
  obtain ⟨x1, hx1⟩ : ∃ x, openP (grK w h mv bd bl bl.length) (f1, f2) = x := ⟨_, rfl⟩
  obtain ⟨x2, hx2⟩ : ∃ x, openP (grK w h mv bd bl bl.length) (t1, t2) = x := ⟨_, rfl⟩
  rw [hx1] at HOA ho
  rw [hx2] at HOB ho
  clear hx1 hx2
  cases x1 with
  | false =>
    clear ho
    go_enter Try.func17, Try.ntmps17
    go_wp2_with (first
      | (go_at_call 38; (with_reducible refine (HVA.out _ hbW.out).mono ?_); rintro e w1 ⟨Bg, sb, rfl, hg1, hb1⟩; have HG1 := Lib.hid hg1; have HB1 := Lib.hid (hbW.out.trans (hb1.mono (by simp; omega))); obtain ⟨c1, c2, c3, c4⟩ := HBX.out.below hb1; clear hg1 hb1)
      | (go_at_call 39; (with_reducible refine (HOA.out _ _ _ HG1.out).mono ?_); rintro e w2 ⟨rfl, hb2⟩))
    go_ret3
    exact ⟨rfl, HB1.out.trans (hb2.mono HB1.out.size)⟩
  | true =>
    obtain rfl : x2 = false := by simpa using ho
    clear ho
    go_enter Try.func17, Try.ntmps17
    go_wp2_with (first
      | (go_at_call 38; (with_reducible refine (HVA.out _ hbW.out).mono ?_); rintro e w1 ⟨Bg, sb, rfl, hg1, hb1⟩; have HG1 := Lib.hid hg1; have HB1 := Lib.hid (hbW.out.trans (hb1.mono (by simp; omega))); have HX1 := Lib.hid (HBX.out.below hb1); obtain ⟨c1, c2, c3, c4⟩ := HX1.out; clear hg1 hb1)
      | (go_at_call 39; (with_reducible refine (HOA.out _ _ _ HG1.out).mono ?_); rintro e w2 ⟨rfl, hb2⟩; have HG2 := Lib.hid (HG1.out.below hb2); have HB2 := Lib.hid (HB1.out.trans (hb2.mono HB1.out.size)); obtain ⟨d1, d2, d3, d4⟩ := HX1.out.below hb2; clear hb2)
      | (go_at_call 39; (with_reducible refine (HOB.out _ _ _ HG2.out).mono ?_); rintro e w3 ⟨rfl, hb3⟩))
    go_ret3
    exact ⟨rfl, HB2.out.trans (hb3.mono HB2.out.size)⟩
end Go.Proofs.Ytpakkjkjppibnaa

namespace Go.Proofs.Ytpakkjkjppibnaa
open Go.RowKit

set_option maxRecDepth 100000 in
theorem route_same (w h : Nat) (mv bd : Int) (bv : Value) (bl : List (Int × Int)) (to : Int × Int) (W : World) (hv : RdP W bv bl) (hb : validP w h mv bd bl = true) (ho : openP (grK w h mv bd bl bl.length) to = true) :
    Calls Try.prog 17 #[.agg #[.int .i64 w, .int .i64 h, .int .i64 mv, .int .i64 bd, bv], .agg #[.int .i64 to.1, .int .i64 to.2], .agg #[.int .i64 to.1, .int .i64 to.2]] W fun e w' => (∃ v, e = .returned (.tuple #[v, .int .i64 0, .int .i64 0]) ∧ w'.ownsRow W.heap.size 26 2 v 1 (pairs [to])) ∧ Below W.heap.size W w' := by
  have hbW := Lib.hid ((((Below.refl W.heap.size W).alloc (Nat.le_refl _) (.cells #[.int .i64 w, .int .i64 h, .int .i64 mv, .int .i64 bd, bv] 24)).alloc (by simp) (.cells #[.int .i64 to.1, .int .i64 to.2] 26)).alloc (by simp; omega) (.cells #[.int .i64 to.1, .int .i64 to.2] 26))
  have HBX := Lib.hid (Boxes.new W (.cells #[.int .i64 w, .int .i64 h, .int .i64 mv, .int .i64 bd, bv] 24) to.1 to.2 to.1 to.2 26)
  have HVA := Lib.hid (fun V (hV : Below W.heap.size W V) => opened_ok w h mv bd bv bl V (hv.below hV) hb)
  have HOA := Lib.hid (fun Bg sb V (hV : GridAt V Bg (grK w h mv bd bl bl.length) bv (some ⟨sb, 0, none⟩) (w * h)) => open_any Bg (grK w h mv bd bl bl.length) bv _ _ to V hV)
  rw [ho] at HOA
  have hEQ := fun a b c d W => eqXY a b c d W
  obtain ⟨a, cap, rfl, hc, hcm, _, _⟩ := hv
  obtain ⟨t1, t2⟩ := to
  clear hb ho
  dsimp only at *
  go_enter Try.func17, Try.ntmps17
  go_wp2_with (first
    | (go_at_call 38; (with_reducible refine (HVA.out _ hbW.out).mono ?_); rintro e w1 ⟨Bg, sb, rfl, hg1, hb1⟩; have HG1 := Lib.hid hg1; have HB1 := Lib.hid (hbW.out.trans (hb1.mono (by simp; omega))); have HX1 := Lib.hid (HBX.out.below hb1); obtain ⟨c1, c2, c3, c4⟩ := HX1.out; clear hg1 hb1)
    | (go_at_call 39; (with_reducible refine (HOA.out _ _ _ HG1.out).mono ?_); rintro e w2 ⟨rfl, hb2⟩; have HG2 := Lib.hid (HG1.out.below hb2); have HB2 := Lib.hid (HB1.out.trans (hb2.mono HB1.out.size)); have HX2 := Lib.hid (HX1.out.below hb2); clear c1 c2 c3 c4; obtain ⟨d1, d2, d3, d4⟩ := HX2.out; clear hb2 HG1 HB1 HX1)
    | (go_at_call 39; (with_reducible refine (HOA.out _ _ _ HG2.out).mono ?_); rintro e w3 ⟨rfl, hb3⟩; have HB3 := Lib.hid (HB2.out.trans (hb3.mono HB2.out.size)); obtain ⟨e1, e2, e3, e4⟩ := HX2.out.below hb3; clear hb3))
  go_ret3
  exact ⟨⟨_, rfl, own_lit2 w3 W.heap.size 26 #[.int .i64 t1, .int .i64 t2] 1 HB3.out.size rfl (by decide)⟩, HB3.out.alloc HB3.out.size _⟩

set_option maxRecDepth 100000 in
theorem route_none (w h : Nat) (mv bd : Int) (bv : Value) (bl : List (Int × Int)) (fr to : Int × Int) (W : World) (hv : RdP W bv bl) (hb : validP w h mv bd bl = true) (h1 : openP (grK w h mv bd bl bl.length) fr = true) (h2 : openP (grK w h mv bd bl bl.length) to = true) (hne : fr ≠ to)
    (hc0 : (beginsP (grK w h mv bd bl bl.length) (fieldP (grK w h mv bd bl bl.length) to) fr 4).1 < 0) :
    Calls Try.prog 17 #[.agg #[.int .i64 w, .int .i64 h, .int .i64 mv, .int .i64 bd, bv], .agg #[.int .i64 fr.1, .int .i64 fr.2], .agg #[.int .i64 to.1, .int .i64 to.2]] W fun e w' => e = .returned (.tuple #[.slice none 0 0, .int .i64 0, .int .i64 5]) ∧ Below W.heap.size W w' := by
  have hbW := Lib.hid ((((Below.refl W.heap.size W).alloc (Nat.le_refl _) (.cells #[.int .i64 w, .int .i64 h, .int .i64 mv, .int .i64 bd, bv] 24)).alloc (by simp) (.cells #[.int .i64 fr.1, .int .i64 fr.2] 26)).alloc (by simp; omega) (.cells #[.int .i64 to.1, .int .i64 to.2] 26))
  have HBX := Lib.hid (Boxes.new W (.cells #[.int .i64 w, .int .i64 h, .int .i64 mv, .int .i64 bd, bv] 24) fr.1 fr.2 to.1 to.2 26)
  have HVA := Lib.hid (fun V (hV : Below W.heap.size W V) => opened_ok w h mv bd bv bl V (hv.below hV) hb)
  have hon1 := openP_on h1
  have hon2 := openP_on h2
  have HOA := Lib.hid (fun Bg sb V (hV : GridAt V Bg (grK w h mv bd bl bl.length) bv (some ⟨sb, 0, none⟩) (w * h)) => open_any Bg (grK w h mv bd bl bl.length) bv _ _ fr V hV)
  have HOB := Lib.hid (fun Bg sb V (hV : GridAt V Bg (grK w h mv bd bl bl.length) bv (some ⟨sb, 0, none⟩) (w * h)) => open_any Bg (grK w h mv bd bl bl.length) bv _ _ to V hV)
  have HFA := Lib.hid (fun Bg sb V (hV : GridAt V Bg (grK w h mv bd bl bl.length) bv (some ⟨sb, 0, none⟩) (w * h)) => field_any Bg (grK w h mv bd bl bl.length) bv _ _ to V hV hon2)
  have HBA := Lib.hid (fun Bg sb V (hV : GridAt V Bg (grK w h mv bd bl bl.length) bv (some ⟨sb, 0, none⟩) (w * h)) fb cap (hf : FldAt V fb (w * h) (fieldP (grK w h mv bd bl bl.length) to)) (hob : ∀ i d, outGet (fieldP (grK w h mv bd bl bl.length) to) i d ≤ 1000000000) =>
    begins_any Bg (grK w h mv bd bl bl.length) bv _ _ fb cap _ fr V hV hf hob (by have := (Gr.small hV hon1); omega) (by have := (Gr.small hV hon1); omega) (by have := (Gr.small hV hon1); omega) (by have := (Gr.small hV hon1); omega))
  have HFI : Hid (∀ Bg sb V, GridAt V Bg (grK w h mv bd bl bl.length) bv (some ⟨sb, 0, none⟩) (w * h) → FInv (grK w h mv bd bl bl.length) ([], fieldP (grK w h mv bd bl bl.length) to)) := Lib.hid (fun Bg sb V hV => fieldP_inv hV.ok hon2)
  rw [h1] at HOA
  rw [h2] at HOB
  have hEQ := fun a b c d W => eqXY a b c d W
  obtain ⟨a, cap, rfl, hc, hcm, _, _⟩ := hv
  obtain ⟨f1, f2⟩ := fr
  obtain ⟨t1, t2⟩ := to
  have hne' : (f1 == t1 && f2 == t2) = false := by
    rw [Bool.eq_false_iff]; intro hh; simp at hh; exact hne (by rw [hh.1, hh.2])
  obtain ⟨c0, hc0e⟩ : ∃ c0, (beginsP (grK w h mv bd bl bl.length) (fieldP (grK w h mv bd bl bl.length) (t1, t2)) (f1, f2) 4).1 = c0 := ⟨_, rfl⟩
  rw [hc0e] at HBA hc0
  clear hb h1 h2 hon1 hon2 hne hc0e
  dsimp only at *
  have HWH : Hid ((grK w h mv bd bl bl.length).w * (grK w h mv bd bl bl.length).h = w * h) := Lib.hid rfl
  go_enter Try.func17, Try.ntmps17
  go_wp2_with (first
    | (go_at_call 38; (with_reducible refine (HVA.out _ hbW.out).mono ?_); rintro e w1 ⟨Bg, sb, rfl, hg1, hb1⟩; have HG1 := Lib.hid hg1; have HB1 := Lib.hid (hbW.out.trans (hb1.mono (by simp; omega))); have HX1 := Lib.hid (HBX.out.below hb1); obtain ⟨c1, c2, c3, c4⟩ := HX1.out; clear hg1 hb1)
    | (go_at_call 39; (with_reducible refine (HOA.out _ _ _ HG1.out).mono ?_); rintro e w2 ⟨rfl, hb2⟩; have HG2 := Lib.hid (HG1.out.below hb2); have HB2 := Lib.hid (HB1.out.trans (hb2.mono HB1.out.size)); have HX2 := Lib.hid (HX1.out.below hb2); clear c1 c2 c3 c4; obtain ⟨d1, d2, d3, d4⟩ := HX2.out; clear hb2 HG1 HB1 HX1)
    | (go_at_call 39; (with_reducible refine (HOB.out _ _ _ HG2.out).mono ?_); rintro e w3 ⟨rfl, hb3⟩; have HG3 := Lib.hid (HG2.out.below hb3); have HB3 := Lib.hid (HB2.out.trans (hb3.mono HB2.out.size)); have HX3 := Lib.hid (HX2.out.below hb3); clear d1 d2 d3 d4; obtain ⟨e1, e2, e3, e4⟩ := HX3.out; clear hb3)
    | (go_at_call 40; (with_reducible refine (HFA.out _ _ _ HG3.out).mono ?_); rintro e w4 ⟨fb, rfl, ho4, hb4⟩; have HFI4 := Lib.hid (HFI.out _ _ _ HG3.out); have HO4 : Hid (FldAt w4 fb (w * h) (fieldP (grK w h mv bd bl bl.length) (t1, t2))) := Lib.hid (own_fld ho4 HFI4.out.four HFI4.out.len); have HG4 := Lib.hid (HG3.out.below hb4); have HB4 := Lib.hid (HB3.out.trans (hb4.mono HB3.out.size)); have HX4 := Lib.hid (HX3.out.below hb4); clear e1 e2 e3 e4; obtain ⟨k1, k2, k3, k4⟩ := HX4.out; clear hb4 ho4)
    | (go_at_call 42; (with_reducible refine (HBA.out _ _ _ HG4.out fb _ HO4.out (fun i d => by have h5 := HFI4.out.out i d; have h6 := HG4.out.ok.cells; dsimp only at h5; omega)).mono ?_); rintro e w5 ⟨rfl, hb5⟩))
  go_ret3
  exact ⟨rfl, HB4.out.trans (hb5.mono HB4.out.size)⟩
end Go.Proofs.Ytpakkjkjppibnaa

namespace Go.Proofs.Ytpakkjkjppibnaa
open Go.RowKit

theorem findD_some {g : Gr} {F : List (List Int)} {c : Int × Int} {dir d : Nat} (h : findD g F c dir = some d) : d < 4 ∧ hitD g F c dir d = true ∧ ∀ j, j < d → hitD g F c dir j = false := by
  unfold findD at h
  have h1 := List.mem_of_find?_eq_some h
  refine ⟨List.mem_range.1 h1, List.find?_some h, fun j hj => ?_⟩
  have h2 : List.find? (hitD g F c dir) (List.range 4) = some d := h
  rw [List.find?_eq_some_iff_append] at h2
  obtain ⟨_, xs, ys, e, hb⟩ := h2
  have h4 := List.mem_range.1 h1
  have hl : xs.length = d := by
    have e2 : (List.range 4)[xs.length]? = some d := by rw [e]; simp
    have := (List.getElem?_eq_some_iff.1 e2).2
    rwa [List.getElem_range] at this
  have : xs[j]? = some j := by
    have e3 : (List.range 4)[j]? = some j := by rw [List.getElem?_range (by omega)]
    rw [e, List.getElem?_append_left (by omega)] at e3
    exact e3
  simpa using hb j (List.mem_of_getElem? this)
theorem grown_cell {w w' : World} {v : Value} (h : w.grownBy w' v.ownBlock) {b o : Nat} {u : Value} (hc : w.cell? ⟨b, o, none⟩ = some u) (hv : v.ownBlock ≠ some b) : w'.cell? ⟨b, o, none⟩ = some u :=
  (World.cell?_of_block (h.block _ (World.block_lt_of_cell? _ _ hc) (fun e => hv e.symm))).trans hc
theorem own_last {w : World} {B M g c : Nat} {e : TypeId} {path : List (Int × Int)} {x y : Value} (hM : path.length = M) (h : w.ownsRow B e 2 (.slice (some ⟨g, 0, none⟩) (M + 1) c) (M + 1) (pairs path ++ [x, y])) :
    w.cell? ⟨g, M * 2, none⟩ = some x ∧ w.cell? ⟨g, M * 2 + 1, none⟩ = some y := by
  have hl := pairs_length path
  constructor
  · rw [h.cellAt (M * 2) (by omega), List.getElem?_append_right (by omega), hl, hM, Nat.sub_self]; rfl
  · rw [h.cellAt (M * 2 + 1) (by omega), List.getElem?_append_right (by omega), hl, hM, show M * 2 + 1 - M * 2 = 1 by omega]; rfl
/-- the state of the route's loop -/
structure RSt (g : Gr) (F : List (List Int)) (to : Int × Int) (w5 : World) (k : Nat) (res path : List (Int × Int)) (at' : Int × Int) (d : Nat) (v : Value) (ab : Nat) (wr : World) : Prop where
  own : wr.ownsRow w5.heap.size 26 2 v path.length (pairs path)
  last : ∃ p, path = p ++ [at']
  wk : walkP g F to k path at' d = some res
  op : openP g at' = true
  b0 : wr.cell? ⟨ab, 0, none⟩ = some (.int .i64 at'.1)
  b1 : wr.cell? ⟨ab, 1, none⟩ = some (.int .i64 at'.2)
  bel : Below w5.heap.size w5 wr
  len : path.length + k ≤ 200000
  d4 : d < 4
  sep : v.ownBlock ≠ some ab

set_option maxRecDepth 100000 in
set_option maxHeartbeats 1000000 in
theorem route_path (w h : Nat) (mv bd : Int) (bv : Value) (bl : List (Int × Int)) (fr to : Int × Int) (W : World) (hv : RdP W bv bl) (hb : validP w h mv bd bl = true) (h1 : openP (grK w h mv bd bl bl.length) fr = true) (h2 : openP (grK w h mv bd bl bl.length) to = true) (hne : fr ≠ to)
    (g : Gr) (hgd : grK w h mv bd bl bl.length = g) (c0 : Int) (d0 f : Nat) (res : List (Int × Int)) (hbg : beginsP g (fieldP g to) fr 4 = (c0, (d0 : Int))) (hc0 : 0 ≤ c0) (hd0 : d0 < 4) (hob : openP g (besideP fr d0) = true)
    (hwk : walkP g (fieldP g to) to f [fr, besideP fr d0] (besideP fr d0) d0 = some res) (hf9 : f ≤ 100000) :
    Calls Try.prog 17 #[.agg #[.int .i64 w, .int .i64 h, .int .i64 mv, .int .i64 bd, bv], .agg #[.int .i64 fr.1, .int .i64 fr.2], .agg #[.int .i64 to.1, .int .i64 to.2]] W fun e w' => (∃ v, e = .returned (.tuple #[v, .int .i64 c0, .int .i64 0]) ∧ w'.ownsRow W.heap.size 26 2 v res.length (pairs res)) ∧ Below W.heap.size W w' := by
  have hwg : g.w * g.h = w * h := by rw [← hgd]; rfl
  have hbW := Lib.hid ((((Below.refl W.heap.size W).alloc (Nat.le_refl _) (.cells #[.int .i64 w, .int .i64 h, .int .i64 mv, .int .i64 bd, bv] 24)).alloc (by simp) (.cells #[.int .i64 fr.1, .int .i64 fr.2] 26)).alloc (by simp; omega) (.cells #[.int .i64 to.1, .int .i64 to.2] 26))
  have HBX := Lib.hid (Boxes.new W (.cells #[.int .i64 w, .int .i64 h, .int .i64 mv, .int .i64 bd, bv] 24) fr.1 fr.2 to.1 to.2 26)
  have HVA := Lib.hid (fun V (hV : Below W.heap.size W V) => opened_ok w h mv bd bv bl V (hv.below hV) hb)
  have hon1 := openP_on h1
  have hon2 := openP_on h2
  have HOA := Lib.hid (fun Bg sb V (hV : GridAt V Bg (grK w h mv bd bl bl.length) bv (some ⟨sb, 0, none⟩) (w * h)) => open_any Bg (grK w h mv bd bl bl.length) bv _ _ fr V hV)
  have HOB := Lib.hid (fun Bg sb V (hV : GridAt V Bg (grK w h mv bd bl bl.length) bv (some ⟨sb, 0, none⟩) (w * h)) => open_any Bg (grK w h mv bd bl bl.length) bv _ _ to V hV)
  have HFA := Lib.hid (fun Bg sb V (hV : GridAt V Bg (grK w h mv bd bl bl.length) bv (some ⟨sb, 0, none⟩) (w * h)) => field_any Bg (grK w h mv bd bl bl.length) bv _ _ to V hV hon2)
  have HBA := Lib.hid (fun Bg sb V (hV : GridAt V Bg (grK w h mv bd bl bl.length) bv (some ⟨sb, 0, none⟩) (w * h)) fb cap (hf : FldAt V fb (w * h) (fieldP (grK w h mv bd bl bl.length) to)) (hob : ∀ i d, outGet (fieldP (grK w h mv bd bl bl.length) to) i d ≤ 1000000000) =>
    begins_any Bg (grK w h mv bd bl bl.length) bv _ _ fb cap _ fr V hV hf hob (by have := (Gr.small hV hon1); omega) (by have := (Gr.small hV hon1); omega) (by have := (Gr.small hV hon1); omega) (by have := (Gr.small hV hon1); omega))
  have HFI : Hid (∀ Bg sb V, GridAt V Bg (grK w h mv bd bl bl.length) bv (some ⟨sb, 0, none⟩) (w * h) → FInv (grK w h mv bd bl bl.length) ([], fieldP (grK w h mv bd bl bl.length) to)) := Lib.hid (fun Bg sb V hV => fieldP_inv hV.ok hon2)
  rw [h1] at HOA
  rw [h2] at HOB
  have hEQ := fun a b c d W => eqXY a b c d W
  obtain ⟨a, cap, rfl, hc, hcm, _, _⟩ := hv
  obtain ⟨f1, f2⟩ := fr
  obtain ⟨t1, t2⟩ := to
  have hne' : (f1 == t1 && f2 == t2) = false := by
    rw [Bool.eq_false_iff]; intro hh; simp at hh; exact hne (by rw [hh.1, hh.2])
  rw [hgd] at HVA HOA HOB HFA HBA HFI
  rw [hbg] at HBA
  have HWG := Lib.hid hwg
  obtain ⟨N, hN⟩ : ∃ N, w * h = N := ⟨_, rfl⟩
  rw [hwg, hN] at HFA HBA
  rw [hN] at HVA HOA HOB HFI HWG
  obtain ⟨F, hF⟩ : ∃ F, fieldP g (t1, t2) = F := ⟨_, rfl⟩
  have HFF := Lib.hid hF
  rw [hF] at hwk HFI HBA HFA
  have HWK := Lib.hid hwk
  have HOB0 := Lib.hid hob
  have HF9 := Lib.hid hf9
  obtain ⟨⟨b1, b2⟩, hb12⟩ : ∃ b, besideP (f1, f2) d0 = b := ⟨_, rfl⟩
  have HON1 := Lib.hid (fun Bg sb (V : World) (hV : GridAt V Bg g (.slice a bl.length cap) (some ⟨sb, 0, none⟩) N) => Gr.small hV (by rw [← hgd]; exact hon1))
  rw [hb12] at HWK HOB0
  have HB12 := Lib.hid hb12
  have hc0' : ¬ c0 < 0 := by omega
  clear hb h1 h2 hon1 hon2 hne hF hwk hob hf9 hb12 hbg hgd hwg hN
  dsimp only at *
  go_enter Try.func17, Try.ntmps17
  go_wp2_with (first
    | (go_at_call 38; (with_reducible refine (HVA.out _ hbW.out).mono ?_); rintro e w1 ⟨Bg, sb, rfl, hg1, hb1⟩; have HG1 := Lib.hid hg1; have HB1 := Lib.hid (hbW.out.trans (hb1.mono (by simp; omega))); have HX1 := Lib.hid (HBX.out.below hb1); obtain ⟨c1, c2, c3, c4⟩ := HX1.out; clear hg1 hb1)
    | (go_at_call 39; (with_reducible refine (HOA.out _ _ _ HG1.out).mono ?_); rintro e w2 ⟨rfl, hb2⟩; have HG2 := Lib.hid (HG1.out.below hb2); have HB2 := Lib.hid (HB1.out.trans (hb2.mono HB1.out.size)); have HX2 := Lib.hid (HX1.out.below hb2); clear c1 c2 c3 c4; obtain ⟨d1, d2, d3, d4⟩ := HX2.out; clear hb2 HG1 HB1 HX1)
    | (go_at_call 39; (with_reducible refine (HOB.out _ _ _ HG2.out).mono ?_); rintro e w3 ⟨rfl, hb3⟩; have HG3 := Lib.hid (HG2.out.below hb3); have HB3 := Lib.hid (HB2.out.trans (hb3.mono HB2.out.size)); have HX3 := Lib.hid (HX2.out.below hb3); clear d1 d2 d3 d4; obtain ⟨e1, e2, e3, e4⟩ := HX3.out; clear hb3)
    | (go_at_call 40; (with_reducible refine (HFA.out _ _ _ HG3.out).mono ?_); rintro e w4 ⟨fb, rfl, ho4, hb4⟩; have HFI4 := Lib.hid (HFI.out _ _ _ HG3.out); have HO4 : Hid (FldAt w4 fb N F) := Lib.hid (own_fld ho4 HFI4.out.four (HFI4.out.len.trans HWG.out)); have HG4 := Lib.hid (HG3.out.below hb4); have HB4 := Lib.hid (HB3.out.trans (hb4.mono HB3.out.size)); have HX4 := Lib.hid (HX3.out.below hb4); clear e1 e2 e3 e4; obtain ⟨k1, k2, k3, k4⟩ := HX4.out; clear hb4 ho4)
    | (go_at_call 42; (with_reducible refine (HBA.out _ _ _ HG4.out fb _ HO4.out (fun i d => by have h5 := HFI4.out.out i d; have h6 := HG4.out.ok.cells; dsimp only at h5; rw [HWG.out] at h5 h6; omega)).mono ?_); rintro e w5 ⟨rfl, hb5⟩; have HG5 := Lib.hid (HG4.out.below hb5); have HB5 := Lib.hid (HB4.out.trans (hb5.mono HB4.out.size)); have HX5 := Lib.hid (HX4.out.below hb5); have HO5 := Lib.hid (HO4.out.below hb5); clear k1 k2 k3 k4; obtain ⟨q1, q2, q3, q4⟩ := HX5.out; clear hb5))
  clear HVA HOA HOB HFA HBA HG2 HG3 HG4 HB2 HB3 HB4 HX2 HX3 HX4 HO4
  have hf12 := HON1.out _ _ _ HG5.out
  have HBS0 := Lib.hid (fun x : Grow w5 => beside_any (f1, f2) d0 (by omega) (grow x) (by dsimp only; omega) (by dsimp only; omega) (by dsimp only; omega) (by dsimp only; omega))
  rw [HB12.out] at HBS0
  dsimp only at HBS0
  have e1 := fun x : Grow w5 => grow_cell q1 x
  have e2 := fun x : Grow w5 => grow_cell q2 x
  clear q1 q2 q3 q4 hf12 HON1
  refine wp_region_growTail 4 (by kernel_rfl) (by kernel_rfl) ?_
  simp only [List.take_succ_cons, List.take_zero, List.drop_succ_cons, List.drop_zero]
  repeat (go_big_quiet_step (first | (go_at_call 46; refine grow_of (HBS0.out _))))
  refine wpQuiet_nil ?_
  intro _ hw'
  obtain ⟨xq, hw''⟩ := hw'
  subst hw''
  have HB6 := Lib.hid (grow_below xq)
  clear e1 e2 HBS0
  generalize grow xq = w6 at *
  go_wp2_with fail
  have HR0 : Hid (RSt g F (t1, t2) w5 f res [(f1, f2), (b1, b2)] (b1, b2) d0 (.slice (some ⟨w6.heap.size, 0, none⟩) 2 2) (w6.heap.size + 1) ((w6.alloc (.cells #[.int .i64 f1, .int .i64 f2, .int .i64 b1, .int .i64 b2] 26)).alloc (.cells #[.int .i64 b1, .int .i64 b2] 26))) := by
    have ho := own_lit2 w6 w5.heap.size 26 #[.int .i64 f1, .int .i64 f2, .int .i64 b1, .int .i64 b2] 2 HB6.out.size rfl (by decide)
    have es : (w6.alloc (.cells #[.int .i64 f1, .int .i64 f2, .int .i64 b1, .int .i64 b2] 26)).heap.size = w6.heap.size + 1 := by simp
    refine Lib.hid ⟨ho.alloc _, ⟨[(f1, f2)], rfl⟩, HWK.out, HOB0.out, ?_, ?_, (HB6.out.alloc HB6.out.size _).alloc (by rw [es]; have := HB6.out.size; omega) _, by have := HF9.out; simp; omega, hd0, fun e => ?_⟩
    · rw [← es]; exact World.cell?_alloc_at _ _ _ _ rfl
    · rw [← es]; exact World.cell?_alloc_at _ _ _ _ rfl
    · have : w6.heap.size = w6.heap.size + 1 := Option.some.inj e
      omega
  generalize hW8 : (w6.alloc (.cells #[.int .i64 f1, .int .i64 f2, .int .i64 b1, .int .i64 b2] 26)).alloc (.cells #[.int .i64 b1, .int .i64 b2] 26) = w8 at *
  generalize w6.heap.size + 1 = ab0 at *
  clear hW8
  go_loopg [13, 14, 15] f (fun k dv pv av wr => ∃ (path : List (Int × Int)) (at' : Int × Int) (d : Nat) (ab : Nat), dv = .int .i64 d ∧ av = .pointer (some ⟨ab, 0, none⟩) ∧ Hid (RSt g F (t1, t2) w5 k res path at' d pv ab wr))
  case atStart => exact ⟨_, _, _, _, rfl, rfl, HR0⟩
  case round =>
    obtain ⟨path, ⟨a1, a2⟩, d, ab, rfl, rfl, HR⟩ := hrel
    rename_i pv _ _
    have hbb0 := HR.out.b0
    have hbb1 := HR.out.b1
    obtain ⟨_, _, k3, k4⟩ := HX5.out.below HR.out.bel
    have hlen : 0 < path.length := by obtain ⟨p, hp⟩ := HR.out.last; rw [hp]; simp
    obtain ⟨pg, pc, hpv, hpg⟩ := own_some HR.out.own hlen
    subst hpv
    dsimp only at hbb0 hbb1
    obtain ⟨M, hM⟩ : ∃ M, path.length = M := ⟨_, rfl⟩
    have HM := Lib.hid hM
    have HOWN := Lib.hid HR.out.own
    rw [hM] at HOWN hlen ⊢
    clear hM
    by_cases hat : a1 = t1 ∧ a2 = t2
    · obtain ⟨rfl, rfl⟩ := hat
      have hres : res = path := by
        have h1 := HR.out.wk
        cases gk with
        | zero => cases h1
        | succ k => unfold walkP at h1; rw [if_pos rfl] at h1; exact (Option.some.inj h1).symm
      subst hres
      go_wp2_with fail
      go_ret3
      exact ⟨⟨_, rfl, by rw [HM.out]; exact own_le HOWN.out HB5.out.size⟩, HB5.out.trans (HR.out.bel.mono HB5.out.size)⟩
    · have hat' : (a1 == t1 && a2 == t2) = false := by
        rw [Bool.eq_false_iff]; intro hh; simp at hh; exact hat hh
      obtain ⟨wo, rfl⟩ : ∃ wo, wo = wr := ⟨_, rfl⟩
      obtain ⟨k, rfl⟩ : ∃ k, gk = k + 1 := ⟨gk - 1, by
        have h1 := HR.out.wk
        cases gk with
        | zero => cases h1
        | succ k => omega⟩
      obtain ⟨dd, hdd4, hdh, hdl, hwk'⟩ : ∃ dd, dd < 4 ∧ hitD g F (a1, a2) d dd = true ∧ (∀ j, j < dd → hitD g F (a1, a2) d j = false) ∧ walkP g F (t1, t2) k (path ++ [besideP (a1, a2) dd]) (besideP (a1, a2) dd) dd = some res := by
        have h1 := HR.out.wk
        unfold walkP at h1
        rw [if_neg (fun e => hat ⟨by injection e, by injection e⟩)] at h1
        split at h1
        · cases h1
        · next dd he =>
          obtain ⟨g1, g2, g3⟩ := findD_some he
          exact ⟨dd, g1, g2, g3, h1⟩
      have HDH := Lib.hid hdh
      have HDL := Lib.hid hdl
      have HWK' := Lib.hid hwk'
      have hd4 := HR.out.d4
      have hon1 := openP_on HR.out.op
      have HGR := Lib.hid (fun (V : World) (hV : Below wo.heap.size wo V) => HG5.out.below (HR.out.bel.trans (hV.mono HR.out.bel.size)))
      have HFR := Lib.hid (fun (V : World) (hV : Below wo.heap.size wo V) => HO5.out.below (HR.out.bel.trans (hV.mono HR.out.bel.size)))
      have hsm := Gr.small (HGR.out wo (Below.refl _ _)) hon1
      obtain ⟨j, hj⟩ : ∃ j : Nat, indexP g (a1, a2) = j := ⟨(indexP g (a1, a2)).toNat, by omega⟩
      have HIXA := Lib.hid (index_any Bg g _ _ _ (a1, a2) wo (HGR.out wo (Below.refl _ _)) hon1)
      rw [hj] at HIXA hsm
      have hjN : j < N := by have := hsm.2.2.2.2.2.1; rw [← HWG.out]; exact_mod_cast this
      have hjN' : (j : Int) < (N : Int) := by omega
      obtain ⟨L, hL⟩ : ∃ L, outGet F j d = L := ⟨_, rfl⟩
      have HLL := Lib.hid (HFR.out wo (Below.refl _ _) j d hjN hd4)
      rw [hL] at HLL
      have HIT : Hid (∀ m : Nat, hitD g F (a1, a2) d m = (openP g (besideP (a1, a2) m) && (decide (0 ≤ outGet F (indexP g (besideP (a1, a2) m)).toNat m) && decide (outGet F (indexP g (besideP (a1, a2) m)).toNat m + stepP g d m = L)))) := Lib.hid (fun m => by unfold hitD; rw [hj, Int.toNat_natCast, hL])
      have hA := hsm
      have HA29 : Hid (0 ≤ a1 ∧ a1 ≤ 29 ∧ 0 ≤ a2 ∧ a2 ≤ 29) := Lib.hid (by dsimp only at hsm; omega)
      have HOUT : Hid (∀ i e, -1 ≤ outGet F i e ∧ outGet F i e ≤ 7200000) := Lib.hid (fun i e => by
        have h5 := HFI4.out.out i e
        have h6 := HFI4.out.lo i e
        have h7 := HG5.out.ok.cells
        dsimp only at h5 h6
        omega)
      have hd4' : (d : Int) < 4 := by omega
      dsimp only at HIXA
      clear hdh hdl hwk' hon1 hsm hA hL hj
      go_wp2_with (go_at_call 47; (with_reducible refine HIXA.out.mono ?_); rintro e w9 ⟨rfl, hb9⟩; have HB9 := Lib.hid hb9; have f9 := cell_below HLL.out hb9)
      clear hbb0 hbb1 k3 k4 hat'
      go_loopw [13, 14, 82] (fun dv pv p wr2 => ∃ m : Nat, m ≤ dd ∧ dv = .int .i64 d ∧ pv = .slice (some ⟨pg, 0, none⟩) M pc ∧ p = .int .i64 m ∧ Hid (Below wo.heap.size wo wr2)) (fun _ _ p _ => 4 - (intOf p).toNat)
      case atStart => exact ⟨0, Nat.zero_le _, rfl, rfl, rfl, HB9⟩
      case round =>
        obtain ⟨m, hmd, rfl, rfl, rfl, HB10⟩ := hrel
        have hm4' : (m : Int) < 4 := by omega
        have hb0 := cell_below HR.out.b0 HB10.out
        have hb1 := cell_below HR.out.b1 HB10.out
        dsimp only at hb0 hb1
        obtain ⟨⟨n1, n2⟩, hn12⟩ : ∃ n, besideP (a1, a2) m = n := ⟨_, rfl⟩
        have HN12 := Lib.hid hn12
        have HIM := Lib.hid (HIT.out m)
        have HBSM := Lib.hid (fun V => beside_any (a1, a2) m (by omega) V (by have := HA29.out; dsimp only; omega) (by have := HA29.out; dsimp only; omega) (by have := HA29.out; dsimp only; omega) (by have := HA29.out; dsimp only; omega))
        rw [hn12] at HBSM HIM
        dsimp only at HBSM
        clear hn12
        go_wp2_with (go_at_call 46; (with_reducible refine (HBSM.out _).mono ?_); rintro e w10 ⟨rfl, hb10⟩; have HB10' := Lib.hid (HB10.out.trans (hb10.mono HB10.out.size)))
        have HB11 : Hid (Below wo.heap.size wo (w10.alloc (.cells #[.int .i64 n1, .int .i64 n2] 26))) := Lib.hid (HB10'.out.alloc HB10'.out.size _)
        have g0 : (w10.alloc (.cells #[.int .i64 n1, .int .i64 n2] 26)).cell? ⟨w10.heap.size, 0, none⟩ = some (.int .i64 n1) := World.cell?_alloc_at _ _ _ _ rfl
        have g1 : (w10.alloc (.cells #[.int .i64 n1, .int .i64 n2] 26)).cell? ⟨w10.heap.size, 1, none⟩ = some (.int .i64 n2) := World.cell?_alloc_at _ _ _ _ rfl
        generalize hW11 : w10.alloc (.cells #[.int .i64 n1, .int .i64 n2] 26) = w11 at *
        generalize w10.heap.size = nb at *
        clear hW11 hb10 hb0 hb1 HBSM HB10'
        have HG0 := Lib.hid g0
        have HG1' := Lib.hid g1
        have HOPV := Lib.hid (fun x : Grow w11 => open_any Bg g _ _ _ (n1, n2) (grow x) (HGR.out _ (HB11.out.trans ((grow_below x).mono HB11.out.size))))
        have e0 := fun x : Grow w11 => grow_cell g0 x
        have e1 := fun x : Grow w11 => grow_cell g1 x
        clear g0 g1
        have HST : Hid (m < dd ∧ hitD g F (a1, a2) d m = false ∨ m = dd ∧ hitD g F (a1, a2) d m = true) := Lib.hid (by
          rcases Nat.lt_or_ge m dd with h1 | h1
          · exact .inl ⟨h1, HDL.out m h1⟩
          · obtain rfl : m = dd := by omega
            exact .inr ⟨rfl, HDH.out⟩)
        rw [HIM.out] at HST
        cases hop : openP g (n1, n2) with
        | false =>
          rw [hop] at HOPV HST
          have hmd2 : m < dd := by have := HST.out; simp at this; exact this
          have HIXV : Hid True := Lib.hid trivial
          have HSTV : Hid True := Lib.hid trivial
          clear hop
          refine wp_region_grow (by kernel_rfl) (by kernel_rfl) ?_
          repeat (go_big_quiet_step (first
            | (go_at_call 39; refine grow_of (HOPV.out _))
            | (go_at_call 47; refine grow_of (HIXV.out _))
            | (go_at_call 48; refine grow_of (HSTV.out _))))
          refine wpQuiet_nil ?_
          intro _ hw'
          obtain ⟨xq, hw''⟩ := hw'
          subst hw''
          have HB12 := Lib.hid (HB11.out.trans ((grow_below xq).mono HB11.out.size))
          clear e0 e1
          generalize grow xq = w12 at *
          go_wp2_with fail
          go_roundw
          case rel => exact ⟨m + 1, by omega, rfl, rfl, by go_num, HB12⟩
          case measure => simp [intOf]; omega
        | true =>
          have hon2 := openP_on hop
          have hsm2 := Gr.small (HGR.out w11 HB11.out) hon2
          obtain ⟨i, hi⟩ : ∃ i : Nat, indexP g (n1, n2) = i := ⟨(indexP g (n1, n2)).toNat, by omega⟩
          have HIXV := Lib.hid (fun x : Grow w11 => index_any Bg g _ _ _ (n1, n2) (grow x) (HGR.out _ (HB11.out.trans ((grow_below x).mono HB11.out.size))) hon2)
          rw [hi] at HIXV hsm2 HST
          rw [hop] at HOPV HST
          have HOPN := Lib.hid hop
          have hiN : i < N := by have := hsm2.2.2.2.2.2.1; rw [← HWG.out]; exact_mod_cast this
          have hiN' : (i : Int) < (N : Int) := by omega
          obtain ⟨q, hq⟩ : ∃ q, outGet F i m = q := ⟨_, rfl⟩
          have hf11 := HFR.out w11 HB11.out i m hiN (by omega)
          have hq9 := HOUT.out i m
          rw [Int.toNat_natCast, hq] at HST
          rw [hq] at hf11 hq9
          have e2 := fun x : Grow w11 => grow_cell hf11 x
          have HSTV := Lib.hid (fun x : Grow w11 => step_any Bg g _ _ _ d m (grow x) (HGR.out _ (HB11.out.trans ((grow_below x).mono HB11.out.size))))
          have hsl := stepP_le HG5.out.ok d m
          obtain ⟨S, hS⟩ : ∃ S, stepP g d m = S := ⟨_, rfl⟩
          rw [hS] at HSTV hsl HST
          dsimp only at HIXV HOPV
          clear hop hon2 hsm2 hi hq hf11 hS
          by_cases hq0 : 0 ≤ q
          · have hws : IntKind.i64.wrap (q + S) = q + S := IntWalk.i64_in _ (by omega)
            by_cases hqs : q + S = L
            · have hwL : wrap64 L = L := by clear hws; unfold wrap64; omega
              have HMD2 : Hid (m = dd) := Lib.hid (by have := HST.out; simp [hq0, hqs] at this; exact this)
              clear hq9 hsl
              refine wp_region_grow (by kernel_rfl) (by kernel_rfl) ?_
              repeat (go_big_quiet_step (first
                | (go_at_call 39; refine grow_of (HOPV.out _))
                | (go_at_call 47; refine grow_of (HIXV.out _))
                | (go_at_call 48; refine grow_of (HSTV.out _))))
              refine wpQuiet_nil ?_
              intro _ hw'
              obtain ⟨xq, hw''⟩ := hw'
              subst hw''
              have HBq := Lib.hid (grow_below xq)
              have HB12 := Lib.hid (HB11.out.trans ((grow_below xq).mono HB11.out.size))
              clear e0 e1 e2 hws hwL
              generalize grow xq = w12 at *
              have HBD := Lib.hid (HR.out.bel.trans (HB12.out.mono HR.out.bel.size))
              have HOW := Lib.hid (own_below HOWN.out HB12.out)
              have g0 := cell_below HG0.out HBq.out
              have g1 := cell_below HG1'.out HBq.out
              have hM9 : M ≤ 200000 := by have h1 := HR.out.len; rw [HM.out] at h1; omega
              go_wp2_with (at_builtin; refine appK el_xy rfl rfl (w0 := w5) rfl rfl (by exact HBD.out) (by exact HOW.out) rfl (by simp [Value.oneCell']) (by omega) ?_; intro v13 w13 ho13 hb13 hg13; obtain ⟨g13, c13, rfl, hg131, hg132⟩ := own_some ho13 (by omega); have v0 := own_last HM.out ho13; have v1 := v0.2; replace v0 := v0.1; have HO13 := Lib.hid ho13; have HB13 := Lib.hid hb13; have HK13 := Lib.hid hg13; clear ho13 hb13 hg13; have r0 := grown_cell HK13.out (cell_alloc (cell_below HR.out.b0 HB12.out) _) HR.out.sep; have r1 := grown_cell HK13.out (cell_alloc (cell_below HR.out.b1 HB12.out) _) HR.out.sep)
              go_roundg k
              case measure => omega
              case rel =>
                refine ⟨path ++ [(n1, n2)], (n1, n2), m, w13.heap.size, rfl, rfl, Lib.hid ⟨?_, ⟨path, rfl⟩, ?_, HOPN.out, World.cell?_alloc_at _ _ _ _ rfl, World.cell?_alloc_at _ _ _ _ rfl, HB13.out.alloc HB13.out.size _, ?_, by omega, fun e => ?_⟩⟩
                · rw [List.length_append, HM.out, pairs_append]; exact HO13.out.alloc _
                · have h := HWK'.out; rw [← HMD2.out, HN12.out] at h; exact h
                · have h := HR.out.len; rw [List.length_append]; simp only [List.length_cons, List.length_nil]; omega
                · have : g13 = w13.heap.size := Option.some.inj e
                  omega
            · have hmd2 : m < dd := by have := HST.out; simp [hq0, hqs] at this; exact this
              have hqs' : ((q + S : Int) == L) = false := by simpa using hqs
              clear hq9 hsl
              refine wp_region_grow (by kernel_rfl) (by kernel_rfl) ?_
              repeat (go_big_quiet_step (first
                | (go_at_call 39; refine grow_of (HOPV.out _))
                | (go_at_call 47; refine grow_of (HIXV.out _))
                | (go_at_call 48; refine grow_of (HSTV.out _))))
              refine wpQuiet_nil ?_
              intro _ hw'
              obtain ⟨xq, hw''⟩ := hw'
              subst hw''
              have HB12 := Lib.hid (HB11.out.trans ((grow_below xq).mono HB11.out.size))
              clear e0 e1 e2 hws
              generalize grow xq = w12 at *
              go_wp2_with fail
              go_roundw
              case rel => exact ⟨m + 1, by omega, rfl, rfl, by go_num, HB12⟩
              case measure => simp [intOf]; omega
          · have hmd2 : m < dd := by have := HST.out; simp [hq0] at this; exact this
            clear hq9 hsl
            refine wp_region_grow (by kernel_rfl) (by kernel_rfl) ?_
            repeat (go_big_quiet_step (first
              | (go_at_call 39; refine grow_of (HOPV.out _))
              | (go_at_call 47; refine grow_of (HIXV.out _))
              | (go_at_call 48; refine grow_of (HSTV.out _))))
            refine wpQuiet_nil ?_
            intro _ hw'
            obtain ⟨xq, hw''⟩ := hw'
            subst hw''
            have HB12 := Lib.hid (HB11.out.trans ((grow_below xq).mono HB11.out.size))
            clear e0 e1 e2
            generalize grow xq = w12 at *
            go_wp2_with fail
            go_roundw
            case rel => exact ⟨m + 1, by omega, rfl, rfl, by go_num, HB12⟩
            case measure => simp [intOf]; omega
end Go.Proofs.Ytpakkjkjppibnaa

namespace Go.Proofs.Ytpakkjkjppibnaa
open Go.RowKit

theorem aw_begins : beginsP (grK 4 3 10 5 [] 0) (fieldP (grK 4 3 10 5 [] 0) (3, 2)) (0, 0) 4 = (55, ((0 : Nat) : Int)) := by decide +kernel
theorem aw_walk : (walkP (grK 4 3 10 5 [] 0) (fieldP (grK 4 3 10 5 [] 0) (3, 2)) (3, 2) 10 [(0, 0), besideP (0, 0) 0] (besideP (0, 0) 0) 0).isSome = true := by decide +kernel
theorem RdP.nil (w : World) : RdP w (.slice none 0 0) [] := ⟨none, 0, rfl, by simp, by simp, .inl rfl, fun _ => rfl⟩

theorem awake_any (w : World) : Calls Try.prog 13 #[] w fun e w' => e = .returned (.bool true) ∧ Below w.heap.size w w' := by
  obtain ⟨res, hres⟩ := Option.isSome_iff_exists.1 aw_walk
  have HR := Lib.hid (route_path 4 3 10 5 (.slice none 0 0) [] (0, 0) (3, 2) w (RdP.nil w) (by decide +kernel) (by decide +kernel) (by decide +kernel) (by decide) (grK 4 3 10 5 [] 0) rfl 55 0 10 res aw_begins (by decide) (by decide) (by decide +kernel) hres (by decide))
  clear hres
  go_enter Try.func13, Try.ntmps13
  go_wp2_with (go_at_call 17; refine HR.out.mono ?_; rintro e w1 ⟨⟨v, rfl, _⟩, hb1⟩)
  go_ret
  exact ⟨rfl, hb1⟩
end Go.Proofs.Ytpakkjkjppibnaa

/- Layout: Route, both texts, whatever the input. -/
import Derived.Test.YtpakkjkjppibnaaGRefRt
import Derived.Test.YtpakkjkjppibnaaGNodup
namespace Go.Proofs.Ytpakkjkjppibnaa
open Go.RowKit

/-- what Route answers: path, cost, error -/
inductive RtIs (w h mv bd : Int) (bl : List (Int × Int)) (fr to : Int × Int) : List (Int × Int) → Int → Int → Prop
  | bad (hb : validP w h mv bd bl = false) : RtIs w h mv bd bl fr to [] 0 70
  | block (hb : validP w h mv bd bl = true) (ho : (refOpenP w h bl fr && refOpenP w h bl to) = false) : RtIs w h mv bd bl fr to [] 0 72
  | same (hb : validP w h mv bd bl = true) (h1 : refOpenP w h bl fr = true) (h2 : refOpenP w h bl to = true) (he : fr = to) : RtIs w h mv bd bl fr to [fr] 0 0
  | none (hb : validP w h mv bd bl = true) (h1 : refOpenP w h bl fr = true) (h2 : refOpenP w h bl to = true) (he : fr ≠ to) (hn : (beginsP (grP w h mv bd bl) (fieldP (grP w h mv bd bl) to) fr 4).1 < 0) : RtIs w h mv bd bl fr to [] 0 5
  | some (hb : validP w h mv bd bl = true) (h1 : refOpenP w h bl fr = true) (h2 : refOpenP w h bl to = true) (n : Int) (d0 : Nat) (r : List (Int × Int)) (hf : Fst (grP w h mv bd bl) to fr n d0 r) : RtIs w h mv bd bl fr to (fr :: besideP fr d0 :: r) n 0

theorem rt_exists (w h mv bd : Int) (bl : List (Int × Int)) (fr to : Int × Int) : ∃ p n e, RtIs w h mv bd bl fr to p n e := by
  cases hb : validP w h mv bd bl with
  | false => exact ⟨_, _, _, .bad hb⟩
  | true =>
    cases h1 : refOpenP w h bl fr with
    | false => exact ⟨_, _, _, .block hb (by rw [h1]; rfl)⟩
    | true =>
      cases h2 : refOpenP w h bl to with
      | false => exact ⟨_, _, _, .block hb (by rw [h1, h2]; rfl)⟩
      | true =>
        by_cases he : fr = to
        · exact ⟨_, _, _, .same hb h1 h2 he⟩
        · by_cases hn : (beginsP (grP w h mv bd bl) (fieldP (grP w h mv bd bl) to) fr 4).1 < 0
          · exact ⟨_, _, _, .none hb h1 h2 he hn⟩
          · obtain ⟨x, y, rfl, rfl⟩ := valid_nat hb
            obtain ⟨n, d0, r, hf⟩ := fst_exists (grK_ok hb bl.length) ((open_eq hb to).trans h2) he (Int.not_lt.1 hn)
            exact ⟨_, _, _, .some hb h1 h2 n d0 r hf⟩
theorem rt_len {w h mv bd : Int} {bl : List (Int × Int)} {fr to : Int × Int} {p : List (Int × Int)} {n e : Int} (hr : RtIs w h mv bd bl fr to p n e) : p.length ≤ 900 := by
  cases hr with
  | bad => simp
  | block => simp
  | same => simp
  | none => simp
  | some hb h1 h2 n d0 r hf =>
    obtain ⟨x, y, rfl, rfl⟩ := valid_nat hb
    have hg := grK_ok hb bl.length
    have := cells_few hg (fst_nodup hg ((open_eq hb to).trans h2) ((open_eq hb fr).trans h1) hf) (fst_open hg ((open_eq hb fr).trans h1) hf)
    have := hg.cells.2
    omega

theorem route_any (w h mv bd : Int) (bv : Value) (bl : List (Int × Int)) (fr to : Int × Int) (W : World) (hv : RdP W bv bl) {p : List (Int × Int)} {n e : Int} (hr : RtIs w h mv bd bl fr to p n e) :
    Calls Try.prog 17 #[.agg #[.int .i64 w, .int .i64 h, .int .i64 mv, .int .i64 bd, bv], .agg #[.int .i64 fr.1, .int .i64 fr.2], .agg #[.int .i64 to.1, .int .i64 to.2]] W fun en w' => (∃ v, en = .returned (.tuple #[v, .int .i64 n, .int .i64 e]) ∧ w'.ownsRow W.heap.size 26 2 v p.length (pairs p)) ∧ Below W.heap.size W w' := by
  have hlen := rt_len hr
  cases hr with
  | bad hb => exact (route_bad w h mv bd bv bl fr to W hv hb).mono fun e w' hh => ⟨⟨_, hh.1, World.ownsRow_nil _ _ _ _⟩, hh.2⟩
  | block hb ho =>
    obtain ⟨x, y, rfl, rfl⟩ := valid_nat hb
    refine (route_block x y mv bd bv bl fr to W hv hb ?_).mono fun e w' hh => ⟨⟨_, hh.1, World.ownsRow_nil _ _ _ _⟩, hh.2⟩
    rw [open_eq hb, open_eq hb]; exact ho
  | same hb h1 h2 he =>
    obtain ⟨x, y, rfl, rfl⟩ := valid_nat hb
    subst he
    exact route_same x y mv bd bv bl fr W hv hb ((open_eq hb fr).trans h1)
  | none hb h1 h2 he hn =>
    obtain ⟨x, y, rfl, rfl⟩ := valid_nat hb
    exact (route_none x y mv bd bv bl fr to W hv hb ((open_eq hb fr).trans h1) ((open_eq hb to).trans h2) he hn).mono fun e w' hh => ⟨⟨_, hh.1, World.ownsRow_nil _ _ _ _⟩, hh.2⟩
  | some hb h1 h2 n d0 r hf =>
    obtain ⟨x, y, rfl, rfl⟩ := valid_nat hb
    replace hf : Fst (grK x y mv bd bl bl.length) to fr n d0 r := hf
    simp only [List.length_cons] at hlen
    have hw := gw_walk hf.gw (r.length + 1) [fr, besideP fr d0] (Nat.lt_succ_self _)
    exact route_path x y mv bd bv bl fr to W hv hb ((open_eq hb fr).trans h1) ((open_eq hb to).trans h2) hf.ne _ rfl n d0 (r.length + 1) (fr :: besideP fr d0 :: r) hf.beg hf.n0 hf.d4 hf.op hw (by omega)
theorem refRoute_any (w h mv bd : Int) (bv : Value) (bl : List (Int × Int)) (fr to : Int × Int) (W : World) (hv : RdP W bv bl) {p : List (Int × Int)} {n e : Int} (hr : RtIs w h mv bd bl fr to p n e) :
    Calls Try.prog 18 #[.agg #[.int .i64 w, .int .i64 h, .int .i64 mv, .int .i64 bd, bv], .agg #[.int .i64 fr.1, .int .i64 fr.2], .agg #[.int .i64 to.1, .int .i64 to.2]] W fun en w' => (∃ v, en = .returned (.tuple #[v, .int .i64 n, .int .i64 e]) ∧ w'.ownsRow W.heap.size 26 2 v p.length (pairs p)) ∧ Below W.heap.size W w' := by
  have hlen := rt_len hr
  cases hr with
  | bad hb => exact (refRoute_bad w h mv bd bv bl fr to W hv hb).mono fun e w' hh => ⟨⟨_, hh.1, World.ownsRow_nil _ _ _ _⟩, hh.2⟩
  | block hb ho =>
    obtain ⟨x, y, rfl, rfl⟩ := valid_nat hb
    exact (refRoute_block x y mv bd bv bl fr to W hv hb ho).mono fun e w' hh => ⟨⟨_, hh.1, World.ownsRow_nil _ _ _ _⟩, hh.2⟩
  | same hb h1 h2 he =>
    obtain ⟨x, y, rfl, rfl⟩ := valid_nat hb
    subst he
    exact refRoute_path x y mv bd bv bl fr fr W hv hb h1 h2 0 [] (by simp) fun T hT hc => ⟨least_to (grK_ok hb bl.length) ((open_eq hb fr).trans h1) hT, by decide, RW.done _ _⟩
  | none hb h1 h2 he hn =>
    obtain ⟨x, y, rfl, rfl⟩ := valid_nat hb
    refine (refRoute_none x y mv bd bv bl fr to W hv hb h1 h2 fun T hT hc => ?_).mono fun e w' hh => ⟨⟨_, hh.1, World.ownsRow_nil _ _ _ _⟩, hh.2⟩
    have := least_begins (grK_ok hb bl.length) ((open_eq hb to).trans h2) hT hc ((open_eq hb fr).trans h1) he
    rw [this]
    exact if_pos hn
  | some hb h1 h2 n d0 r hf =>
    obtain ⟨x, y, rfl, rfl⟩ := valid_nat hb
    replace hf : Fst (grK x y mv bd bl bl.length) to fr n d0 r := hf
    simp only [List.length_cons] at hlen
    have hg := grK_ok hb bl.length
    have ht := (open_eq hb to).trans h2
    refine refRoute_path x y mv bd bv bl fr to W hv hb h1 h2 n (besideP fr d0 :: r) (by simp only [List.length_cons]; omega) fun T hT hc => ⟨?_, ?_, first_rw hg ht hT hc hf.beg hf.n0 hf.ne ((open_eq hb fr).trans h1) hf.gw⟩
    · have := least_begins hg ht hT hc ((open_eq hb fr).trans h1) hf.ne
      rw [hf.beg, if_neg (by have := hf.n0; dsimp only; omega)] at this
      exact this
    · have h5 := hf.val
      have h6 := fAt_big hg ht (besideP fr d0) d0
      have h7 := hg.m2
      unfold big
      omega
end Go.Proofs.Ytpakkjkjppibnaa

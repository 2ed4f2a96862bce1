/- slices.SortFunc at structs, over a slice that the call owns: it holds a permutation of what it held.
   Layout: what the sorts of crossings and of counts compare.
   Layout: the sorts of crossings and of counts. -/
import Derived.Test.YtpakkjkjppibnaaBase
import Derived.Shelf.SlSortCmp.WholeK
import Derived.Shelf.SlSortCmp.NoneTotal
import Derived.Test.YtpakkjkjppibnaaKMem
import Derived.Test.YtpakkjkjppibnaaKMeet
import Derived.Shelf.SlicesG.Cmp
namespace Go.Proofs.Ytpakkjkjppibnaa
open Go.Shelf Go.RowKit Go.Lib Go.Sort

theorem flat_len {α : Type} {enc : α → List Value} {k : Nat} (hk : ∀ x, (enc x).length = k) : ∀ (l : List α), (l.flatMap enc).length = l.length * k
  | [] => by simp
  | x :: l => by rw [List.flatMap_cons, List.length_append, hk, flat_len hk l, List.length_cons, Nat.add_mul, Nat.one_mul, Nat.add_comm]

section
variable {P : Program} {ρ : Ren} {α : Type} [Inhabited α]

theorem flat_at {enc : α → List Value} {k : Nat} (hk : ∀ x, (enc x).length = k) (hk0 : 0 < k) : ∀ (l : List α) (t : Nat), t < l.length * k → (l.flatMap enc)[t]? = some ((enc (l[t / k]!))[t % k]!)
  | [], t, h => by simp at h
  | x :: l, t, h => by
    rw [List.flatMap_cons, List.getElem?_append, hk]
    by_cases ht : t < k
    · rw [if_pos ht, Nat.div_eq_of_lt ht, Nat.mod_eq_of_lt ht]
      have : t < (enc x).length := by rw [hk]; exact ht
      simp [this]
    · rw [if_neg ht, flat_at hk hk0 l (t - k) (by simp only [List.length_cons, Nat.add_mul, Nat.one_mul] at h; omega)]
      have e : t = (t - k) + k := by omega
      have e1 : t / k = (t - k) / k + 1 := by
        conv => lhs; rw [e]
        exact Nat.add_div_right _ hk0
      have e2 : t % k = (t - k) % k := by
        conv => lhs; rw [e]
        exact Nat.add_mod_right _ _
      rw [e1, e2]
      simp
theorem flatK_at {enc : α → List Value} {k : Nat} (hk : ∀ x, (enc x).length = k) (hk0 : 0 < k) (d : Array α) (t : Nat) (h : t < d.size * k) : (d.toList.flatMap enc)[t]? = some ((flatK enc k d)[t]!) := by
  have e : d.toList[t / k]! = d[t / k]! := by
    rw [Array.getElem!_eq_getD, Array.getD_eq_getD_getElem?]
    simp
  rw [get_flatK _ _ _ _ h, flat_at hk hk0 _ _ (by simpa using h), e]

theorem sort_own (L : SlLaysF0.n6 P ρ) (k : Nat) (hk0 : 0 < k) (aE : ∀ w, (isAgg (ρ.t 24)).run P w = .ok true w) (zE : ∀ w, (Go.sizeOf (ρ.t 24)).run P w = .ok k w) (enc : α → List Value) (hk : ∀ x, (enc x).length = k) (h1 : ∀ x, ∀ v ∈ enc x, v.oneCell' = true) (cf : α → α → Int) (hO : SWO (ltOf cf)) (g : Nat) (cb : Array Value)
    (eg : ∀ args w, (callFunc g args).run P w = .ok (.enter g args) w) (hcmp : ∀ x y W, Calls P g (#[.agg (enc x).toArray, .agg (enc y).toArray] ++ cb) W fun e w' => e = .returned (.int .i64 (cf x y)) ∧ ∃ q os', w' = Sort.grow (W.drewN q) os')
    (B : Nat) (e : TypeId) (v : Value) (l : List α) (w : World) (ho : w.ownsRow B e k v l.length (l.flatMap enc)) (hsm : l.length ≤ 4000000) :
    Calls P (ρ.f 6) #[v, .func (.func g) #[] cb] w fun r w' => r = .returned (.tuple #[]) ∧ ∃ l' : List α, l'.Perm l ∧ w'.ownsRow B e k v l.length (l'.flatMap enc) ∧ w.grownBy w' v.ownBlock := by
  have hgn : ∀ X, w.grownBy w X := fun X => ⟨rfl, rfl, rfl, Nat.le_refl _, fun _ _ _ => rfl⟩
  by_cases hn : l.length = 0
  · obtain ⟨a, c, rfl⟩ := own_form ho
    have hl : l = [] := List.length_eq_zero_iff.1 hn
    have h0 := AnyF.slices_SortFunc_none L a c (.func (.func g) #[] cb) w
    rw [hn]
    refine h0.mono fun r w' hh => ⟨hh.1, l, List.Perm.refl _, ?_, by rw [hh.2]; exact hgn _⟩
    rw [hh.2]
    rwa [hn] at ho
  · rcases ho.2 with ⟨_, h0⟩ | ⟨gb, cap, cur, rfl, hB, hg, hcap, hmax, hcs, htake⟩
    · exact absurd h0 hn
    have hsz : l.toArray.size = l.length := rfl
    have hgl : gb < w.heap.size := (Array.getElem?_eq_some_iff.1 hg).1
    have hmul : l.length * k ≤ cur.size := by rw [hcs]; exact Nat.mul_le_mul_right _ hcap
    have hcur : ∀ j, j < l.length * k → cur[j]? = some ((flatK enc k l.toArray)[j]!) := fun j hj => by
      have h2 := flatK_at hk hk0 l.toArray j hj
      rw [← htake, List.getElem?_take_of_lt hj] at h2
      rw [← Array.getElem?_toList, h2]
    have hH : HoldsK enc k w gb 0 l.toArray := by
      intro j hj
      rw [size_flatK] at hj
      refine ⟨?_, by simp [World.frozen?, hg]⟩
      simp only [World.cell?, hg, Nat.zero_add]
      simp only [Option.isSome_none, Bool.false_eq_true, if_false]
      exact hcur j hj
    have hs := AnyQ.slices_SortFunc L k aE zE enc hk h1 cf hO g cb gb 0 cap l.toArray w eg (fun m os dk _ x y => hcmp x y _) hH hgl (by rw [hsz]; omega)
    refine hs.mono fun r w' hh => ?_
    obtain ⟨rfl, d', n, os, hp, _, rfl⟩ := hh
    obtain ⟨p1, _, p3⟩ := hp
    refine ⟨rfl, d'.toList, ?_, ?_, ?_⟩
    · have e1 : d'.extract 0 l.toArray.size = d' := by rw [← p1, Array.extract_size]
      rw [e1, Array.extract_size] at p3
      exact p3
    · have hd : d'.toList.length = l.length := by rw [Array.length_toList, p1]; rfl
      refine ⟨by rw [flat_len hk, hd], .inr ⟨gb, cap, putCells id 0 (flatK enc k d') cur, rfl, hB, ?_, hcap, hmax, by simp [putCells, hcs], ?_⟩⟩
      · unfold sortWorldK putRowK
        rw [heap_grow_old _ _ (by simpa [putRow, mapBlock, Sort.ahead] using hgl)]
        simp [putRow, mapBlock, Sort.ahead, Array.getElem?_modify, hg, onCells]
      · apply List.ext_getElem?
        intro j
        by_cases hj : j < l.length * k
        · have hj' : j < d'.size * k := by rw [p1]; exact hj
          rw [List.getElem?_take_of_lt hj, Array.getElem?_toList, flatK_at hk hk0 d' j hj']
          have : j < (flatK enc k d').size := by rw [size_flatK]; exact hj'
          simp only [putCells, Array.getElem?_mapIdx, Nat.zero_add, Nat.sub_zero, Nat.zero_le, true_and]
          rw [Array.getElem?_eq_getElem (by omega), Option.map_some, if_pos this]
          rfl
        · rw [List.getElem?_take_eq_none (by omega), List.getElem?_eq_none (by rw [flat_len hk, hd]; omega)]
    · unfold sortWorldK putRowK
      refine ⟨rfl, rfl, rfl, by simp [putRow, mapBlock, Sort.ahead], fun j hj hne => ?_⟩
      rw [heap_grow_old _ _ (by simpa [putRow, mapBlock, Sort.ahead] using hj)]
      have : gb ≠ j := fun e => hne (by rw [← e]; rfl)
      simp [putRow, mapBlock, Sort.ahead, Array.getElem?_modify, this]
end
end Go.Proofs.Ytpakkjkjppibnaa

namespace Go.Proofs
open Go.Shelf Go.RowKit Go.Lib Go.Sort
def Try.sortX_ren : Go.Shelf.Ren := ⟨fun | 6 => 105 | 15 => 94 | 14 => 118 | 28 => 115 | 29 => 116 | 20 => 124 | 21 => 125 | 22 => 126 | 23 => 127 | 24 => 128 | 25 => 129 | 26 => 130 | 27 => 131 | 46 => 133 | 47 => 120 | 48 => 121 | 49 => 134 | 50 => 135 | 57 => 136 | n => n, fun | 22 => 99 | 24 => 103 | 25 => 153 | 3 => 3 | 39 => 136 | 0 => 0 | 53 => 162 | 55 => 164 | 4 => 4 | 46 => 156 | 45 => 155 | 50 => 127 | 5 => 5 | 9 => 9 | 66 => 167 | 70 => 171 | 76 => 178 | 77 => 73 | n => n, fun | n => n⟩
theorem Try.sortX : Go.Proofs.SlLaysF0.n6 Try.prog Try.sortX_ren := {
  mixed := by kernel_rfl
  f6 := ⟨Try.f105.name, by decide, Try.func105.trans (congrArg some (by kernel_rfl))⟩
  f14 := ⟨Try.f118.name, by decide, Try.func118.trans (congrArg some (by kernel_rfl))⟩
  f15 := Try.func94.trans (congrArg some (by kernel_rfl))
  f20 := ⟨Try.f124.name, by decide, Try.func124.trans (congrArg some (by kernel_rfl))⟩
  f21 := ⟨Try.f125.name, by decide, Try.func125.trans (congrArg some (by kernel_rfl))⟩
  f22 := ⟨Try.f126.name, by decide, Try.func126.trans (congrArg some (by kernel_rfl))⟩
  f23 := ⟨Try.f127.name, by decide, Try.func127.trans (congrArg some (by kernel_rfl))⟩
  f24 := ⟨Try.f128.name, by decide, Try.func128.trans (congrArg some (by kernel_rfl))⟩
  f25 := ⟨Try.f129.name, by decide, Try.func129.trans (congrArg some (by kernel_rfl))⟩
  f26 := ⟨Try.f130.name, by decide, Try.func130.trans (congrArg some (by kernel_rfl))⟩
  f27 := ⟨Try.f131.name, by decide, Try.func131.trans (congrArg some (by kernel_rfl))⟩
  f28 := Try.func115.trans (congrArg some (by kernel_rfl))
  f29 := Try.func116.trans (congrArg some (by kernel_rfl))
  f46 := ⟨Try.f133.name, by decide, Try.func133.trans (congrArg some (by kernel_rfl))⟩
  f47 := Try.func120.trans (congrArg some (by kernel_rfl))
  f48 := Try.func121.trans (congrArg some (by kernel_rfl))
  f49 := ⟨Try.f134.name, by decide, Try.func134.trans (congrArg some (by kernel_rfl))⟩
  f50 := ⟨Try.f135.name, by decide, Try.func135.trans (congrArg some (by kernel_rfl))⟩
  f57 := ⟨Try.f136.name, by decide, Try.func136.trans (congrArg some (by kernel_rfl))⟩
  t0 := Try.underlying0
  a0 := Try.isAgg0
  z0 := Try.sizeOf0
  v0 := Try.zeroValue0
  t3 := Try.underlying3
  a3 := Try.isAgg3
  z3 := Try.sizeOf3
  v3 := Try.zeroValue3
  t4 := Try.underlying4
  a4 := Try.isAgg4
  z4 := Try.sizeOf4
  v4 := Try.zeroValue4
  t5 := Try.underlying5
  a5 := Try.isAgg5
  z5 := Try.sizeOf5
  v5 := Try.zeroValue5
  t9 := Try.underlying9
  a9 := Try.isAgg9
  z9 := Try.sizeOf9
  v9 := Try.zeroValue9
  t22 := Try.underlying99
  a22 := Try.isAgg99
  z22 := Try.sizeOf99
  v22 := Try.zeroValue99
  t25 := Try.underlying153
  a25 := Try.isAgg153
  z25 := Try.sizeOf153
  v25 := Try.zeroValue153
  t39 := Try.underlying136
  a39 := Try.isAgg136
  z39 := Try.sizeOf136
  v39 := Try.zeroValue136
  t45 := Try.underlying155
  a45 := Try.isAgg155
  z45 := Try.sizeOf155
  v45 := Try.zeroValue155
  t46 := Try.underlying156
  a46 := Try.isAgg156
  z46 := Try.sizeOf156
  v46 := Try.zeroValue156
  t50 := Try.underlying127
  a50 := Try.isAgg127
  z50 := Try.sizeOf127
  v50 := Try.zeroValue127
  t53 := Try.underlying162
  a53 := Try.isAgg162
  z53 := Try.sizeOf162
  v53 := Try.zeroValue162
  t55 := Try.underlying164
  a55 := Try.isAgg164
  z55 := Try.sizeOf164
  v55 := Try.zeroValue164
  t66 := Try.underlying167
  a66 := Try.isAgg167
  z66 := Try.sizeOf167
  v66 := Try.zeroValue167
  t70 := Try.underlying171
  a70 := Try.isAgg171
  z70 := Try.sizeOf171
  v70 := Try.zeroValue171
  t76 := Try.underlying178
  a76 := Try.isAgg178
  z76 := Try.sizeOf178
  v76 := Try.zeroValue178
  t77 := Try.underlying73
  a77 := Try.isAgg73
  z77 := Try.sizeOf73
  v77 := Try.zeroValue73 }
def Try.sortA_ren : Go.Shelf.Ren := ⟨fun | 6 => 69 | 15 => 94 | 14 => 93 | 28 => 115 | 29 => 116 | 20 => 107 | 21 => 108 | 22 => 109 | 23 => 110 | 24 => 111 | 25 => 112 | 26 => 113 | 27 => 114 | 46 => 119 | 47 => 120 | 48 => 121 | 49 => 122 | 50 => 123 | 57 => 132 | n => n, fun | 22 => 55 | 24 => 58 | 25 => 108 | 3 => 3 | 39 => 136 | 0 => 0 | 53 => 162 | 55 => 164 | 4 => 4 | 46 => 156 | 45 => 155 | 50 => 127 | 5 => 5 | 9 => 9 | 66 => 167 | 70 => 171 | 76 => 178 | 77 => 73 | n => n, fun | n => n⟩
theorem Try.sortA : Go.Proofs.SlLaysF0.n6 Try.prog Try.sortA_ren := {
  mixed := by kernel_rfl
  f6 := ⟨Try.f69.name, by decide, Try.func69.trans (congrArg some (by kernel_rfl))⟩
  f14 := ⟨Try.f93.name, by decide, Try.func93.trans (congrArg some (by kernel_rfl))⟩
  f15 := Try.func94.trans (congrArg some (by kernel_rfl))
  f20 := ⟨Try.f107.name, by decide, Try.func107.trans (congrArg some (by kernel_rfl))⟩
  f21 := ⟨Try.f108.name, by decide, Try.func108.trans (congrArg some (by kernel_rfl))⟩
  f22 := ⟨Try.f109.name, by decide, Try.func109.trans (congrArg some (by kernel_rfl))⟩
  f23 := ⟨Try.f110.name, by decide, Try.func110.trans (congrArg some (by kernel_rfl))⟩
  f24 := ⟨Try.f111.name, by decide, Try.func111.trans (congrArg some (by kernel_rfl))⟩
  f25 := ⟨Try.f112.name, by decide, Try.func112.trans (congrArg some (by kernel_rfl))⟩
  f26 := ⟨Try.f113.name, by decide, Try.func113.trans (congrArg some (by kernel_rfl))⟩
  f27 := ⟨Try.f114.name, by decide, Try.func114.trans (congrArg some (by kernel_rfl))⟩
  f28 := Try.func115.trans (congrArg some (by kernel_rfl))
  f29 := Try.func116.trans (congrArg some (by kernel_rfl))
  f46 := ⟨Try.f119.name, by decide, Try.func119.trans (congrArg some (by kernel_rfl))⟩
  f47 := Try.func120.trans (congrArg some (by kernel_rfl))
  f48 := Try.func121.trans (congrArg some (by kernel_rfl))
  f49 := ⟨Try.f122.name, by decide, Try.func122.trans (congrArg some (by kernel_rfl))⟩
  f50 := ⟨Try.f123.name, by decide, Try.func123.trans (congrArg some (by kernel_rfl))⟩
  f57 := ⟨Try.f132.name, by decide, Try.func132.trans (congrArg some (by kernel_rfl))⟩
  t0 := Try.underlying0
  a0 := Try.isAgg0
  z0 := Try.sizeOf0
  v0 := Try.zeroValue0
  t3 := Try.underlying3
  a3 := Try.isAgg3
  z3 := Try.sizeOf3
  v3 := Try.zeroValue3
  t4 := Try.underlying4
  a4 := Try.isAgg4
  z4 := Try.sizeOf4
  v4 := Try.zeroValue4
  t5 := Try.underlying5
  a5 := Try.isAgg5
  z5 := Try.sizeOf5
  v5 := Try.zeroValue5
  t9 := Try.underlying9
  a9 := Try.isAgg9
  z9 := Try.sizeOf9
  v9 := Try.zeroValue9
  t22 := Try.underlying55
  a22 := Try.isAgg55
  z22 := Try.sizeOf55
  v22 := Try.zeroValue55
  t25 := Try.underlying108
  a25 := Try.isAgg108
  z25 := Try.sizeOf108
  v25 := Try.zeroValue108
  t39 := Try.underlying136
  a39 := Try.isAgg136
  z39 := Try.sizeOf136
  v39 := Try.zeroValue136
  t45 := Try.underlying155
  a45 := Try.isAgg155
  z45 := Try.sizeOf155
  v45 := Try.zeroValue155
  t46 := Try.underlying156
  a46 := Try.isAgg156
  z46 := Try.sizeOf156
  v46 := Try.zeroValue156
  t50 := Try.underlying127
  a50 := Try.isAgg127
  z50 := Try.sizeOf127
  v50 := Try.zeroValue127
  t53 := Try.underlying162
  a53 := Try.isAgg162
  z53 := Try.sizeOf162
  v53 := Try.zeroValue162
  t55 := Try.underlying164
  a55 := Try.isAgg164
  z55 := Try.sizeOf164
  v55 := Try.zeroValue164
  t66 := Try.underlying167
  a66 := Try.isAgg167
  z66 := Try.sizeOf167
  v66 := Try.zeroValue167
  t70 := Try.underlying171
  a70 := Try.isAgg171
  z70 := Try.sizeOf171
  v70 := Try.zeroValue171
  t76 := Try.underlying178
  a76 := Try.isAgg178
  z76 := Try.sizeOf178
  v76 := Try.zeroValue178
  t77 := Try.underlying73
  a77 := Try.isAgg73
  z77 := Try.sizeOf73
  v77 := Try.zeroValue73 }
def Try.cmpI_ren : Go.Shelf.Ren := ⟨fun | 5 => 72 | 7 => 95 | n => n, fun | 22 => 3 | 3 => 3 | 4 => 4 | n => n, fun | n => n⟩
theorem Try.cmpI : Go.Proofs.SlLaysC2.n5 Try.prog Try.cmpI_ren := {
  mixed := by kernel_rfl
  f5 := ⟨Try.f72.name, by decide, Try.func72.trans (congrArg some (by kernel_rfl))⟩
  f7 := ⟨Try.f95.name, by decide, Try.func95.trans (congrArg some (by kernel_rfl))⟩
  t3 := Try.underlying3
  a3 := Try.isAgg3
  z3 := Try.sizeOf3
  v3 := Try.zeroValue3
  t4 := Try.underlying4
  a4 := Try.isAgg4
  z4 := Try.sizeOf4
  v4 := Try.zeroValue4
  t22 := Try.underlying3
  a22 := Try.isAgg3
  z22 := Try.sizeOf3
  v22 := Try.zeroValue3 }
end Go.Proofs
namespace Go.Proofs.Ytpakkjkjppibnaa
open Go.RowKit Go.Sort Go.Lib

theorem cmp_any (x y : Int) (W : World) : Calls Try.prog 72 #[.int .i64 x, .int .i64 y] W fun e w' => e = .returned (.int .i64 (Lib.compareInt x y)) ∧ w' = W := AnyG.cmp_Compare_int Try.cmpI x y W
def orI (a b : Int) : Int := if a = 0 then b else a
set_option maxHeartbeats 1000000 in
theorem or_any (a b : Int) (blk : Nat) (W : World) (h0 : W.cell? ⟨blk, 0, none⟩ = some (.int .i64 a)) (h1 : W.cell? ⟨blk, 1, none⟩ = some (.int .i64 b)) :
    Calls Try.prog 71 #[.slice (some ⟨blk, 0, none⟩) 2 2] W fun e w' => e = .returned (.int .i64 (orI a b)) ∧ w' = W := by
  by_cases ha : a = 0
  · subst ha
    have HE : Hid (orI 0 b = b) := Lib.hid rfl
    by_cases hb : b = 0
    · subst hb
      go_enter Try.func71, Try.ntmps71
      go_wp2_with fail
      go_loopw [8] (fun p wr => ∃ k : Nat, k ≤ 2 ∧ p = .int .i64 k ∧ wr = W) (fun p _ => 2 - (intOf p).toNat)
      case atStart => exact ⟨0, by omega, rfl, rfl⟩
      case round =>
        obtain ⟨k, hk, rfl, rfl⟩ := hrel
        rcases (by omega : k = 0 ∨ k = 1 ∨ k = 2) with rfl | rfl | rfl
        · go_wp2_with fail
          go_roundw
          case rel => exact ⟨1, by omega, by go_num, trivial⟩
          case measure => simp [intOf]
        · go_wp2_with fail
          go_roundw
          case rel => exact ⟨2, by omega, by go_num, trivial⟩
          case measure => simp [intOf]
        · go_wp2_with fail
          go_ret
          exact ⟨by rw [HE.out]; rfl, rfl⟩
    · have hb' : (b != 0) = true := by simpa using hb
      clear hb
      go_enter Try.func71, Try.ntmps71
      go_wp2_with fail
      go_loopw [8] (fun p wr => ∃ k : Nat, k ≤ 1 ∧ p = .int .i64 k ∧ wr = W) (fun p _ => 2 - (intOf p).toNat)
      case atStart => exact ⟨0, by omega, rfl, rfl⟩
      case round =>
        obtain ⟨k, hk, rfl, rfl⟩ := hrel
        rcases (by omega : k = 0 ∨ k = 1) with rfl | rfl
        · go_wp2_with fail
          go_roundw
          case rel => exact ⟨1, by omega, by go_num, trivial⟩
          case measure => simp [intOf]
        · go_wp2_with fail
          go_ret
          exact ⟨by rw [HE.out]; rfl, rfl⟩
  · have ha' : (a != 0) = true := by simpa using ha
    have HE : Hid (orI a b = a) := Lib.hid (by unfold orI; rw [if_neg ha])
    clear ha
    go_enter Try.func71, Try.ntmps71
    go_wp2_with fail
    go_loopw [8] (fun p wr => p = .int .i64 0 ∧ wr = W) (fun p _ => 2 - (intOf p).toNat)
    case atStart => exact ⟨rfl, rfl⟩
    case round =>
      obtain ⟨rfl, rfl⟩ := hrel
      go_wp2_with fail
      go_ret
      exact ⟨by rw [HE.out]; rfl, rfl⟩
theorem or_neg {a b : Int} : orI a b < 0 ↔ a < 0 ∨ (a = 0 ∧ b < 0) := by unfold orI; split <;> omega
theorem cmp_neg (x y : Int) : (Lib.compareInt x y < 0 ↔ x < y) ∧ (Lib.compareInt x y = 0 ↔ x = y) := by unfold Lib.compareInt; split <;> (try split) <;> omega
/-- by the first number, then by the second -/
def cf2 (x y : Int × Int) : Int := orI (Lib.compareInt x.1 y.1) (Lib.compareInt x.2 y.2)
theorem lt2 (x y : Int × Int) : cf2 x y < 0 ↔ x.1 < y.1 ∨ (x.1 = y.1 ∧ x.2 < y.2) := by
  unfold cf2
  rw [or_neg, (cmp_neg _ _).1, (cmp_neg _ _).2, (cmp_neg _ _).1]
theorem swo2 {α : Type} [Inhabited α] (f : α → Int × Int) : SWO (ltOf fun x y => cf2 (f x) (f y)) where
  irrefl x := by unfold ltOf; simp only [decide_eq_false_iff_not, lt2]; omega
  trans x y z h1 h2 := by unfold ltOf at *; simp only [decide_eq_true_eq, lt2] at *; omega
  ntrans x y z h1 h2 := by unfold ltOf at *; simp only [decide_eq_false_iff_not, lt2] at *; omega
theorem grow3 (W : World) (a b c : Obj) : ∃ q os', ((W.alloc a).alloc b).drew.alloc c = Sort.grow (W.drewN q) os' := by
  simp only [Sort.alloc_eq_grow, Sort.drew_grow, Sort.grow_grow]
  exact ⟨1, _, rfl⟩
set_option maxRecDepth 100000 in
set_option maxHeartbeats 4000000 in
theorem closureX (x y : Cx) (W : World) : Calls Try.prog 106 #[.agg #[.int .i64 x.1, .int .i64 x.2.1, .int .i64 x.2.2.1, .int .i64 x.2.2.2], .agg #[.int .i64 y.1, .int .i64 y.2.1, .int .i64 y.2.2.1, .int .i64 y.2.2.2]] W fun e w' => e = .returned (.int .i64 (cf2 ((fun x : Cx => (x.2.1, x.1)) x) ((fun x : Cx => (x.2.1, x.1)) y))) ∧ ∃ q os', w' = Sort.grow (W.drewN q) os' := by
  obtain ⟨x1, x2, x3, x4⟩ := x
  obtain ⟨y1, y2, y3, y4⟩ := y
  have H1 := Lib.hid (fun V => cmp_any x2 y2 V)
  have H2 := Lib.hid (fun V => cmp_any x1 y1 V)
  have HOR := Lib.hid (fun a b blk V h0 h1 => or_any a b blk V h0 h1)
  have HE : Hid (cf2 ((fun x : Cx => (x.2.1, x.1)) (x1, x2, x3, x4)) ((fun x : Cx => (x.2.1, x.1)) (y1, y2, y3, y4)) = orI (Lib.compareInt x2 y2) (Lib.compareInt x1 y1)) := Lib.hid rfl
  have HG := Lib.hid (fun a b c => grow3 W a b c)
  generalize Lib.compareInt x2 y2 = r1 at *
  generalize Lib.compareInt x1 y1 = r2 at *
  go_enter Try.func106, Try.ntmps106
  go_wp2_with fail
  go_region_law (first
    | (go_simp; go_at_call 72; (with_reducible refine (H1.out _).mono ?_); rintro e w' ⟨rfl, rfl⟩)
    | (go_simp; go_at_call 72; (with_reducible refine (H2.out _).mono ?_); rintro e w' ⟨rfl, rfl⟩)
    | (go_simp; go_at_call 71; refine (HOR.out r1 r2 _ _ (World.cell?_alloc_at _ _ _ _ (by simp)) (World.cell?_alloc_at _ _ _ _ (by simp))).mono ?_; rintro e w' ⟨rfl, rfl⟩))
  all_goals (
    go_wp2_with fail
    go_ret
    exact ⟨by rw [HE.out]; rfl, HG.out _ _ _⟩)
set_option maxRecDepth 100000 in
set_option maxHeartbeats 4000000 in
theorem closureA (x y : Ar3) (W : World) : Calls Try.prog 70 #[.agg #[.int .i64 x.1, .int .i64 x.2.1, .int .i64 x.2.2], .agg #[.int .i64 y.1, .int .i64 y.2.1, .int .i64 y.2.2]] W fun e w' => e = .returned (.int .i64 (cf2 ((fun x : Ar3 => (x.1, x.2.1)) x) ((fun x : Ar3 => (x.1, x.2.1)) y))) ∧ ∃ q os', w' = Sort.grow (W.drewN q) os' := by
  obtain ⟨x1, x2, x3⟩ := x
  obtain ⟨y1, y2, y3⟩ := y
  have H1 := Lib.hid (fun V => cmp_any x1 y1 V)
  have H2 := Lib.hid (fun V => cmp_any x2 y2 V)
  have HOR := Lib.hid (fun a b blk V h0 h1 => or_any a b blk V h0 h1)
  have HE : Hid (cf2 ((fun x : Ar3 => (x.1, x.2.1)) (x1, x2, x3)) ((fun x : Ar3 => (x.1, x.2.1)) (y1, y2, y3)) = orI (Lib.compareInt x1 y1) (Lib.compareInt x2 y2)) := Lib.hid rfl
  have HG := Lib.hid (fun a b c => grow3 W a b c)
  generalize Lib.compareInt x1 y1 = r1 at *
  generalize Lib.compareInt x2 y2 = r2 at *
  go_enter Try.func70, Try.ntmps70
  go_wp2_with fail
  go_region_law (first
    | (go_simp; go_at_call 72; (with_reducible refine (H1.out _).mono ?_); rintro e w' ⟨rfl, rfl⟩)
    | (go_simp; go_at_call 72; (with_reducible refine (H2.out _).mono ?_); rintro e w' ⟨rfl, rfl⟩)
    | (go_simp; go_at_call 71; refine (HOR.out r1 r2 _ _ (World.cell?_alloc_at _ _ _ _ (by simp)) (World.cell?_alloc_at _ _ _ _ (by simp))).mono ?_; rintro e w' ⟨rfl, rfl⟩))
  all_goals (
    go_wp2_with fail
    go_ret
    exact ⟨by rw [HE.out]; rfl, HG.out _ _ _⟩)
end Go.Proofs.Ytpakkjkjppibnaa

namespace Go.Proofs.Ytpakkjkjppibnaa
open Go.RowKit Go.Sort Go.Lib

theorem isAggX (w : World) : (isAgg 103).run Try.prog w = .ok true w := by kernel_rfl
theorem sizeX (w : World) : (Go.sizeOf 103).run Try.prog w = .ok 4 w := by kernel_rfl
theorem isAggA (w : World) : (isAgg 58).run Try.prog w = .ok true w := by kernel_rfl
theorem sizeA (w : World) : (Go.sizeOf 58).run Try.prog w = .ok 3 w := by kernel_rfl
theorem sortX_any (B : Nat) (v : Value) (l : List Cx) (w : World) (ho : w.ownsRow B 103 4 v l.length (l.flatMap encX)) (hsm : l.length ≤ 4000000) :
    Calls Try.prog 105 #[v, .func (.func 106) #[] #[]] w fun r w' => r = .returned (.tuple #[]) ∧ ∃ l' : List Cx, l'.Perm l ∧ w'.ownsRow B 103 4 v l.length (l'.flatMap encX) ∧ w.grownBy w' v.ownBlock :=
  sort_own Try.sortX 4 (by decide) isAggX sizeX encX (fun _ => rfl) (fun x v hv => by simp [encX] at hv; rcases hv with rfl | rfl | rfl | rfl <;> rfl) _ (swo2 fun x : Cx => (x.2.1, x.1)) 106 #[]
    (enters_of Try.func106 (by kernel_rfl) rfl) (fun x y W => closureX x y W) B 103 v l w ho hsm
theorem sortA_any (B : Nat) (v : Value) (l : List Ar3) (w : World) (ho : w.ownsRow B 58 3 v l.length (l.flatMap encA)) (hsm : l.length ≤ 4000000) :
    Calls Try.prog 69 #[v, .func (.func 70) #[] #[]] w fun r w' => r = .returned (.tuple #[]) ∧ ∃ l' : List Ar3, l'.Perm l ∧ w'.ownsRow B 58 3 v l.length (l'.flatMap encA) ∧ w.grownBy w' v.ownBlock :=
  sort_own Try.sortA 3 (by decide) isAggA sizeA encA (fun _ => rfl) (fun x v hv => by simp [encA] at hv; rcases hv with rfl | rfl | rfl <;> rfl) _ (swo2 fun x : Ar3 => (x.1, x.2.1)) 70 #[]
    (enters_of Try.func70 (by kernel_rfl) rfl) (fun x y W => closureA x y W) B 58 v l w ho hsm
end Go.Proofs.Ytpakkjkjppibnaa

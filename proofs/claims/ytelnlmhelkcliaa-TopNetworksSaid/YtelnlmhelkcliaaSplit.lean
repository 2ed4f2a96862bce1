/- benes.split at bool and at int. -/
import Derived.Test.YtelnlmhelkcliaaSizes
namespace Go.Proofs.Ytelnlmhelkcliaa
open Go.RowKit

/-- The four parts of a list of settings. -/
structure Parts (w : World) (k : Nat) (cs : List Value) (v1 v2 v3 v4 : Value) : Prop where
  first : Rd w v1 (cs.take (pw k))
  last : Rd w v2 ((cs.drop (pw k)).take (pw k))
  upper : Rd w v3 ((cs.drop (pw (k + 1))).take (cnt k))
  lower : Rd w v4 ((cs.drop (pw (k + 1) + cnt k)).take (cnt k))

theorem parts_of {w : World} {k : Nat} {cs : List Value} {a : Option Addr} {cap : Nat} (hl : cs.length = cnt (k + 1)) (hc : cs.length ≤ cap) (hm : cap ≤ maxLen) (h : CellsAt w a cs) (hn : a = none → cap = 0) :
    Parts w k cs (.slice a (pw k) cap) (.slice (a.map fun x => x.add (pw k)) (pw (k + 1) - pw k) (cap - pw k))
      (.slice (a.map fun x => x.add (pw (k + 1))) (pw (k + 1) + cnt k - pw (k + 1)) (cap - pw (k + 1)))
      (.slice (a.map fun x => x.add (pw (k + 1) + cnt k)) (cs.length - (pw (k + 1) + cnt k)) (cap - (pw (k + 1) + cnt k))) := by
  have e1 : pw (k + 1) = 2 * pw k := rfl
  have e2 : cnt (k + 1) = pw (k + 1) + 2 * cnt k := rfl
  have hnone : ∀ (lo : Nat) (x : Nat), (a.map fun y => y.add lo) = none → cap - x = 0 := fun lo x hh => by
    have := hn (by simpa using hh)
    omega
  refine ⟨⟨a, cap, ?_, ?_, hm, h.pre _, hn⟩, ⟨_, cap - pw k, ?_, ?_, by omega, h.sub _ _, hnone _ _⟩, ⟨_, cap - pw (k + 1), ?_, ?_, by omega, h.sub _ _, hnone _ _⟩, ⟨_, cap - (pw (k + 1) + cnt k), ?_, ?_, by omega, h.sub _ _, hnone _ _⟩⟩
  · congr 1; simp; omega
  · simp; omega
  · congr 1; simp; omega
  · simp; omega
  · congr 1; simp; omega
  · simp; omega
  · congr 1; simp; omega
  · simp; omega

theorem Parts.below {w w' : World} {k : Nat} {cs : List Value} {v1 v2 v3 v4 : Value} (h : Parts w k cs v1 v2 v3 v4) (hb : Below w.heap.size w w') : Parts w' k cs v1 v2 v3 v4 :=
  ⟨h.first.below hb (Nat.le_refl _), h.last.below hb (Nat.le_refl _), h.upper.below hb (Nat.le_refl _), h.lower.below hb (Nat.le_refl _)⟩

set_option maxHeartbeats 400000 in
theorem splitB_any (k : Nat) (n : Int) (v : Value) (cs : List Value) (w : World) (hk : k ≤ 2) (hn : n = pw (k + 1)) (hl : cs.length = cnt (k + 1)) (hv : Rd w v cs) :
    Calls Try.prog 63 #[.int .i64 n, v] w fun e w' => ∃ v1 v2 v3 v4, e = .returned (.agg #[v1, v2, v3, v4]) ∧ Parts w' k cs v1 v2 v3 v4 ∧ Below w.heap.size w w' := by
  obtain ⟨a, cap, rfl, hc, hm, ha, hno⟩ := hv
  have hp := parts_of hl hc hm ha hno
  have h1 := pw_pos k
  have h2 := pw_le (k + 1) (by omega)
  have h3 := cnt_bd k (by omega)
  obtain ⟨m, hm'⟩ : ∃ m, m = pw (k + 1) := ⟨_, rfl⟩
  obtain ⟨h, hh'⟩ : ∃ h, h = pw k := ⟨_, rfl⟩
  obtain ⟨c, hc'⟩ : ∃ c, c = cnt k := ⟨_, rfl⟩
  have hmh : m = 2 * h := by rw [hm', hh']; rfl
  have hlen : cs.length = m + 2 * c := by rw [hl, hm', hc']; rfl
  rw [← hm'] at hp hn h2
  rw [← hh'] at hp h1
  rw [← hc'] at hp h3
  subst hn
  have HD : Hid ((m : Int) / 2 = pw k) := Lib.hid (by rw [← hh']; omega)
  have HH : Hid ((m : Int) / 2 = h) := Lib.hid (by omega)
  have HC := Lib.hid hc'
  have e0 : ((m : Int) / 2).toNat = h := by omega
  have e1 : (m : Int) / 2 ≤ cap := by omega
  have e2 : (m : Int) ≤ cap := by omega
  have e3 : (m : Int) + c ≤ cap := by omega
  have e4 : (m : Int) + c ≤ cs.length := by omega
  have e6 : 0 ≤ (m : Int) / 2 := by omega
  have e7 : (m : Int) / 2 ≤ m := by omega
  have e8 : ((m : Int) + c).toNat = m + c := by omega
  have e9 : ¬ cap = m + c := by omega
  clear hc' hm' hh' hmh hlen hl
  go_enter Try.func63, Try.ntmps63
  go_wp2_with (go_at_call 49; refine (count_any k _ _ (by omega) HD.out).mono ?_; rw [← HC.out]; rintro e w' ⟨rfl, rfl⟩)
  go_region
  all_goals
    go_wp2_with fail
    refine bodyPost_ret (v := .agg #[.slice a h cap, .slice (a.map fun x => x.add h) (m - h) (cap - h), .slice (a.map fun x => x.add m) (m + c - m) (cap - m), .slice (a.map fun x => x.add (m + c)) (cs.length - (m + c)) (cap - (m + c))]) (by simp [results, Try.results63, go_sem]) rfl ?_
    exact ⟨_, _, _, _, rfl, hp.below (((Below.refl _ _).alloc (Nat.le_refl _) _).drew), ((Below.refl _ _).alloc (Nat.le_refl _) _).drew⟩

set_option maxHeartbeats 400000 in
theorem splitI_any (k : Nat) (n : Int) (v : Value) (cs : List Value) (w : World) (hk : k ≤ 2) (hn : n = pw (k + 1)) (hl : cs.length = cnt (k + 1)) (hv : Rd w v cs) :
    Calls Try.prog 67 #[.int .i64 n, v] w fun e w' => ∃ v1 v2 v3 v4, e = .returned (.agg #[v1, v2, v3, v4]) ∧ Parts w' k cs v1 v2 v3 v4 ∧ Below w.heap.size w w' := by
  obtain ⟨a, cap, rfl, hc, hm, ha, hno⟩ := hv
  have hp := parts_of hl hc hm ha hno
  have h1 := pw_pos k
  have h2 := pw_le (k + 1) (by omega)
  have h3 := cnt_bd k (by omega)
  obtain ⟨m, hm'⟩ : ∃ m, m = pw (k + 1) := ⟨_, rfl⟩
  obtain ⟨h, hh'⟩ : ∃ h, h = pw k := ⟨_, rfl⟩
  obtain ⟨c, hc'⟩ : ∃ c, c = cnt k := ⟨_, rfl⟩
  have hmh : m = 2 * h := by rw [hm', hh']; rfl
  have hlen : cs.length = m + 2 * c := by rw [hl, hm', hc']; rfl
  rw [← hm'] at hp hn h2
  rw [← hh'] at hp h1
  rw [← hc'] at hp h3
  subst hn
  have HD : Hid ((m : Int) / 2 = pw k) := Lib.hid (by rw [← hh']; omega)
  have HH : Hid ((m : Int) / 2 = h) := Lib.hid (by omega)
  have HC := Lib.hid hc'
  have e0 : ((m : Int) / 2).toNat = h := by omega
  have e1 : (m : Int) / 2 ≤ cap := by omega
  have e2 : (m : Int) ≤ cap := by omega
  have e3 : (m : Int) + c ≤ cap := by omega
  have e4 : (m : Int) + c ≤ cs.length := by omega
  have e6 : 0 ≤ (m : Int) / 2 := by omega
  have e7 : (m : Int) / 2 ≤ m := by omega
  have e8 : ((m : Int) + c).toNat = m + c := by omega
  have e9 : ¬ cap = m + c := by omega
  clear hc' hm' hh' hmh hlen hl
  go_enter Try.func67, Try.ntmps67
  go_wp2_with (go_at_call 49; refine (count_any k _ _ (by omega) HD.out).mono ?_; rw [← HC.out]; rintro e w' ⟨rfl, rfl⟩)
  go_region
  all_goals
    go_wp2_with fail
    refine bodyPost_ret (v := .agg #[.slice a h cap, .slice (a.map fun x => x.add h) (m - h) (cap - h), .slice (a.map fun x => x.add m) (m + c - m) (cap - m), .slice (a.map fun x => x.add (m + c)) (cs.length - (m + c)) (cap - (m + c))]) (by simp [results, Try.results67, go_sem]) rfl ?_
    exact ⟨_, _, _, _, rfl, hp.below (((Below.refl _ _).alloc (Nat.le_refl _) _).drew), ((Below.refl _ _).alloc (Nat.le_refl _) _).drew⟩

end Go.Proofs.Ytelnlmhelkcliaa

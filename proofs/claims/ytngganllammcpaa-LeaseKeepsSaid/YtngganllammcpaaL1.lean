/- The small functions that LeaseKeeps comes to: times, comparisons, the fixed answer. -/
import Derived.Test.YtngganllammcpaaProg
import Derived.Test.YtngganllammcpaaGbMore
import Derived.WalkKit
import Derived.WalkLawsBesides
import Derived.WalkSpells
import Derived.Deep.QuietTactic
import Derived.BigQuiet
import Derived.Deep.RegionHeld3
import Derived.Deep.RegionWith
import Derived.Lib.Hide
import Derived.Deep.DeepCutAuto
import Derived.Deep.CutBlock
import Derived.Sort.Walk0
set_option linter.unusedVariables false
set_option linter.unusedSimpArgs false
set_option linter.unusedVariables false
set_option linter.unusedSimpArgs false
namespace Go.Proofs.Ytngganllammcpaa
open Go Go.RowKit Gb
def tm (t : Int) : Bool := decide (0 ≤ t) && decide (t ≤ 1099511627776)
theorem tm_true {t : Int} (h : tm t = true) : 0 ≤ t ∧ t ≤ 1099511627776 := by
  unfold tm at h
  simpa using h
theorem f25_any (t : Int) (w : World) : Calls Try.prog 25 #[.int .i64 t] w fun e w' => e = .returned (.bool (tm t)) ∧ w = w' := by
  by_cases h1 : 0 ≤ t <;> by_cases h2 : t ≤ 1099511627776
  all_goals
    go_enter Try.func25, Try.ntmps25
    go_wp2
    all_goals go_ret
    all_goals exact ⟨ret_bool (by simp [tm, *]), rfl⟩
theorem f30_any (t : Int) (w : World) : Calls Try.prog 30 #[.int .i64 t] w fun e w' => e = .returned (.bool (tm t)) ∧ w = w' := by
  by_cases h1 : 0 ≤ t <;> by_cases h2 : t ≤ 1099511627776
  all_goals
    go_enter Try.func30, Try.ntmps30
    go_wp2
    all_goals go_ret
    all_goals exact ⟨ret_bool (by simp [tm, *]), rfl⟩
theorem f48_any (t : Int) (w : World) : Calls Try.prog 48 #[.int .i64 t] w fun e w' => e = .returned (.bool false) ∧ w = w' := by
  go_enter Try.func48, Try.ntmps48
  go_wp2
  go_ret
  exact ⟨rfl, rfl⟩
theorem f64_any (s : ByteArray) (w : World) : Calls Try.prog 64 #[.string s] w fun e w' => e = .returned (.bool false) ∧ w = w' := by
  go_enter Try.func64, Try.ntmps64
  go_wp2
  go_ret
  exact ⟨rfl, rfl⟩
def cmpI (a b : Int) : Int := if a < b then -1 else if b < a then 1 else 0
def cmpS (a b : ByteArray) : Int := if bs a < bs b then -1 else if bs b < bs a then 1 else 0
theorem f33_any (a b : Int) (w : World) : Calls Try.prog 33 #[.int .i64 a, .int .i64 b] w fun e w' => e = .returned (.int .i64 (cmpI a b)) ∧ w = w' := by
  by_cases h1 : a < b
  · have e : Hd (cmpI a b = -1) := ⟨by unfold cmpI; rw [if_pos h1]⟩
    go_enter Try.func33, Try.ntmps33
    go_wp2_with (first | (go_at_call 48; refine (f48_any _ _).mono ?_; rintro e w1 ⟨rfl, rfl⟩))
    go_ret
    exact ⟨ret_int e.out.symm, rfl⟩
  · by_cases h2 : b < a
    · have e : Hd (cmpI a b = 1) := ⟨by unfold cmpI; rw [if_neg h1, if_pos h2]⟩
      go_enter Try.func33, Try.ntmps33
      go_wp2_with (first | (go_at_call 48; refine (f48_any _ _).mono ?_; rintro e w1 ⟨rfl, rfl⟩))
      go_ret
      exact ⟨ret_int e.out.symm, rfl⟩
    · have e : Hd (cmpI a b = 0) := ⟨by unfold cmpI; rw [if_neg h1, if_neg h2]⟩
      go_enter Try.func33, Try.ntmps33
      go_wp2_with (first | (go_at_call 48; refine (f48_any _ _).mono ?_; rintro e w1 ⟨rfl, rfl⟩))
      go_ret
      exact ⟨ret_int e.out.symm, rfl⟩
theorem less_iff (a b : ByteArray) : Op.bytesLess a.toList b.toList = decide (bs a < bs b) := by
  rw [Go.Proofs.bytesLess_eq, ByteArray.toList_eq, ByteArray.toList_eq]; rfl
theorem f47_any (a b : ByteArray) (w : World) : Calls Try.prog 47 #[.string a, .string b] w fun e w' => e = .returned (.int .i64 (cmpS a b)) ∧ w = w' := by
  have l1 := less_iff a b
  have l2 := less_iff b a
  by_cases h1 : bs a < bs b
  · have e : Hd (cmpS a b = -1) := ⟨by unfold cmpS; rw [if_pos h1]⟩
    rw [decide_eq_true h1] at l1
    clear l2 h1
    go_enter Try.func47, Try.ntmps47
    go_wp2_with (first | (go_at_call 64; refine (f64_any _ _).mono ?_; rintro e w1 ⟨rfl, rfl⟩))
    go_ret
    exact ⟨ret_int e.out.symm, rfl⟩
  · rw [decide_eq_false h1] at l1
    by_cases h2 : bs b < bs a
    · have e : Hd (cmpS a b = 1) := ⟨by unfold cmpS; rw [if_neg h1, if_pos h2]⟩
      rw [decide_eq_true h2] at l2
      have hq : (a.toList == b.toList) = false := tl_ne (fun e => by subst e; exact h1 h2)
      clear h1 h2
      go_enter Try.func47, Try.ntmps47
      go_wp2_with (first | (go_at_call 64; refine (f64_any _ _).mono ?_; rintro e w1 ⟨rfl, rfl⟩))
      go_ret
      exact ⟨ret_int e.out.symm, rfl⟩
    · have e : Hd (cmpS a b = 0) := ⟨by unfold cmpS; rw [if_neg h1, if_neg h2]⟩
      have hq := tl_eq (bs_inj (List.le_antisymm (List.not_lt.1 h2) (List.not_lt.1 h1)))
      rw [decide_eq_false h2] at l2
      clear h1 h2
      go_enter Try.func47, Try.ntmps47
      go_wp2_with (first | (go_at_call 64; refine (f64_any _ _).mono ?_; rintro e w1 ⟨rfl, rfl⟩))
      go_ret
      exact ⟨ret_int e.out.symm, rfl⟩
def orI (a b : Int) : Int := if a = 0 then b else a
theorem f46_any (blk : Nat) (a b : Int) (w : World) (h0 : w.cell? ⟨blk, 0, none⟩ = some (.int .i64 a)) (h1 : w.cell? ⟨blk, 1, none⟩ = some (.int .i64 b)) : Calls Try.prog 46 #[.slice (some ⟨blk, 0, none⟩) 2 2] w fun e w' => e = .returned (.int .i64 (orI a b)) ∧ w = w' := by
  by_cases ha : a = 0
  · have e : Hd (orI a b = b) := ⟨by unfold orI; rw [if_pos ha]⟩
    have ha' : (a != 0) = false := by simpa using ha
    clear ha
    by_cases hb : b = 0
    · have hb' : (b != 0) = false := by simpa using hb
      have e2 : Hd (b = 0) := ⟨hb⟩
      clear hb
      go_enter Try.func46, Try.ntmps46
      go_wp2
      refine wp_loop_rounds 3 ?_
      rw [rounds_succ]
      go_wp2
      rw [rounds_succ]
      go_wp2
      rw [rounds_succ]
      go_wp2
      go_ret
      exact ⟨ret_int (by rw [e.out, e2.out]), rfl⟩
    · have hb' : (b != 0) = true := by simpa using hb
      clear hb
      go_enter Try.func46, Try.ntmps46
      go_wp2
      refine wp_loop_rounds 2 ?_
      rw [rounds_succ]
      go_wp2
      rw [rounds_succ]
      go_wp2
      go_ret
      exact ⟨ret_int e.out.symm, rfl⟩
  · have e : Hd (orI a b = a) := ⟨by unfold orI; rw [if_neg ha]⟩
    have ha' : (a != 0) = true := by simpa using ha
    clear ha
    go_enter Try.func46, Try.ntmps46
    go_wp2
    refine wp_loop_rounds 1 ?_
    rw [rounds_succ]
    go_wp2
    go_ret
    exact ⟨ret_int e.out.symm, rfl⟩
end Go.Proofs.Ytngganllammcpaa

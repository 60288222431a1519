/- The walks of slices.IndexFunc, slices.ContainsFunc and the name test of the package disk. -/
import Derived.Test.YtmflfimenacflaaProg
import Derived.Test.YtmflfimenacflaaGbMaps
import Derived.Test.YtmflfimenacflaaGbRep
import Derived.WalkKit
import Derived.WalkLawsBesides
import Derived.WalkSpells
import Derived.Deep.QuietTactic
import Derived.BigQuiet
import Derived.Lib.ConvBytes
import Derived.Lib.Hide
set_option linter.unusedVariables false
set_option linter.unusedSimpArgs false
namespace Go.Proofs.Ytmflfimenacflaa
open Go.RowKit Gb
def badc (c : Int) : Bool := (decide (c < 97) || decide (122 < c)) && (decide (c < 48) || decide (57 < c)) && c != 46 && c != 45
def badb (c : UInt8) : Bool := badc c.toNat
theorem badc_no {c : Int} (h : (97 ≤ c ∧ c ≤ 122) ∨ (48 ≤ c ∧ c ≤ 57) ∨ c = 46 ∨ c = 45) : badc c = false := by
  unfold badc
  rcases h with h | h | h | h
  all_goals simp
  all_goals omega
theorem ret_int {k : IntKind} {a b : Int} (h : a = b) : Ending.returned (.int k a) = .returned (.int k b) := by rw [h]
theorem ret_bool {a b : Bool} (h : a = b) : Ending.returned (.bool a) = .returned (.bool b) := by rw [h]
set_option maxHeartbeats 400000 in
theorem f41_any (c : Int) (w : World) :
   Calls Try.prog 41 #[.int .u8 c] w fun e w' => e = .returned (.bool (badc c)) ∧ w = w' := by
  by_cases h1 : c < 97 <;> by_cases h2 : 122 < c <;> by_cases h3 : c < 48 <;> by_cases h4 : 57 < c <;> by_cases h5 : c = 46 <;> by_cases h6 : c = 45
  all_goals (try omega)
  all_goals
    go_enter Try.func41, Try.ntmps41
    go_wp2
    all_goals go_ret
    all_goals exact ⟨ret_bool (by simp [badc, *]), rfl⟩

theorem idx_found {α : Type} {p : α → Bool} {xs : List α} {k : Nat} {x : α} (hx : xs[k]? = some x) (hall : (xs.take k).all (fun b => !p b) = true) (hp : p x = true) : xs.findIdx? p = some k := by
  have hk : k < xs.length := (List.getElem?_eq_some_iff.1 hx).1
  have hxe : xs[k] = x := (List.getElem?_eq_some_iff.1 hx).2
  rw [List.findIdx?_eq_some_iff_getElem]
  refine ⟨hk, by rw [hxe]; exact hp, fun j hj => ?_⟩
  have := List.all_eq_true.1 hall (xs[j]'(by omega)) (List.mem_take_iff_getElem.2 ⟨j, by omega, rfl⟩)
  simpa using this
theorem all_snoc {α : Type} {p : α → Bool} {xs : List α} {k : Nat} {x : α} (hx : xs[k]? = some x) (hall : (xs.take k).all p = true) (hp : p x = true) : (xs.take (k + 1)).all p = true := by
  have hk : k < xs.length := (List.getElem?_eq_some_iff.1 hx).1
  have hxe : xs[k] = x := (List.getElem?_eq_some_iff.1 hx).2
  rw [List.take_succ_eq_append_getElem hk, List.all_append, hall, hxe]
  simp [hp]
/-- a predicate's closure at bytes -/
def idx {α : Type} (p : α → Bool) (xs : List α) : Int := match xs.findIdx? p with | some i => (i : Int) | none => -1
set_option maxHeartbeats 400000 in
theorem f45_any (s : Value) (xs : List UInt8) (w : World) {F : Nat → Prop} (h : Rd Rep.u8 w F s xs) :
   Calls Try.prog 45 #[s, .func (.func 41) #[] #[]] w fun e w' => e = .returned (.int .i64 (idx badb xs)) ∧ w = w' := by
  have hm := h.le
  obtain ⟨A, c, rfl, hc, _, _⟩ := h.slice
  unfold maxLen at hm
  have HR := Hd.mk h
  clear h
  go_enter Try.func45, Try.ntmps45
  go_wp2
  go_loop [8] (fun i => ∃ k : Nat, k ≤ xs.length ∧ i = .int .i64 k ∧ (xs.take k).all (fun b => !badb b) = true) (fun i => xs.length - (intOf i).toNat)
  case atStart => exact ⟨0, Nat.zero_le _, rfl, rfl⟩
  case round =>
    obtain ⟨k, hk, rfl, hall⟩ := hrel
    have HA := Hd.mk hall
    clear hall
    by_cases hlt : k < xs.length
    · obtain ⟨ad, rfl, _, hcell, _⟩ := Rd.at HR.out hlt
      obtain ⟨x, hx⟩ : ∃ x, x = xs[k] := ⟨_, rfl⟩
      rw [← hx] at hcell
      have HX : Hd (xs[k]? = some x) := ⟨by rw [hx]; simp⟩
      clear hx
      unfold u8 at hcell
      go_wp2_with (go_at_call 41; refine (f41_any _ _).mono ?_; rintro e w' ⟨rfl, rfl⟩)
      · have hb : badb x = true := by unfold badb; assumption
        go_ret
        exact ⟨ret_int (by unfold idx; rw [idx_found HX.out HA.out hb]), rfl⟩
      · have hb : badb x = false := by unfold badb; assumption
        go_round
        case rel => exact ⟨k + 1, by omega, by go_num, all_snoc HX.out HA.out (by rw [hb]; rfl)⟩
        case measure => simp [intOf]; omega
    · obtain rfl : k = xs.length := by omega
      go_wp2
      go_ret
      refine ⟨ret_int ?_, rfl⟩
      have h := HA.out
      rw [List.take_length] at h
      unfold idx
      rw [List.findIdx?_eq_none_iff.2 (fun x hx => by have := List.all_eq_true.1 h x hx; simpa using this)]
end Go.Proofs.Ytmflfimenacflaa

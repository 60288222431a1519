/- IndexFunc and DeleteFunc over known sessions, with the closure that compares keys; MinFunc. -/
import Derived.Test.YtngganllammcpaaL2
import Derived.Test.YtngganllammcpaaGbPut
set_option linter.unusedVariables false
set_option linter.unusedSimpArgs false
set_option linter.unusedVariables false
set_option linter.unusedSimpArgs false
namespace Go.Proofs.Ytngganllammcpaa
open Go Go.RowKit Gb
theorem KR.hl : ∀ x : KR, (KR.cells x).length = 8 := fun _ => rfl
def same (h : ByteArray) (n : Int) (y : KR) : Bool := decide (y.home = h ∧ y.n = n)
set_option maxRecDepth 100000 in
set_option maxHeartbeats 1000000 in
theorem f27_any (y : KR) (sb : Nat) (h : ByteArray) (n : Int) (w : World) (h0 : w.cell? ⟨sb, 0, none⟩ = some (.string h)) (h1 : w.cell? ⟨sb, 1, none⟩ = some (.int .i64 n)) :
    Calls Try.prog 27 #[y.val, .pointer (some ⟨sb, 0, none⟩)] w fun e w' => e = .returned (.bool (same h n y)) ∧ Step No w w' := by
  have x0 := fun O => (Step.alloc No w O).cell h0 (fun h => h)
  have x1 := fun O => (Step.alloc No w O).cell h1 (fun h => h)
  have HS : Hd (same h n y = decide (y.home = h ∧ y.n = n)) := ⟨rfl⟩
  by_cases e1 : y.home = h
  · have t1 := tl_eq e1
    by_cases e2 : y.n = n
    · have t2 : (y.n == n) = true := by simpa using e2
      have HE : Hd (same h n y = true) := ⟨by rw [HS.out]; exact decide_eq_true ⟨e1, e2⟩⟩
      clear e1 e2
      unfold KR.val
      go_enter Try.func27, Try.ntmps27
      go_wp2
      go_ret
      exact ⟨ret_bool (by rw [HE.out]), Step.alloc _ _ _⟩
    · have t2 : (y.n == n) = false := by simpa using e2
      have HE : Hd (same h n y = false) := ⟨by rw [HS.out]; exact decide_eq_false (fun h => e2 h.2)⟩
      clear e1 e2
      unfold KR.val
      go_enter Try.func27, Try.ntmps27
      go_wp2
      go_ret
      exact ⟨ret_bool (by rw [HE.out]), Step.alloc _ _ _⟩
  · have t1 := tl_ne e1
    have HE : Hd (same h n y = false) := ⟨by rw [HS.out]; exact decide_eq_false (fun h => e1 h.1)⟩
    clear e1
    unfold KR.val
    go_enter Try.func27, Try.ntmps27
    go_wp2
    go_ret
    exact ⟨ret_bool (by rw [HE.out]), Step.alloc _ _ _⟩
theorem KR.ats {w : World} {A : Option Addr} {n c : Nat} {ks : List KR} (h : SRow KR.cells 8 w 80 (.slice A n c) ks) {k : Nat} (hk : k < ks.length) :
    ∃ g, A = some ⟨g, 0, none⟩ ∧ Own (.slice A n c) g ∧ (∀ j, w.frozen? ⟨g, j, none⟩ = false) ∧ w.cell? ⟨g, k * 8, none⟩ = some (.string ks[k].home) ∧ w.cell? ⟨g, k * 8 + 1, none⟩ = some (.int .i64 ks[k].n) ∧ w.cell? ⟨g, k * 8 + 2, none⟩ = some (.int .i64 ks[k].nonce) ∧ w.cell? ⟨g, k * 8 + 3, none⟩ = some (.int .i64 ks[k].lease) ∧ w.cell? ⟨g, k * 8 + 4, none⟩ = some (.int .i64 ks[k].beats) ∧ w.cell? ⟨g, k * 8 + 5, none⟩ = some (.int .i64 ks[k].req) ∧ w.cell? ⟨g, k * 8 + 6, none⟩ = some (.slice none 0 0) ∧ w.cell? ⟨g, k * 8 + 7, none⟩ = some (.int .i64 ks[k].since) := by
  obtain ⟨g, hA, ho, hf, hc⟩ := h.at KR.hl hk
  exact ⟨g, hA, ho, hf, hc 0 _ rfl, hc 1 _ rfl, hc 2 _ rfl, hc 3 _ rfl, hc 4 _ rfl, hc 5 _ rfl, hc 6 _ rfl, hc 7 _ rfl⟩
set_option maxRecDepth 100000 in
set_option maxHeartbeats 1000000 in
theorem f43_any (A : Option Addr) (c : Nat) (ks : List KR) (sb : Nat) (h : ByteArray) (n : Int) (w : World) (hr : SRow KR.cells 8 w 80 (.slice A ks.length c) ks) (h0 : w.cell? ⟨sb, 0, none⟩ = some (.string h)) (h1 : w.cell? ⟨sb, 1, none⟩ = some (.int .i64 n)) :
    Calls Try.prog 43 #[.slice A ks.length c, .func (.func 27) #[] #[.pointer (some ⟨sb, 0, none⟩)]] w fun e w' => e = .returned (.int .i64 (idx (same h n) ks)) ∧ Step No w w' := by
  obtain ⟨_, _, hv, hcm, hcx, _⟩ := hr.slice
  cases hv
  have hlen : ks.length ≤ 9223372036854775807 := by unfold maxLen at hcx; omega
  have HR := Hd.mk hr
  have H27 : Hd (∀ W (y : KR), Step No w W → Calls Try.prog 27 #[y.val, .pointer (some ⟨sb, 0, none⟩)] W fun e w' => e = .returned (.bool (same h n y)) ∧ Step No w w') := ⟨fun W y hs =>
    (f27_any y sb h n W (hs.cell h0 (fun h => h)) (hs.cell h1 (fun h => h))).mono fun _ _ ⟨a, b⟩ => ⟨a, hs.trans' b⟩⟩
  clear hr h0 h1
  unfold KR.val at H27
  go_enter Try.func43, Try.ntmps43
  go_wp2
  go_loopg [8] ks.length (fun kq i wr => ∃ k : Nat, k ≤ ks.length ∧ i = .int .i64 k ∧ Hd (kq = ks.length - k) ∧ Hd (Step No w wr) ∧ Hd ((ks.take k).all (fun b => !same h n b) = true))
  case atStart => exact ⟨0, Nat.zero_le _, rfl, ⟨rfl⟩, ⟨Step.refl _ _⟩, ⟨rfl⟩⟩
  case round =>
    obtain ⟨k, hk, rfl, HK, HS, HA⟩ := hrel
    by_cases hlt : k < ks.length
    · obtain ⟨g, rfl, -, -, x0, x1, x2, x3, x4, x5, x6, x7⟩ := KR.ats (HR.out.stepNo HS.out) hlt
      obtain ⟨y, hy⟩ : ∃ y, y = ks[k] := ⟨_, rfl⟩
      rw [← hy] at x0 x1 x2 x3 x4 x5 x7
      have HY : Hd (ks[k]? = some y) := ⟨by rw [hy]; simp⟩
      have hcall := H27.out wr y HS.out
      obtain ⟨bq, hbq⟩ : ∃ bq, bq = same h n y := ⟨_, rfl⟩
      rw [← hbq] at hcall
      have HCall := Hd.mk hcall
      have HBq := Hd.mk hbq
      clear hy hcall hbq
      cases bq with
      | true =>
        go_wp2_with (first | (go_at_call 27; refine HCall.out.mono ?_; rintro e w1 ⟨rfl, hs1⟩))
        go_ret
        exact ⟨ret_int (by unfold idx; rw [idx_found HY.out HA.out HBq.out.symm]), by assumption⟩
      | false =>
        go_wp2_with (first | (go_at_call 27; refine HCall.out.mono ?_; rintro e w1 ⟨rfl, hs1⟩))
        go_roundg (ks.length - (k + 1))
        case measure => have := HK.out; omega
        case rel => exact ⟨k + 1, by omega, by go_num, ⟨rfl⟩, ⟨by assumption⟩, ⟨all_snoc HY.out HA.out (by rw [← HBq.out]; rfl)⟩⟩
    · obtain rfl : k = ks.length := by omega
      go_wp2
      go_ret
      refine ⟨ret_int ?_, HS.out⟩
      have h := HA.out
      rw [List.take_length] at h
      unfold idx
      rw [List.findIdx?_eq_none_iff.2 (fun x hx => by have := List.all_eq_true.1 h x hx; simpa using this)]
end Go.Proofs.Ytngganllammcpaa

/- The walks of Join and Copy of the package althingref01. -/
import Derived.Test.YtmflfimenacflaaD11
set_option linter.unusedVariables false
set_option linter.unusedSimpArgs false
namespace Go.Proofs.Ytmflfimenacflaa
open Go.RowKit Gb
theorem take_flat {α : Type} (ls : List (List α)) {k : Nat} (hk : k < ls.length) : (ls.take (k + 1)).flatten = (ls.take k).flatten ++ ls[k] := by
  rw [List.take_succ_eq_append_getElem hk, List.flatten_append]; simp
theorem flat_le {α : Type} (ls : List (List α)) {k : Nat} (hk : k < ls.length) : (ls.take k).flatten.length + ls[k].length ≤ ls.flatten.length := by
  have h := take_flat ls hk
  have h2 : ls.flatten = (ls.take (k + 1)).flatten ++ (ls.drop (k + 1)).flatten := by rw [← List.flatten_append, List.take_append_drop]
  rw [h2, h]; simp
set_option maxHeartbeats 1000000 in
theorem f33_any (v : Value) (ls : List (List UInt8)) (w : World) {F : Nat → Prop} (h : Rd Rep.u8.slice w F v ls) (hsz : ls.flatten.length ≤ 140737488355328) (hF : ∀ k, F k → k < w.heap.size) :
    Calls Try.prog 33 #[v] w fun e w' => ∃ v', e = .returned v' ∧ RowAt w' 5 1 v' ls.flatten.length (ls.flatten.map Gb.u8) ∧ Fresh w v' ∧ Step No w w' := by
  have hm := h.le
  unfold maxLen at hm
  obtain ⟨A, c, rfl, hc, _, _⟩ := h.slice
  have HR := Hd.mk h
  have HF := Hd.mk hF
  clear h hF
  go_enter Try.func33, Try.ntmps33
  go_wp2
  go_loopg [3, 4] ls.length (fun kq t i wr => ∃ k : Nat, k ≤ ls.length ∧ i = .int .i64 k ∧ Hd (kq = ls.length - k) ∧ Hd (RowAt wr 5 1 t (ls.take k).flatten.length ((ls.take k).flatten.map Gb.u8)) ∧ Hd (Fresh w t) ∧ Hd (Step No w wr))
  case atStart =>
    refine ⟨0, Nat.zero_le _, rfl, ⟨rfl⟩, ⟨?_⟩, ⟨?_⟩, ⟨Step.alloc _ _ _⟩⟩
    · exact ⟨rfl, .inr ⟨w.heap.size, 0, #[], rfl, blk_new w _, Nat.le_refl _, Nat.zero_le _, Nat.zero_le _, rfl⟩⟩
    · intro k hk; cases hk; exact Nat.le_refl _
  case round =>
    obtain ⟨k, hk, rfl, HK, HV, HFr, HS⟩ := hrel
    by_cases hlt : k < ls.length
    · obtain ⟨ad, v, rfl, _, hcell, hv⟩ := (HR.out.stepNo HS.out).atSlice hlt
      obtain ⟨A2, c2, rfl, hc2, _, _⟩ := hv.slice
      have hfl := flat_le ls hlt
      have htf := take_flat ls hlt
      obtain ⟨x, hx⟩ : ∃ x, x = ls[k] := ⟨_, rfl⟩
      rw [← hx] at hcell hv hc2 hfl htf
      have HVx := Hd.mk hv
      have HTF := Hd.mk htf
      clear hx hv htf
      go_wp2_with (at_builtin; refine Stop.back ?_)
      refine Stop.go (wp_append rfl _ _ 32 5 rfl (.int .u8 0) 1 1 Try.underlying32 info5 rfl (by decide) _ _ _ rfl HV.out A2 x.length c2 (x.map Gb.u8) rfl (by simp) HVx.out.nilc HVx.out.cells (u8_one x) (by unfold maxLen; omega) (by omega) ?_)
      intro v' w2 k1 k2 _ k4
      have HV2 : Hd (RowAt w2 5 1 v' (ls.take (k + 1)).flatten.length ((ls.take (k + 1)).flatten.map Gb.u8)) := ⟨by rw [HTF.out]; simpa using k1⟩
      have HFr2 : Hd (Fresh w v') := ⟨fun j hj => by
        rcases k4 j hj with h | h
        · exact HFr.out j h
        · exact Nat.le_trans HS.out.size h⟩
      have HS2 : Hd (Step No w w2) := ⟨HS.out.trans k2 (fun i hi hlt => by have := HFr.out i hi; omega)⟩
      clear k1 k2 k4
      refine Stop.go ?_
      go_wp2
      go_roundg (ls.length - (k + 1))
      case measure => have := HK.out; omega
      case rel => exact ⟨k + 1, by omega, by go_num, ⟨rfl⟩, HV2, HFr2, HS2⟩
    · obtain rfl : k = ls.length := by omega
      have HV2 : Hd (RowAt wr 5 1 u3 ls.flatten.length (ls.flatten.map Gb.u8)) := ⟨by have := HV.out; rwa [List.take_length] at this⟩
      go_wp2
      go_ret
      exact ⟨u3, rfl, HV2.out, HFr.out, HS.out⟩
theorem f14_any (v : Value) (l : List UInt8) (w : World) {F : Nat → Prop} (h : Rd Rep.u8 w F v l) (hsz : l.length ≤ 140737488355328) (hF : ∀ k, F k → k < w.heap.size) :
    Calls Try.prog 14 #[v] w fun e w' => ∃ v', e = .returned v' ∧ RowAt w' 5 1 v' l.length (l.map Gb.u8) ∧ Fresh w v' ∧ Step No w w' := by
  obtain ⟨A, c, rfl, hc, hcm, hn⟩ := h.slice
  have h1 : Rd Rep.u8.slice (w.alloc (.cells #[.slice A l.length c] 32)) (fun k => k ≤ w.heap.size) (.slice (some ⟨w.heap.size, 0, none⟩) 1 1) [l] := by
    refine ⟨some ⟨w.heap.size, 0, none⟩, 1, rfl, Nat.le_refl _, by unfold maxLen; omega, (by intro h; cases h), fun i x hx => ?_⟩
    cases i with
    | succ i => simp at hx
    | zero =>
      simp at hx; subst hx
      refine ⟨_, [.slice A l.length c], rfl, Nat.le_refl _, (h.stepNo (Step.alloc _ _ _)).mono (fun k hk => Nat.le_of_lt (hF k hk)), fun j u hu => ?_⟩
      cases j with
      | succ j => simp at hu
      | zero =>
        simp at hu; subst hu
        rw [add_plain, blk_cell (blk_new w _)]; rfl
  have HR := Hd.mk h1
  clear h1
  go_enter Try.func14, Try.ntmps14
  go_wp2_with (go_at_call 33; refine (f33_any _ [l] _ HR.out (by simpa using hsz) (fun k hk => by simp; omega)).mono ?_; rintro e w1 ⟨v', rfl, hv, hfr, hs⟩; refine Stop.back ?_)
  have HX : Hd (RowAt w1 5 1 v' l.length (l.map Gb.u8) ∧ Fresh w v' ∧ Step No w w1) := ⟨by simpa using hv, hfr.step (by simp), (Step.alloc _ _ _).trans' hs⟩
  clear hv hfr hs
  refine Stop.go ?_
  go_wp2
  go_ret
  exact ⟨v', rfl, HX.out⟩
end Go.Proofs.Ytmflfimenacflaa

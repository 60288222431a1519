/- What a disk's state says of memory: the table of files, and the walk of New. -/
import Derived.Test.YtmflfimenacflaaD1
import Derived.Test.YtmflfimenacflaaGbKeys
set_option linter.unusedVariables false
set_option linter.unusedSimpArgs false
namespace Go.Proofs.Ytmflfimenacflaa
open Go.RowKit Gb
theorem idx_nonneg {α : Type} (p : α → Bool) (xs : List α) : (decide (0 ≤ idx p xs)) = xs.any p := by
  unfold idx
  cases h : xs.findIdx? p with
  | none =>
    have := List.findIdx?_eq_none_iff.1 h
    have h2 : xs.any p = false := List.any_eq_false.2 (fun x hx => by simpa using this x hx)
    rw [h2]; rfl
  | some i =>
    obtain ⟨hi, h1, _⟩ := List.findIdx?_eq_some_iff_getElem.1 h
    have h2 : xs.any p = true := List.any_eq_true.2 ⟨_, List.getElem_mem hi, h1⟩
    rw [h2]; simp
set_option maxHeartbeats 400000 in
theorem f40_any (s : Value) (xs : List UInt8) (w : World) {F : Nat → Prop} (h : Rd Rep.u8 w F s xs) :
   Calls Try.prog 40 #[s, .func (.func 41) #[] #[]] w fun e w' => e = .returned (.bool (xs.any badb)) ∧ w = w' := by
  have H := Hd.mk h
  clear h
  go_enter Try.func40, Try.ntmps40
  go_wp2_with (go_at_call 45; refine (f45_any _ _ _ H.out).mono ?_; rintro e w' ⟨rfl, rfl⟩)
  go_ret
  exact ⟨ret_bool (idx_nonneg _ _), rfl⟩
def okName (s : ByteArray) : Bool := !(s.toList.isEmpty) && decide (s.size ≤ 40) && !((bs s).any badb)
theorem rds_bytes (w : World) (e : TypeId) (s : ByteArray) (c : Nat) (hc : s.size ≤ c) (hm : c ≤ maxLen) : Rd Rep.u8 (Lib.bytesWorld w e s) (fun k => k = w.heap.size) (.slice (some ⟨w.heap.size, 0, none⟩) s.size c) (bs s) := by
  have hl := bs_length s
  refine ⟨some ⟨w.heap.size, 0, none⟩, c, by rw [hl], by omega, hm, (by intro h; cases h), fun i x hx => ⟨_, _, rfl, rfl, ⟨rfl, trivial⟩, fun j u hu => ?_⟩⟩
  have hj : j = 0 ∧ u = u8 x := by
    cases j with
    | zero => simp at hu; exact ⟨rfl, hu.symm⟩
    | succ j => simp at hu
  obtain ⟨rfl, rfl⟩ := hj
  have hi : i < (bs s).length := (List.getElem?_eq_some_iff.1 hx).1
  have e1 : (⟨w.heap.size, 0, none⟩ : Addr).add (i * Rep.u8.sz + 0) = ⟨w.heap.size, i, none⟩ := by rw [add_plain]; simp [Rep.u8, Rep.cell]
  rw [e1, Lib.bytesWorld_cell w e s i (by omega)]
  unfold bs at hx
  unfold u8
  rw [List.getD_eq_getElem?_getD, hx]; rfl
theorem step_bytes (w : World) (e : TypeId) (s : ByteArray) : Step No w (Lib.bytesWorld w e s) :=
  ⟨rfl, rfl, rfl, by rw [Lib.bytesWorld_size]; omega, fun i hi _ => Lib.bytesWorld_at_old w e s i (by omega)⟩
set_option maxHeartbeats 400000 in
theorem f28_any (s : ByteArray) (w : World) (hs : StrOk s) :
   Calls Try.prog 28 #[.string s] w fun e w' => e = .returned (.bool (okName s)) ∧ Step No w w' := by
  have kb := fun W => Lib.run_convert_string_bytes (P := Try.prog) W 9 32 5 s Try.underlying9 Try.underlying32 Try.underlying5
  have hr := rds_bytes w 5 s _ (grownCap_ge w s.size 0 5) (grownCap_le_maxLen _ _ _ _ (by unfold maxLen; exact hs))
  have hst := step_bytes w 5 s
  have HR := Hd.mk hr
  have HS := Hd.mk hst
  clear hr hst
  go_enter Try.func28, Try.ntmps28
  go_wp2_with (go_at_call 40; refine (f40_any _ _ _ HR.out).mono ?_; rintro e w' ⟨rfl, rfl⟩)
  all_goals go_ret
  · refine ⟨ret_bool ?_, Step.refl _ _⟩
    simp [okName, *]
  · refine ⟨ret_bool ?_, Step.refl _ _⟩
    rename_i h
    rcases h with h | h
    · simp [okName, h]
    · have : ¬ s.size ≤ 40 := by omega
      simp [okName, this]
  · rename_i h
    refine ⟨ret_bool ?_, HS.out⟩
    have : s.size ≤ 40 := by omega
    simp [okName, this, h.1]
end Go.Proofs.Ytmflfimenacflaa

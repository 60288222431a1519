/- Rows of structs: a whole element stored, a tail cleared. -/
import Derived.Test.YtngganllammcpaaGbMore
import Derived.Lib.SliceRun
set_option linter.unusedVariables false
set_option linter.unusedSimpArgs false
set_option linter.unusedVariables false
set_option linter.unusedSimpArgs false
namespace Gb
open Go Go.RowKit
def setMany : List Value → Nat → List Value → List Value
  | xs, _, [] => xs
  | xs, o, v :: r => setMany (xs.set o v) (o + 1) r
theorem setMany_eq (vs : List Value) : ∀ (xs : List Value) (o : Nat), o + vs.length ≤ xs.length → setMany xs o vs = xs.take o ++ vs ++ xs.drop (o + vs.length) := by
  induction vs with
  | nil => intro xs o _; simp [setMany]
  | cons v vs ih =>
    intro xs o h
    simp only [List.length_cons] at h
    rw [setMany, ih _ _ (by rw [List.length_set]; omega)]
    have h1 : (xs.set o v).take (o + 1) = xs.take o ++ [v] := by
      rw [List.take_set, List.take_succ_eq_append_getElem (by omega), List.set_append_right _ _ (by simp; omega)]
      simp [List.length_take, Nat.min_eq_left (show o ≤ xs.length by omega)]
    have h2 : (xs.set o v).drop (o + 1 + vs.length) = xs.drop (o + (v :: vs).length) := by
      rw [List.drop_set_of_lt (by omega)]
      congr 1
      simp only [List.length_cons]; omega
    rw [h1, h2]; simp
theorem RowAt.setCells {w : World} {e : TypeId} {size n g c : Nat} {xs : List Value} (h : RowAt w e size (.slice (some ⟨g, 0, none⟩) n c) n xs) (o : Nat) (vs : List Value) :
    RowAt (w.setCells g o vs) e size (.slice (some ⟨g, 0, none⟩) n c) n (setMany xs o vs) ∧ Step (At g) w (w.setCells g o vs) := by
  induction vs generalizing w o xs with
  | nil => exact ⟨h, Step.refl _ _⟩
  | cons v vs ih =>
    obtain ⟨h1, h2⟩ := ih (h.set o v) (o + 1)
    exact ⟨h1, (Step.setAt w ⟨g, o, none⟩ v).trans' h2⟩
theorem setCells_size (g : Nat) (vs : List Value) : ∀ (o : Nat) (w : World), (w.setCells g o vs).heap.size = w.heap.size := by
  induction vs with
  | nil => intro o w; rfl
  | cons v vs ih => intro o w; rw [World.setCells, ih]; simp [World.setCell]
section
variable {α : Type} {enc : α → List Value} {sz : Nat}
theorem flat_set (hl : ∀ x, (enc x).length = sz) (zs : List α) {i : Nat} (hi : i < zs.length) (v : α) : setMany (zs.flatMap enc) (i * sz) (enc v) = (zs.set i v).flatMap enc := by
  have hlen := flat_len hl zs
  have hm : (i + 1) * sz ≤ zs.length * sz := Nat.mul_le_mul_right _ hi
  rw [Nat.succ_mul] at hm
  rw [setMany_eq _ _ _ (by rw [hl, hlen]; exact hm), flat_take hl zs i (Nat.le_of_lt hi), hl]
  have hd : (zs.flatMap enc).drop (i * sz + sz) = (zs.drop (i + 1)).flatMap enc := by
    rw [← flat_drop hl zs (i + 1), Nat.succ_mul]
  rw [hd, List.set_eq_take_append_cons_drop, if_pos hi]
  simp
/-- a whole element stored -/
theorem SRow.put {w : World} {e : TypeId} {n g c : Nat} {zs : List α} (hl : ∀ x, (enc x).length = sz) (h : SRow enc sz w e (.slice (some ⟨g, 0, none⟩) n c) zs) {i : Nat} (hi : i < zs.length) (v : α) :
    SRow enc sz (w.setCells g (i * sz) (enc v)) e (.slice (some ⟨g, 0, none⟩) n c) (zs.set i v) ∧ Step (At g) w (w.setCells g (i * sz) (enc v)) := by
  obtain ⟨A, c', hv, _⟩ := h.slice
  cases hv
  obtain ⟨h1, h2⟩ := RowAt.setCells h (i * sz) (enc v)
  rw [flat_set hl zs hi] at h1
  refine ⟨?_, h2⟩
  unfold SRow
  rw [List.length_set]; exact h1
/-- a row cut to its first m elements -/
theorem SRow.take {w : World} {e : TypeId} {g c : Nat} {zs : List α} (hl : ∀ x, (enc x).length = sz) (h : SRow enc sz w e (.slice (some ⟨g, 0, none⟩) zs.length c) zs) {m : Nat} (hm : m ≤ zs.length) : SRow enc sz w e (.slice (some ⟨g, 0, none⟩) m c) (zs.take m) := by
  obtain ⟨A, c', hv, hc, _⟩ := h.slice
  cases hv
  have := RowAt.cut h rfl m c hm (by omega) (Nat.le_refl _)
  rw [flat_take hl zs m hm] at this
  unfold SRow
  rw [List.length_take, Nat.min_eq_left hm]; exact this
theorem setCells_keep {w : World} {b : Nat} {T : TypeId} (vs : List Value) : ∀ (o : Nat) (w : World) (cur : Array Value), w.heap[b]? = some (.cells cur T (0, 0)) →
    ∃ cur' : Array Value, (w.setCells b o vs).heap[b]? = some (.cells cur' T (0, 0)) ∧ cur'.size = cur.size ∧ cur'.toList.take o = cur.toList.take o ∧ Step (At b) w (w.setCells b o vs) := by
  induction vs with
  | nil => intro o w cur h; exact ⟨cur, h, rfl, rfl, Step.refl _ _⟩
  | cons v vs ih =>
    intro o w cur h
    obtain ⟨cur', h1, h2, h3, h4⟩ := ih (o + 1) _ _ (blk_set h o v)
    refine ⟨cur', h1, by simpa using h2, ?_, (Step.setAt w ⟨b, o, none⟩ v).trans' h4⟩
    have := congrArg (List.take o) h3
    rw [List.take_take, List.take_take] at this
    rw [Nat.min_eq_left (Nat.le_succ o)] at this
    rw [this, Array.toList_setIfInBounds, List.take_set_of_le (Nat.le_refl o)]
/-- clear(s[m:]) of a row: the first m elements stay -/
theorem run_clear_tail {P : Program} {w : World} {e : TypeId} {g c : Nat} {zs : List α} (hl : ∀ x, (enc x).length = sz) (h : SRow enc sz w e (.slice (some ⟨g, 0, none⟩) zs.length c) zs) {m : Nat} (hm : m < zs.length)
    (t : TypeId) (z : Value) (ht : P.underlying t = some (.slice e)) (hv : ∀ w, (zeroValue e).run P w = .ok z w) (hz : z.cells.size = sz) (h1 : ∀ u ∈ z.cells.toList, u.oneCell' = true) (hsz : 0 < sz) (c' : Nat) :
    ∃ w', (∀ ty, (Builtin.clear_ #[t] ty #[.slice (some ⟨g, m * sz, none⟩) (zs.length - m) c']).run P w = .ok (.tuple #[]) w') ∧ SRow enc sz w' e (.slice (some ⟨g, 0, none⟩) m c) (zs.take m) ∧ Step (At g) w w' := by
  have hr := h
  rcases h.2 with ⟨h0, _⟩ | ⟨g', cap, cur, hv', hg, hnc, hcm, hcs, htake⟩
  · cases h0
  · cases hv'
    obtain ⟨k, hk⟩ : ∃ k, zs.length - m = k + 1 := ⟨zs.length - m - 1, by omega⟩
    have hlen : (Builtin.zeroCells z.cells (k + 1)).toList.length = (k + 1) * sz := by rw [Array.length_toList, size_zeroCells, hz]
    have hfit : m * sz + (k + 1) * sz ≤ cur.size := by
      rw [← Nat.add_mul]
      have : m + (k + 1) ≤ c := by omega
      exact Nat.le_trans (Nat.mul_le_mul_right _ this) hcs
    have hone : ∀ u ∈ (Builtin.zeroCells z.cells (k + 1)).toList, u.oneCell' = true := by
      intro u hu
      simp only [Builtin.zeroCells, Array.toList_map, List.mem_map] at hu
      obtain ⟨j, _, rfl⟩ := hu
      have hj : j % z.cells.size < z.cells.size := Nat.mod_lt _ (by omega)
      refine h1 _ ?_
      rw [getElem!_pos z.cells (j % z.cells.size) hj]
      exact Array.mem_toList_iff.2 (Array.getElem_mem hj)
    have hst := run_storeCells_cells (P := P) g (m * sz) (Builtin.zeroCells z.cells (k + 1)).toList 0 w (by
      intro j hj
      simp only [Nat.add_zero]
      rw [blk_cell hg]
      have hjs : m * sz + j < cur.size := by omega
      rw [Array.getElem?_eq_getElem hjs]; rfl) (by
      intro j hj
      simp only [Nat.add_zero]
      exact blk_free hg _) hone
    simp only [Nat.add_zero] at hst
    obtain ⟨cur', k1, k2, k3, k4⟩ := setCells_keep (b := g) (w := w) (T := e) (Builtin.zeroCells z.cells (k + 1)).toList (m * sz) w cur hg
    refine ⟨_, fun ty => by rw [hk]; simp [Builtin.clear_, run_underlying ht, hv, hst], ?_, k4⟩
    have htk := hr.take hl (Nat.le_of_lt hm)
    have hml : (zs.take m).length = m := by rw [List.length_take]; omega
    unfold SRow at htk ⊢
    rw [hml] at htk ⊢
    refine ⟨htk.1, .inr ⟨g, c, cur', rfl, k1, by omega, hcm, by rw [k2]; exact hcs, ?_⟩⟩
    rcases htk.2 with ⟨h0, _⟩ | ⟨g', cap', cur2, hv', hg', _, _, _, ht2⟩
    · cases h0
    · cases hv'
      rw [hg] at hg'
      cases hg'
      rw [k3, ht2]
end
end Gb

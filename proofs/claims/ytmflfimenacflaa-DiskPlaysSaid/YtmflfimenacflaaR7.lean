/- The walk of Same, and how the document's disk and a table's view agree. -/
import Derived.Test.YtmflfimenacflaaR6
set_option linter.unusedVariables false
set_option linter.unusedSimpArgs false
namespace Go.Proofs.Ytmflfimenacflaa
open Go.RowKit Gb
theorem same_mk (l1 l2 : List UInt8) : ((mk l1).toList == (mk l2).toList) = decide (l1 = l2) := by
  rw [ByteArray.toList_eq, ByteArray.toList_eq]
  have h1 : (mk l1).data.toList = l1 := by unfold mk; simp
  have h2 : (mk l2).data.toList = l2 := by unfold mk; simp
  rw [h1, h2]
  by_cases h : l1 = l2
  · rw [decide_eq_true h, beq_iff_eq]; exact h
  · rw [decide_eq_false h, beq_eq_false_iff_ne]; exact h
theorem f13_any (v1 v2 : Value) (l1 l2 : List UInt8) (w : World) {F1 F2 : Nat → Prop} (h1 : Rd Rep.u8 w F1 v1 l1) (h2 : Rd Rep.u8 w F2 v2 l2) :
    Calls Try.prog 13 #[v1, v2] w fun e w' => e = .returned (.bool (decide (l1 = l2))) ∧ w = w' := by
  have hc1 := h1.string Try.underlying32 Try.underlying5 Try.underlying9
  have hc2 := h2.string Try.underlying32 Try.underlying5 Try.underlying9
  obtain ⟨A1, c1, rfl, -, -, -⟩ := h1.slice
  obtain ⟨A2, c2, rfl, -, -, -⟩ := h2.slice
  clear h1 h2
  have hb := Hd.mk (same_mk l1 l2)
  go_enter Try.func13, Try.ntmps13
  go_wp2
  all_goals go_ret
  exact ⟨ret_bool hb.out, rfl⟩
/-- the document's list reads as the table does -/
def rview (rs : List RF) : View := rs.map (fun r => (r.name, (r.data, r.safe)))
structure Cpl (rs : List RF) (V : View) : Prop where
  perm : (rview rs).Perm V
  sorted : rs.Pairwise (fun a b => bs a.name < bs b.name)
theorem rused_view (rs : List RF) : rused rs = vused (rview rs) := by simp [rused, vused, rview, List.map_map, Function.comp_def]
theorem Cpl.used {rs : List RF} {V : View} (h : Cpl rs V) : rused rs = vused V := by
  rw [rused_view]
  unfold vused
  exact (h.perm.map _).sum_nat
theorem Cpl.length {rs : List RF} {V : View} (h : Cpl rs V) : rs.length = V.length := by have := h.perm.length_eq; simpa [rview] using this
theorem Cpl.nil : Cpl [] [] := ⟨List.Perm.nil, List.Pairwise.nil⟩
theorem mget_perm {κ ν : Type} [DecidableEq κ] {a b : List (κ × ν)} (h : a.Perm b) (hn : (b.map Prod.fst).Nodup) (k : κ) : mget a k = mget b k := by
  have hna : (a.map Prod.fst).Nodup := (h.map _).nodup_iff.2 hn
  cases hb : mget b k with
  | none =>
    cases ha : mget a k with
    | none => rfl
    | some x =>
      have := h.mem_iff.1 (mem_of_lookup ha)
      exact absurd rfl (lookup_none_ne hb _ this)
  | some x =>
    have := h.mem_iff.2 (mem_of_lookup hb)
    exact lookup_mem hna this
end Go.Proofs.Ytmflfimenacflaa

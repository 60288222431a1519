/- The walk of Files: the names in order. -/
import Derived.Test.YtmflfimenacflaaD9
import Derived.Test.YtmflfimenacflaaIter
set_option linter.unusedVariables false
set_option linter.unusedSimpArgs false
namespace Go.Proofs.Ytmflfimenacflaa
open Go.RowKit Gb Go.Sort
def snames (V : View) : List ByteArray := ((V.map (fun p => bs p.1)).mergeSort leB).map mk
theorem mk_bs (s : ByteArray) : mk (bs s) = s := by unfold mk bs; cases s; simp
theorem bs_mk (l : List UInt8) : bs (mk l) = l := by unfold mk bs; simp
theorem f19_any (mb : Nat) (fs : Files) (w : World) (h : TableAt w mb fs) (hsz : fs.length * 16 ≤ 140737488355328) :
    Calls Try.prog 19 #[.map (some mb)] w fun e w' => ∃ v, e = .returned v ∧ RowAt w' 9 1 v (snames (view fs)).length ((snames (view fs)).map Value.string) ∧ Fresh w v ∧ Step No w w' := by
  obtain ⟨D, hD, hn, hp⟩ := h.map.owns Try.underlying9 (by unfold maxLen; omega)
  have hc := callsIn_wide.1 (Try.slices_Sorted_keys_37_38 mb fs.length D anyR w hD (by rw [hn]; unfold maxLen; omega) (by rw [hn]; exact hsz))
  have HC := Hd.mk hc
  have HP := Hd.mk hp
  have hsort : ∀ ss : List (List UInt8), ss.Perm (strKeys D) → (ss.mergeSort leB).map encStr = (snames (view fs)).map Value.string ∧ ss.length = (snames (view fs)).length := by
    intro ss hss
    have h1 : ss.Perm ((view fs).map (fun p => bs p.1)) := by
      refine (hss.trans hp).trans ?_
      simp [view, List.map_map, Function.comp_def]
    constructor
    · rw [mergeSort_of_perm h1]
      simp [snames, List.map_map, Function.comp_def, encStr, mk]
    · simp [snames, h1.length_eq]
  have HS := Hd.mk hsort
  clear hc hp hsort
  go_enter Try.func19, Try.ntmps19
  go_wp2_with (first | (go_at_call 38; refine (callsIn_wide.1 (Try.maps_Keys_38 _ _)).mono ?_; rintro e w' ⟨rfl, rfl⟩) | (go_at_call 37; refine HC.out.mono ?_; rintro e w' ⟨v, ss, rfl, hS, hrow, hnil, hb⟩; refine Stop.back ?_))
  have HX : Hd (RowAt w' 9 1 v (snames (view fs)).length ((snames (view fs)).map Value.string) ∧ Fresh w v ∧ Step No w w') := by
    obtain ⟨h1, h2⟩ := HS.out ss hS
    have hr := RowAt.of_own hrow
    rw [h2] at hr
    rw [← h1]
    exact ⟨hr, (fresh_of_own hrow).step (by simp), (Step.alloc No w _).trans' (Step.of_below hb _)⟩
  clear hS hrow hnil hb
  refine Stop.go ?_
  go_wp2
  go_ret
  exact ⟨v, rfl, HX.out⟩
end Go.Proofs.Ytmflfimenacflaa

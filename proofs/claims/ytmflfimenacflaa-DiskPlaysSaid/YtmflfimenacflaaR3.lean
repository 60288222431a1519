/- The walk of the document's name test. -/
import Derived.Test.YtmflfimenacflaaR2
set_option linter.unusedVariables false
set_option linter.unusedSimpArgs false
namespace Go.Proofs.Ytmflfimenacflaa
open Go.RowKit Gb
theorem badc_of {c : Int} (h1 : c < 97 ∨ 122 < c) (h2 : c < 48 ∨ 57 < c) (h3 : c ≠ 46) (h4 : c ≠ 45) : badc c = true := by
  unfold badc
  simp; omega
theorem okName_bad {s : ByteArray} {k : Nat} (hk : k < s.size) (h : badc (s[k].toNat : Int) = true) : okName s = false := by
  have hl : k < (bs s).length := bs_lt s k hk
  have : (bs s).any badb = true := any_at hl (by unfold badb; exact h)
  simp [okName, this]
set_option maxHeartbeats 1000000 in
theorem f29_any (s : ByteArray) (w : World) (hs : StrOk s) :
    Calls Try.prog 29 #[.string s] w fun e w' => e = .returned (.bool (okName s)) ∧ w = w' := by
  unfold StrOk at hs
  go_enter Try.func29, Try.ntmps29
  by_cases h1 : s.size < 1
  · go_wp2
    go_ret
    refine ⟨ret_bool ?_, rfl⟩
    have h0 : s.size = 0 := by omega
    have : s.toList.isEmpty = true := by
      rw [ByteArray.toList_eq]
      have : s.data.toList.length = 0 := by simpa using h0
      rw [List.length_eq_zero_iff.1 this]; rfl
    simp [okName, this]
  · by_cases h2 : 40 < s.size
    · go_wp2
      go_ret
      refine ⟨ret_bool ?_, rfl⟩
      have : ¬ s.size ≤ 40 := by omega
      simp [okName, this]
    · go_wp2
      go_loopg [3] s.size (fun kq i wr => ∃ k : Nat, k ≤ s.size ∧ i = .int .i64 k ∧ w = wr ∧ Hd (kq = s.size - k) ∧ Hd (∀ j (hj : j < k) (hl : j < (bs s).length), badb (bs s)[j] = false))
      case atStart => exact ⟨0, Nat.zero_le _, rfl, rfl, ⟨rfl⟩, ⟨fun j hj => absurd hj (Nat.not_lt_zero _)⟩⟩
      case round =>
        obtain ⟨k, hk, rfl, rfl, HK, HN⟩ := hrel
        by_cases hlt : k < s.size
        · have HB : Hd (badc (s[k].toNat : Int) = false → ∀ j (hj : j < k + 1) (hl : j < (bs s).length), badb (bs s)[j] = false) := ⟨by
            intro hb j hj hl
            by_cases hjk : j < k
            · exact HN.out j hjk hl
            · obtain rfl : j = k := by omega
              unfold badb; exact hb⟩
          clear HN
          go_wp2
          all_goals first
            | (go_ret
               refine ⟨ret_bool (okName_bad hlt (badc_of ?_ ?_ ?_ ?_)).symm, rfl⟩
               all_goals first | omega | (simp at *; done) | (simp at *; omega) | (simp [*]; done) | (simp [*]; omega))
            | (have hgood : badc (s[k].toNat : Int) = false := badc_no (by simp at *; omega)
               have HG := Hd.mk (HB.out hgood)
               clear hgood
               go_wp2
               go_roundg (s.size - (k + 1))
               case measure => have := HK.out; omega
               case rel => exact ⟨k + 1, by omega, by go_num, rfl, ⟨rfl⟩, HG⟩)
        · obtain rfl : k = s.size := by omega
          go_wp2
          go_ret
          refine ⟨ret_bool ?_, rfl⟩
          have hn : (bs s).any badb = false := any_no (fun j hj => HN.out j (by unfold bs at hj; simpa using hj) hj)
          have he : s.toList.isEmpty = false := by
            rw [ByteArray.toList_eq]
            cases hd : s.data.toList with
            | nil => exfalso; have : s.data.toList.length = 0 := by rw [hd]; rfl
                     have h3 : s.size = 0 := by simpa using this
                     omega
            | cons => rfl
          have h3 : s.size ≤ 40 := by omega
          simp [okName, hn, he, h3]
end Go.Proofs.Ytmflfimenacflaa

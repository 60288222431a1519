/- The walks of the document's name test and of its disk's room. -/
import Derived.Test.YtmflfimenacflaaR1
set_option linter.unusedVariables false
set_option linter.unusedSimpArgs false
namespace Go.Proofs.Ytmflfimenacflaa
open Go.RowKit Gb
theorem rused_take (rs : List RF) {k : Nat} (hk : k < rs.length) : rused (rs.take (k + 1)) = rused (rs.take k) + rs[k].data.length := by
  unfold rused
  rw [List.take_succ_eq_append_getElem hk, List.map_append, List.sum_append]
  simp only [List.map_cons, List.map_nil, List.sum_cons, List.sum_nil]; omega
theorem rused_le (rs : List RF) (k : Nat) : rused (rs.take k) ≤ rused rs := by
  unfold rused
  have h := List.take_append_drop k rs
  conv => rhs; rw [← h]
  rw [List.map_append, List.sum_append]; omega
theorem f30_any (xb : Nat) (cap : Int) (sv : Value) (rs : List RF) (w : World) (h : RefAt w xb cap sv rs) :
    Calls Try.prog 30 #[.pointer (some ⟨xb, 0, none⟩)] w fun e w' => e = .returned (.int .i64 (rused rs : Int)) ∧ w = w' := by
  have hlen := h.len
  have hfit : rused rs ≤ 1073741824 := by have := h.fits; have := h.cap1; omega
  obtain ⟨A, c, rfl, hc, _, _⟩ := h.row.slice
  obtain ⟨hh0, hh1⟩ := h.head
  have HR := Hd.mk h
  have HFit := Hd.mk hfit
  clear h hfit
  go_enter Try.func30, Try.ntmps30
  go_wp2
  go_loopg [3, 4] rs.length (fun kq t i wr => ∃ k n : Nat, k ≤ rs.length ∧ i = .int .i64 k ∧ t = .int .i64 n ∧ w = wr ∧ Hd (kq = rs.length - k) ∧ Hd (n = rused (rs.take k)))
  case atStart => exact ⟨0, 0, Nat.zero_le _, rfl, rfl, rfl, ⟨rfl⟩, ⟨rfl⟩⟩
  case round =>
    obtain ⟨k, n, hk, rfl, rfl, rfl, HK, HN⟩ := hrel
    by_cases hlt : k < rs.length
    · obtain ⟨ad, b, off, rfl, -, -, hp, -, hc1, -⟩ := HR.out.at hlt
      obtain ⟨A2, c2, hb2, hl2, -, -⟩ := (HR.out.own rs[k] (List.getElem_mem hlt)).slice
      have HT := Hd.mk (rused_take rs hlt)
      have hsum : n + rs[k].data.length ≤ 1073741824 := by
        have h1 := HT.out
        have h2 := HN.out
        have h3 := rused_le rs (k + 1)
        have h4 := HFit.out
        omega
      rw [hb2] at hc1
      obtain ⟨l, hl⟩ : ∃ l, l = rs[k].data.length := ⟨_, rfl⟩
      rw [← hl] at hc1 hsum hl2
      have HL := Hd.mk hl
      clear hb2 hl
      have hi : IntKind.wrap .i64 ((n : Int) + (l : Int)) = ((n + l : Nat) : Int) := by
        rw [IntWalk.i64_in _ (by omega)]; omega
      go_wp2
      go_roundg (rs.length - (k + 1))
      case measure => have := HK.out; omega
      case rel => exact ⟨k + 1, n + l, by omega, by go_num, by first | rfl | (rw [hi]) | go_num, rfl, ⟨rfl⟩, ⟨by rw [HT.out, ← HL.out, ← HN.out]⟩⟩
    · obtain rfl : k = rs.length := by omega
      go_wp2
      go_ret
      refine ⟨ret_int ?_, rfl⟩
      have := HN.out
      rw [List.take_length] at this
      omega
theorem bs_lt (s : ByteArray) (i : Nat) (hi : i < s.size) : i < (bs s).length := by unfold bs; simpa using hi
theorem any_at {p : UInt8 → Bool} {l : List UInt8} {k : Nat} (hk : k < l.length) (h : p l[k] = true) : l.any p = true := List.any_eq_true.2 ⟨_, List.getElem_mem hk, h⟩
theorem any_no {p : UInt8 → Bool} {l : List UInt8} (h : ∀ j (hj : j < l.length), p l[j] = false) : l.any p = false := by
  rw [List.any_eq_false]
  intro x hx
  obtain ⟨j, hj, rfl⟩ := List.getElem_of_mem hx
  rw [h j hj]; simp
end Go.Proofs.Ytmflfimenacflaa

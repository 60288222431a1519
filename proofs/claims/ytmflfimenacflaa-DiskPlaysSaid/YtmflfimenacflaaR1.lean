/- What the document's disk (package althingref03) says of memory, and the walks of its name test, its room and its search. -/
import Derived.Test.YtmflfimenacflaaD15
set_option linter.unusedVariables false
set_option linter.unusedSimpArgs false
namespace Go.Proofs.Ytmflfimenacflaa
open Go.RowKit Gb
structure RF where
  name : ByteArray
  b : Value
  data : List UInt8
  safe : Nat
def RF.cells (f : RF) : List Value := [.string f.name, f.b, .int .i64 (f.safe : Int)]
def flatR (rs : List RF) : List Value := rs.flatMap RF.cells
def rused (rs : List RF) : Nat := (rs.map (fun r => r.data.length)).sum
structure RefAt (w : World) (xb : Nat) (cap : Int) (sv : Value) (rs : List RF) : Prop where
  blk : w.heap[xb]? = some (.cells #[.int .i64 cap, sv] 30 (0, 0))
  row : RowAt w 43 3 sv rs.length (flatR rs)
  own : ∀ r ∈ rs, RowAt w 5 1 r.b r.data.length (r.data.map u8)
  safe : ∀ r ∈ rs, r.safe ≤ r.data.length
  cap0 : 0 ≤ cap
  cap1 : cap ≤ 1073741824
  fits : (rused rs : Int) ≤ cap
def RFoot (xb : Nat) (sv : Value) (rs : List RF) (k : Nat) : Prop := k = xb ∨ Own sv k ∨ ∃ r ∈ rs, Own r.b k
theorem RefAt.step {S : Nat → Prop} {w w' : World} {xb : Nat} {cap : Int} {sv : Value} {rs : List RF} (h : RefAt w xb cap sv rs) (hs : Step S w w') (hd : ∀ k, RFoot xb sv rs k → ¬ S k) : RefAt w' xb cap sv rs :=
  ⟨hs.keep h.blk (hd _ (.inl rfl)), h.row.step hs (fun k hk => hd k (.inr (.inl hk))), fun r hr => (h.own r hr).step hs (fun k hk => hd k (.inr (.inr ⟨r, hr, hk⟩))), h.safe, h.cap0, h.cap1, h.fits⟩
theorem RefAt.stepNo {w w' : World} {xb : Nat} {cap : Int} {sv : Value} {rs : List RF} (h : RefAt w xb cap sv rs) (hs : Step No w w') : RefAt w' xb cap sv rs := h.step hs (fun _ _ h => h)
theorem RefAt.lt {w : World} {xb : Nat} {cap : Int} {sv : Value} {rs : List RF} (h : RefAt w xb cap sv rs) {k : Nat} (hk : RFoot xb sv rs k) : k < w.heap.size := by
  rcases hk with rfl | hk | ⟨r, hr, hk⟩
  · exact lt_of_blk h.blk
  · exact h.row.lt hk
  · exact (h.own r hr).lt hk
theorem flatR_len (rs : List RF) : (flatR rs).length = rs.length * 3 := by
  induction rs with
  | nil => rfl
  | cons r rs ih => simp only [flatR, List.flatMap_cons, List.length_append, List.length_cons] at *; rw [ih]; simp [RF.cells]; omega
theorem flatR_at (rs : List RF) {k : Nat} (hk : k < rs.length) (j : Nat) (hj : j < 3) : (flatR rs)[k * 3 + j]? = rs[k].cells[j]? := by
  induction rs generalizing k with
  | nil => simp at hk
  | cons r rs ih =>
    cases k with
    | zero =>
      simp only [flatR, List.flatMap_cons, List.getElem_cons_zero]
      rw [List.getElem?_append_left (by simp [RF.cells]; omega)]
      simp
    | succ k =>
      simp only [flatR, List.flatMap_cons, List.getElem_cons_succ]
      rw [List.getElem?_append_right (by simp [RF.cells]; omega)]
      have := ih (k := k) (by simpa using hk)
      unfold flatR at this
      rw [← this]
      congr 1
      simp [RF.cells]; omega
/-- a file of the list, as the walk reads it -/
theorem RefAt.at {w : World} {xb : Nat} {cap : Int} {A : Option Addr} {n c : Nat} {rs : List RF} (h : RefAt w xb cap (.slice A n c) rs) {k : Nat} (hk : k < rs.length) :
    ∃ ad b off, A = some ad ∧ Own (.slice A n c) b ∧ off = k * 3 ∧ ad.add (k * 3) = ⟨b, off, none⟩ ∧ w.cell? ⟨b, off, none⟩ = some (.string rs[k].name) ∧ w.cell? ⟨b, off + 1, none⟩ = some rs[k].b ∧ w.cell? ⟨b, off + 2, none⟩ = some (.int .i64 (rs[k].safe : Int)) := by
  obtain ⟨g, c', hv, _, _, _, hc⟩ := h.row.form (by omega)
  cases hv
  refine ⟨⟨g, 0, none⟩, g, k * 3, rfl, rfl, rfl, by rw [add_plain], ?_, ?_, ?_⟩
  · exact hc _ _ (by have := flatR_at rs hk 0 (by omega); simpa [RF.cells] using this)
  · exact hc _ _ (by have := flatR_at rs hk 1 (by omega); simpa [RF.cells] using this)
  · exact hc _ _ (by have := flatR_at rs hk 2 (by omega); simpa [RF.cells] using this)
/-- the head's cells -/
theorem RefAt.head {w : World} {xb : Nat} {cap : Int} {sv : Value} {rs : List RF} (h : RefAt w xb cap sv rs) : w.cell? ⟨xb, 0, none⟩ = some (.int .i64 cap) ∧ w.cell? ⟨xb, 1, none⟩ = some sv := by
  rw [blk_cell h.blk, blk_cell h.blk]; exact ⟨rfl, rfl⟩
theorem RefAt.len {w : World} {xb : Nat} {cap : Int} {sv : Value} {rs : List RF} (h : RefAt w xb cap sv rs) : rs.length ≤ 9223372036854775807 := by
  obtain ⟨A, c, _, h1, h2, _⟩ := h.row.slice
  unfold maxLen at h2; omega
/-- where a name first stands; the length where it does not -/
def rplace (rs : List RF) (s : ByteArray) : Nat := rs.findIdx (fun r => decide (r.name = s))
def rfind (rs : List RF) (s : ByteArray) : Int := if rplace rs s < rs.length then (rplace rs s : Int) else -1
theorem rplace_at {rs : List RF} {s : ByteArray} {k : Nat} (hk : k < rs.length) (hb : ∀ j (_ : j < k), rs[j].name ≠ s) (he : rs[k].name = s) : rplace rs s = k := by
  unfold rplace
  rw [List.findIdx_eq hk]
  refine ⟨by simpa using he, fun j hj => ?_⟩
  have := hb j hj
  simpa using this
theorem rplace_none {rs : List RF} {s : ByteArray} (hb : ∀ j (_ : j < rs.length), rs[j].name ≠ s) : rplace rs s = rs.length := by
  unfold rplace
  rw [List.findIdx_eq_length]
  intro r hr
  obtain ⟨j, hj, rfl⟩ := List.getElem_of_mem hr
  simpa using hb j hj
theorem tl_eq {a b : ByteArray} (h : a = b) : (a.toList == b.toList) = true := by rw [h]; exact beq_self_eq_true _
theorem tl_ne {a b : ByteArray} (h : a ≠ b) : (a.toList == b.toList) = false := by
  rw [beq_eq_false_iff_ne]
  intro e
  rw [ByteArray.toList_eq, ByteArray.toList_eq] at e
  exact h (bs_inj e)
theorem f31_any (xb : Nat) (cap : Int) (sv : Value) (rs : List RF) (s : ByteArray) (w : World) (h : RefAt w xb cap sv rs) :
    Calls Try.prog 31 #[.pointer (some ⟨xb, 0, none⟩), .string s] w fun e w' => e = .returned (.int .i64 (rfind rs s)) ∧ w = w' := by
  have hlen := h.len
  obtain ⟨A, c, rfl, hc, _, _⟩ := h.row.slice
  obtain ⟨hh0, hh1⟩ := h.head
  have HR := Hd.mk h
  clear h
  go_enter Try.func31, Try.ntmps31
  go_wp2
  go_loopg [5] rs.length (fun kq i wr => ∃ k : Nat, k ≤ rs.length ∧ i = .int .i64 k ∧ w = wr ∧ Hd (kq = rs.length - k) ∧ Hd (∀ j (hj : j < k) (hl : j < rs.length), rs[j].name ≠ s))
  case atStart => exact ⟨0, Nat.zero_le _, rfl, rfl, ⟨rfl⟩, ⟨fun j hj => absurd hj (Nat.not_lt_zero _)⟩⟩
  case round =>
    obtain ⟨k, hk, rfl, rfl, HK, HN⟩ := hrel
    by_cases hlt : k < rs.length
    · obtain ⟨ad, b, off, rfl, -, -, hp, hc0, -, -⟩ := HR.out.at hlt
      obtain ⟨x, hx⟩ : ∃ x, x = rs[k].name := ⟨_, rfl⟩
      rw [← hx] at hc0
      have HX := Hd.mk hx
      clear hx
      by_cases hs : x = s
      · have hb := tl_eq hs
        have HS := Hd.mk hs
        clear hs
        go_wp2
        go_ret
        refine ⟨ret_int ?_, rfl⟩
        have := rplace_at hlt (fun j hj => HN.out j hj (by omega)) (HX.out ▸ HS.out)
        unfold rfind
        rw [this, if_pos hlt]
      · have hb := tl_ne hs
        have HS := Hd.mk hs
        clear hs
        go_wp2
        go_roundg (rs.length - (k + 1))
        case measure => have := HK.out; omega
        case rel =>
          refine ⟨k + 1, by omega, by go_num, rfl, ⟨rfl⟩, ⟨fun j hj hl => ?_⟩⟩
          by_cases hjk : j < k
          · exact HN.out j hjk hl
          · obtain rfl : j = k := by omega
            rw [← HX.out]; exact HS.out
    · obtain rfl : k = rs.length := by omega
      go_wp2
      go_ret
      refine ⟨ret_int ?_, rfl⟩
      have := rplace_none (fun j hj => HN.out j hj hj)
      unfold rfind
      rw [this, if_neg (Nat.lt_irrefl _)]
end Go.Proofs.Ytmflfimenacflaa

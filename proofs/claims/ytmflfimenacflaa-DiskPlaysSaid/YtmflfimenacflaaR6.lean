/- The walks of the document's all and Read. -/
import Derived.Test.YtmflfimenacflaaR5
set_option linter.unusedVariables false
set_option linter.unusedSimpArgs false
namespace Go.Proofs.Ytmflfimenacflaa
open Go.RowKit Gb
def rhas (rs : List RF) (s : ByteArray) : Bool := decide (rplace rs s < rs.length)
def rallE (rs : List RF) (l : List ByteArray) : Int := if l.all okName then (if l.all (rhas rs) then 0 else 31) else 30
theorem all_no {α : Type} {p : α → Bool} {l : List α} {k : Nat} (hk : k < l.length) (h : p l[k] = false) : l.all p = false := by
  rw [List.all_eq_false]
  exact ⟨_, List.getElem_mem hk, by rw [h]; simp⟩
theorem all_yes {α : Type} {p : α → Bool} {l : List α} (h : ∀ j (hj : j < l.length), p l[j] = true) : l.all p = true := by
  rw [List.all_eq_true]
  intro x hx
  obtain ⟨j, hj, rfl⟩ := List.getElem_of_mem hx
  exact h j hj
theorem rfind_has {rs : List RF} {s : ByteArray} (h : rhas rs s = true) : decide (rfind rs s < 0) = false := by
  have : rplace rs s < rs.length := by simpa [rhas] using h
  unfold rfind
  rw [if_pos this]
  exact decide_eq_false (by omega)
theorem rfind_no {rs : List RF} {s : ByteArray} (h : rhas rs s = false) : decide (rfind rs s < 0) = true := by
  have : ¬ rplace rs s < rs.length := by simpa [rhas] using h
  unfold rfind
  rw [if_neg this]
  rfl
set_option maxHeartbeats 1000000 in
theorem f36_any (xb : Nat) (cap : Int) (sv : Value) (rs : List RF) (v : Value) (l : List ByteArray) (w : World) {F : Nat → Prop} (h : RefAt w xb cap sv rs) (hv : Rd Rep.str w F v l) :
    Calls Try.prog 36 #[.pointer (some ⟨xb, 0, none⟩), v] w fun e w' => e = .returned (.int .i64 (rallE rs l)) ∧ w = w' := by
  have hm := hv.le
  unfold maxLen at hm
  obtain ⟨A, c, rfl, hc, _, _⟩ := hv.slice
  have HV := Hd.mk hv
  have HR := Hd.mk h
  clear h hv
  go_enter Try.func36, Try.ntmps36
  go_wp2
  go_loopg [5] l.length (fun kq i wr => ∃ k : Nat, k ≤ l.length ∧ i = .int .i64 k ∧ w = wr ∧ Hd (kq = l.length - k) ∧ Hd (∀ j (hj : j < k) (hl : j < l.length), okName l[j] = true))
  case atStart => exact ⟨0, Nat.zero_le _, rfl, rfl, ⟨rfl⟩, ⟨fun j hj => absurd hj (Nat.not_lt_zero _)⟩⟩
  case round =>
    obtain ⟨k, hk, rfl, rfl, HK, HN⟩ := hrel
    by_cases hlt : k < l.length
    · obtain ⟨ad, rfl, _, hcell, hsok⟩ := Rd.at HV.out hlt
      have HBad : Hd (okName l[k] = false → l.all okName = false) := ⟨fun h => all_no hlt h⟩
      have HGood : Hd (okName l[k] = true → ∀ j (hj : j < k + 1) (hl : j < l.length), okName l[j] = true) := ⟨fun h j hj hl => by
        by_cases hjk : j < k
        · exact HN.out j hjk hl
        · obtain rfl : j = k := by omega
          exact h⟩
      clear HN
      obtain ⟨x, hx⟩ : ∃ x, x = l[k] := ⟨_, rfl⟩
      rw [← hx] at hcell hsok HBad HGood
      have HS := Hd.mk hsok
      clear hx hsok
      cases hok : okName x
      · go_wp2_with (first | (go_at_call 29; refine (f29_any x _ HS.out).mono ?_; rintro e w1 ⟨rfl, rfl⟩))
        go_ret
        exact ⟨ret_int (by unfold rallE; rw [HBad.out hok]; rfl), rfl⟩
      · go_wp2_with (first | (go_at_call 29; refine (f29_any x _ HS.out).mono ?_; rintro e w1 ⟨rfl, rfl⟩))
        have HG := Hd.mk (HGood.out hok)
        go_roundg (l.length - (k + 1))
        case measure => have := HK.out; omega
        case rel => exact ⟨k + 1, by omega, by go_num, rfl, ⟨rfl⟩, HG⟩
    · obtain rfl : k = l.length := by omega
      have HA : Hd (l.all okName = true) := ⟨all_yes (fun j hj => HN.out j hj hj)⟩
      clear HN HK
      go_wp2
      go_loopg [6] l.length (fun kq i wr => ∃ k : Nat, k ≤ l.length ∧ i = .int .i64 k ∧ w = wr ∧ Hd (kq = l.length - k) ∧ Hd (∀ j (hj : j < k) (hl : j < l.length), rhas rs l[j] = true))
      case atStart => exact ⟨0, Nat.zero_le _, rfl, rfl, ⟨rfl⟩, ⟨fun j hj => absurd hj (Nat.not_lt_zero _)⟩⟩
      case round =>
        obtain ⟨k, hk, rfl, rfl, HK, HN⟩ := hrel
        by_cases hlt2 : k < l.length
        · obtain ⟨ad, rfl, _, hcell, _⟩ := Rd.at HV.out hlt2
          have HBad : Hd (rhas rs l[k] = false → l.all (rhas rs) = false) := ⟨fun h => all_no hlt2 h⟩
          have HGood : Hd (rhas rs l[k] = true → ∀ j (hj : j < k + 1) (hl : j < l.length), rhas rs l[j] = true) := ⟨fun h j hj hl => by
            by_cases hjk : j < k
            · exact HN.out j hjk hl
            · obtain rfl : j = k := by omega
              exact h⟩
          clear HN
          obtain ⟨x, hx⟩ : ∃ x, x = l[k] := ⟨_, rfl⟩
          rw [← hx] at hcell HBad HGood
          clear hx
          cases hok : rhas rs x
          · have hf := rfind_no hok
            go_wp2_with (first | (go_at_call 31; refine (f31_any xb cap sv rs x _ HR.out).mono ?_; rintro e w1 ⟨rfl, rfl⟩))
            go_ret
            exact ⟨ret_int (by unfold rallE; rw [HA.out, HBad.out hok]; rfl), rfl⟩
          · have hf := rfind_has hok
            go_wp2_with (first | (go_at_call 31; refine (f31_any xb cap sv rs x _ HR.out).mono ?_; rintro e w1 ⟨rfl, rfl⟩))
            have HG := Hd.mk (HGood.out hok)
            go_roundg (l.length - (k + 1))
            case measure => have := HK.out; omega
            case rel => exact ⟨k + 1, by omega, by go_num, rfl, ⟨rfl⟩, HG⟩
        · obtain rfl : k = l.length := by omega
          have HA2 : Hd (l.all (rhas rs) = true) := ⟨all_yes (fun j hj => HN.out j hj hj)⟩
          go_wp2
          go_ret
          exact ⟨ret_int (by unfold rallE; rw [HA.out, HA2.out]; rfl), rfl⟩
def rreadE (rs : List RF) (s : ByteArray) : Int := if okName s then (if rhas rs s then 0 else 31) else 30
theorem rallE_one (rs : List RF) (s : ByteArray) : rallE rs [s] = rreadE rs s := by simp [rallE, rreadE]
def rreadI (rs : List RF) (s : ByteArray) : Int := if rreadE rs s = 0 then rfind rs s else 0
theorem f11_any (xb : Nat) (cap : Int) (sv : Value) (rs : List RF) (s : ByteArray) (w : World) (hs : StrOk s) (h : RefAt w xb cap sv rs) :
    Calls Try.prog 11 #[.pointer (some ⟨xb, 0, none⟩), .string s] w fun e w' => e = .returned (.tuple #[.int .i64 (rreadI rs s), .int .i64 (rreadE rs s)]) ∧ Step No w w' := by
  have h1 : Rd Rep.str (w.alloc (.cells #[.string s] 9)) (fun k => k = w.heap.size) (.slice (some ⟨w.heap.size, 0, none⟩) 1 1) [s] :=
    Rd.of_row (RowAt.lit w #[.string s] 9 1 rfl (by unfold maxLen; omega)) (fun k hk => by cases hk; rfl) (fun x hx => by simp at hx; subst hx; exact hs)
  have HV := Hd.mk h1
  have HR : Hd (RefAt (w.alloc (.cells #[.string s] 9)) xb cap sv rs) := ⟨h.stepNo (Step.alloc _ _ _)⟩
  have HE := Hd.mk (rallE_one rs s)
  obtain ⟨ec, hec⟩ : ∃ ec, ec = rreadE rs s := ⟨_, rfl⟩
  have HEC := Hd.mk hec
  clear h1 h hec
  go_enter Try.func11, Try.ntmps11
  by_cases h0 : ec = 0
  · go_wp2_with (first | (go_at_call 36; refine (f36_any xb cap sv rs _ [s] _ HR.out HV.out).mono ?_; rw [HE.out, ← HEC.out]; rintro e w1 ⟨rfl, rfl⟩) | (go_at_call 31; refine (f31_any xb cap sv rs s _ HR.out).mono ?_; rintro e w1 ⟨rfl, rfl⟩))
    go_ret2
    have e1 : rreadE rs s = 0 := by rw [← HEC.out]; exact h0
    have e2 : rreadI rs s = rfind rs s := by unfold rreadI; rw [if_pos e1]
    rw [e1, e2]
    exact ⟨rfl, Step.alloc _ _ _⟩
  · go_wp2_with (first | (go_at_call 36; refine (f36_any xb cap sv rs _ [s] _ HR.out HV.out).mono ?_; rw [HE.out, ← HEC.out]; rintro e w1 ⟨rfl, rfl⟩))
    go_ret2
    have e1 : ¬ rreadE rs s = 0 := by rw [← HEC.out]; exact h0
    have e2 : rreadI rs s = 0 := by unfold rreadI; rw [if_neg e1]
    rw [e2, ← HEC.out]
    exact ⟨rfl, Step.alloc _ _ _⟩
end Go.Proofs.Ytmflfimenacflaa

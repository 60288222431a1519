/- The keeper's and the reference keeper's Due, the keeper's Next, the sessions turned for the reference. -/
import Derived.Test.YtngganllammcpaaL8
set_option linter.unusedVariables false
set_option linter.unusedSimpArgs false
set_option linter.unusedVariables false
set_option linter.unusedSimpArgs false
namespace Go.Proofs.Ytngganllammcpaa
open Go Go.RowKit Gb
theorem info36 : (Try.prog.info? 36).map (fun i => (i.zero, i.size, i.bytes)) = some (some (.agg #[.string ⟨#[]⟩, .int .i64 0, .int .i64 0, .int .i64 0, .int .i64 0, .int .i64 0, .slice none 0 0]), 7, 80) := by kernel_rfl
/-- a known session's session -/
def KR.ses (k : KR) : List Value := [.string k.home, .int .i64 k.n, .int .i64 k.nonce, .int .i64 k.lease, .int .i64 k.beats, .int .i64 k.req, .slice none 0 0]
theorem KR.sl : ∀ x : KR, (KR.ses x).length = 7 := fun _ => rfl
def due (at_ : Int) (k : KR) : Bool := tm at_ && decide (k.lease ≤ at_ - k.since)
def dueR (at_ : Int) (k : RR) : Bool := tm at_ && decide (k.lease ≤ at_ - k.since)
def SR.rr (s : SR) : RR := ⟨s.home, s.n, s.lease, s.beats, 0⟩
theorem filter_snoc {α : Type} (p : α → Bool) {l : List α} {k : Nat} (hk : k < l.length) : (l.take (k + 1)).filter p = (l.take k).filter p ++ (if p l[k] = true then [l[k]] else []) := by
  rw [List.take_succ_eq_append_getElem hk, List.filter_append]
  congr 1
  cases h : p l[k] <;> simp [h]
theorem map_snoc {α β : Type} (f : α → β) {l : List α} {k : Nat} (hk : k < l.length) : (l.take (k + 1)).map f = (l.take k).map f ++ [f l[k]] := by
  rw [List.take_succ_eq_append_getElem hk, List.map_append]; rfl
def RowPost {α : Type} (enc : α → List Value) (sz : Nat) (T : TypeId) (xs : List α) (w : World) (e : Ending) (w' : World) : Prop :=
  ∃ v', e = .returned v' ∧ SRow enc sz w' T v' xs ∧ Step No w w'
set_option maxRecDepth 100000 in
set_option maxHeartbeats 4000000 in
theorem f9_any (sv : Value) (ss : List SR) (w : World) {F : Nat → Prop} (hr : Rd Rep.ses w F sv ss) (hlen : ss.length * 80 ≤ 140737488351232) :
    Calls Try.prog 9 #[sv] w (RowPost RR.cells 5 46 (ss.map SR.rr) w) := by
  obtain ⟨A, c, rfl, hc, hcm, _⟩ := hr.slice
  have HR := Hd.mk hr
  clear hr
  go_enter Try.func9, Try.ntmps9
  go_wp2
  go_loopg [3, 8] ss.length (fun kq lv iv wr => ∃ (i : Nat), i ≤ ss.length ∧ iv = .int .i64 i ∧ Hd (kq = ss.length - i) ∧ Hd (SRow RR.cells 5 wr 46 lv ((ss.take i).map SR.rr)) ∧ Hd (∀ k, Own lv k → w.heap.size ≤ k) ∧ Hd (Step No w wr))
  case atStart => exact ⟨0, Nat.zero_le _, rfl, ⟨rfl⟩, ⟨SRow.nil _ _ _ _⟩, ⟨fun k hk => by cases hk⟩, ⟨Step.refl _ _⟩⟩
  case round =>
    obtain ⟨i, hi, rfl, HI, HL, HFr, HS⟩ := hrel
    by_cases hlt : i < ss.length
    · obtain ⟨ad, b, off, cs, rfl, hbF, hp, hcs, hcell⟩ := (HR.out.stepNo HS.out).cellsAt hlt (by decide)
      have hsn := map_snoc SR.rr hlt
      obtain ⟨s, hs⟩ : ∃ s, s = ss[i] := ⟨_, rfl⟩
      rw [← hs] at hcs hsn
      obtain ⟨v6, rfl, hh, hn, hle, hbe, h6⟩ := Rep.ses_open hcs
      obtain ⟨A6, n6, rfl, -, -, -⟩ := h6.slice
      have q0 := hcell 0 _ rfl
      have q1 := hcell 1 _ rfl
      have q2 := hcell 2 _ rfl
      have q3 := hcell 3 _ rfl
      have q4 := hcell 4 _ rfl
      have q5 := hcell 5 _ rfl
      have q6 := hcell 6 _ rfl
      simp only [Nat.add_zero] at q0
      have hp7 : ad.add (i * 7) = ⟨b, off, none⟩ := hp
      have HSn := Hd.mk hsn
      have hll : ((ss.take i).map SR.rr).length = i := by rw [List.length_map, List.length_take]; omega
      obtain ⟨lst, hlst⟩ : ∃ lst, lst = (ss.take i).map SR.rr := ⟨_, rfl⟩
      rw [← hlst] at HL HSn hll
      obtain ⟨W3, hW3⟩ : ∃ W3, W3 = wr.alloc (.cells #[.string s.home, .int .i64 s.n, .int .i64 s.nonce, .int .i64 s.lease, .int .i64 s.beats, .int .i64 s.req, .slice A6 s.reply.length n6] 36) := ⟨_, rfl⟩
      obtain ⟨yb, hyb⟩ : ∃ yb, yb = wr.heap.size := ⟨_, rfl⟩
      have bk : W3.heap[yb]? = some (.cells #[.string s.home, .int .i64 s.n, .int .i64 s.nonce, .int .i64 s.lease, .int .i64 s.beats, .int .i64 s.req, .slice A6 s.reply.length n6] 36 (0, 0)) := by rw [hW3, hyb]; exact blk_new wr _
      have st3 : Step No wr W3 := by rw [hW3]; exact Step.alloc No _ _
      have u0 := blk_cell bk 0
      have u1 := blk_cell bk 1
      have u3 := blk_cell bk 3
      have u4 := blk_cell bk 4
      simp only [List.getElem?_toArray, List.getElem?_cons_zero, List.getElem?_cons_succ] at u0 u1 u3 u4
      have HL3 := Hd.mk (HL.out.stepNo st3)
      have HS3 := Hd.mk (HS.out.trans' st3)
      clear hs hcs hcell hp h6 hsn hlst hh hn hle hbe bk st3
      go_upto_region 5 with (fail)
      rw [← hW3, ← hyb]
      clear hW3 hyb q0 q1 q2 q3 q4 q5 q6
      go_wp2_with (first | (at_builtin; refine Stop.back ?_))
      refine Stop.go (wp_append1W rfl _ _ 26 46 rfl (.agg #[.string ⟨#[]⟩, .int .i64 0, .int .i64 0, .int .i64 0, .int .i64 0]) 5 48 Try.underlying26 info46 rfl (by decide) _ _ _ rfl HL3.out rfl rfl (by intro u hu; simp at hu; rcases hu with rfl | rfl | rfl | rfl | rfl <;> rfl) (by omega) (by decide) ?_)
      intro v3 w3 k1 k2 _ k4
      have HE : Hd (SRow RR.cells 5 w3 46 v3 ((ss.take (i + 1)).map SR.rr)) := ⟨by rw [HSn.out]; exact srow_snoc (xs := lst) (x := s.rr) k1 rfl rfl⟩
      have HE2 : Hd (∀ k, Own v3 k → w.heap.size ≤ k) := ⟨fun k hk => by
        rcases k4 k hk with h1 | h1
        · exact HFr.out k h1
        · have := HS3.out.size; omega⟩
      have HE3 : Hd (Step No w w3) := ⟨HS3.out.trans k2 (fun k hk hl => by have := HFr.out k hk; omega)⟩
      clear k1 k2 k4
      refine Stop.go ?_
      go_wp2
      go_roundg (ss.length - (i + 1))
      case measure => have := HI.out; omega
      case rel => exact ⟨i + 1, by omega, by go_num, ⟨rfl⟩, HE, HE2, HE3⟩
    · obtain rfl : i = ss.length := by omega
      have hl := HL.out
      rw [List.take_length] at hl
      have HL2 := Hd.mk hl
      clear hl
      go_wp2
      go_ret
      exact ⟨_, rfl, HL2.out, HS.out⟩
set_option maxRecDepth 100000 in
set_option maxHeartbeats 4000000 in
theorem f10_any (kb : Nat) (now at_ : Int) (v : Value) (ks : List KR) (w : World) (h : KAt w kb now v ks) (hok : ∀ k ∈ ks, KR.Ok k) (hlen : ks.length * 80 ≤ 140737488351232) :
    Calls Try.prog 10 #[.pointer (some ⟨kb, 0, none⟩), .int .i64 at_] w (RowPost KR.ses 7 36 (ks.filter (due at_)) w) := by
  obtain ⟨A, c, rfl, hc, hcm, _⟩ := h.row.slice
  have e1 := blk_cell h.blk 1
  simp only [List.getElem?_toArray, List.getElem?_cons_zero, List.getElem?_cons_succ] at e1
  have HK := Hd.mk h
  have HOk := Hd.mk hok
  have H25 : Hd (∀ W, Calls Try.prog 25 #[.int .i64 at_] W fun e w' => e = .returned (.bool (tm at_)) ∧ W = w') := ⟨fun W => f25_any at_ W⟩
  have htm : tm at_ = true → 0 ≤ at_ ∧ at_ ≤ 1099511627776 := by unfold tm; simp
  have HTm : Hd (∀ k, due at_ k = (tm at_ && decide (k.lease ≤ at_ - k.since))) := ⟨fun _ => rfl⟩
  obtain ⟨tb, htb⟩ : ∃ tb, tb = tm at_ := ⟨_, rfl⟩
  rw [← htb] at H25 HTm htm
  clear h hok htb
  go_enter Try.func10, Try.ntmps10
  go_wp2
  go_loopg [5, 13] ks.length (fun kq lv iv wr => ∃ (i : Nat), i ≤ ks.length ∧ iv = .int .i64 i ∧ Hd (kq = ks.length - i) ∧ Hd (SRow KR.ses 7 wr 36 lv ((ks.take i).filter (due at_))) ∧ Hd (∀ k, Own lv k → w.heap.size ≤ k) ∧ Hd (Step No w wr))
  case atStart => exact ⟨0, Nat.zero_le _, rfl, ⟨rfl⟩, ⟨SRow.nil _ _ _ _⟩, ⟨fun k hk => by cases hk⟩, ⟨Step.refl _ _⟩⟩
  case round =>
    obtain ⟨i, hi, rfl, HI, HL, HFr, HS⟩ := hrel
    by_cases hlt : i < ks.length
    · obtain ⟨g, rfl, -, -, y0, y1, y2, y3, y4, y5, y6, y7⟩ := KR.ats (HK.out.row.stepNo HS.out) hlt
      have hsn := filter_snoc (due at_) hlt
      have hyo := HOk.out _ (List.getElem_mem hlt)
      obtain ⟨y, hy⟩ : ∃ y, y = ks[i] := ⟨_, rfl⟩
      rw [← hy] at y0 y1 y2 y3 y4 y5 y7 hsn hyo
      have hll : ((ks.take i).filter (due at_)).length ≤ i := Nat.le_trans (List.length_filter_le _ _) (by rw [List.length_take]; omega)
      obtain ⟨lst, hlst⟩ : ∃ lst, lst = (ks.take i).filter (due at_) := ⟨_, rfl⟩
      rw [← hlst] at HL hsn hll
      rw [HTm.out] at hsn
      obtain ⟨⟨o1, o2⟩, o3, o4⟩ := hyo
      obtain ⟨W3, hW3⟩ : ∃ W3, W3 = wr.alloc (.cells #[.string y.home, .int .i64 y.n, .int .i64 y.nonce, .int .i64 y.lease, .int .i64 y.beats, .int .i64 y.req, .slice none 0 0, .int .i64 y.since] 80) := ⟨_, rfl⟩
      obtain ⟨yb, hyb⟩ : ∃ yb, yb = wr.heap.size := ⟨_, rfl⟩
      have oO : One W3 yb y := by rw [hW3, hyb]; exact One.new wr y
      have st3 : Step No wr W3 := by rw [hW3]; exact Step.alloc No _ _
      have u0 := One.at oO 0 _ rfl W3 (Step.refl _ _)
      have u1 := One.at oO 1 _ rfl W3 (Step.refl _ _)
      have u2 := One.at oO 2 _ rfl W3 (Step.refl _ _)
      have u3 := One.at oO 3 _ rfl W3 (Step.refl _ _)
      have u4 := One.at oO 4 _ rfl W3 (Step.refl _ _)
      have u5 := One.at oO 5 _ rfl W3 (Step.refl _ _)
      have u6 := One.at oO 6 _ rfl W3 (Step.refl _ _)
      have u7 := One.at oO 7 _ rfl W3 (Step.refl _ _)
      have HL3 := Hd.mk (HL.out.stepNo st3)
      have HS3 := Hd.mk (HS.out.trans' st3)
      clear hy hlst oO st3 e1
      cases tb with
      | false =>
        have HSn := Hd.mk hsn
        clear hsn htm o1 o2 o3 o4
        go_upto_region 5 with (fail)
        rw [← hW3, ← hyb]
        clear hW3 hyb y0 y1 y2 y3 y4 y5 y6 y7
        go_wp2_with (first | (go_at_call 25; refine (H25.out _).mono ?_; rintro e w1 ⟨rfl, rfl⟩))
        go_roundg (ks.length - (i + 1))
        case measure => have := HI.out; omega
        case rel => exact ⟨i + 1, by omega, by go_num, ⟨rfl⟩, ⟨by rw [HSn.out]; simpa using HL3.out⟩, HFr, HS3⟩
      | true =>
        obtain ⟨a1, a2⟩ := htm rfl
        by_cases hd : y.lease ≤ at_ - y.since
        · have hd' : decide (y.lease ≤ at_ - y.since) = true := decide_eq_true hd
          rw [hd', Bool.and_true, if_pos rfl] at hsn
          have HSn := Hd.mk hsn
          clear hsn hd
          go_upto_region 5 with (fail)
          rw [← hW3, ← hyb]
          clear hW3 hyb y0 y1 y2 y3 y4 y5 y6 y7
          go_wp2_with (first | (go_at_call 25; refine (H25.out _).mono ?_; rintro e w1 ⟨rfl, rfl⟩) | (at_builtin; refine Stop.back ?_))
          refine Stop.go (wp_append1W rfl _ _ 29 36 rfl (.agg #[.string ⟨#[]⟩, .int .i64 0, .int .i64 0, .int .i64 0, .int .i64 0, .int .i64 0, .slice none 0 0]) 7 80 Try.underlying29 info36 rfl (by decide) _ _ _ rfl HL3.out rfl rfl (by intro u hu; simp at hu; rcases hu with rfl | rfl | rfl | rfl | rfl | rfl | rfl <;> rfl) (by omega) (by decide) ?_)
          intro v3 w3 k1 k2 _ k4
          have HE : Hd (SRow KR.ses 7 w3 36 v3 ((ks.take (i + 1)).filter (due at_))) := ⟨by rw [HSn.out]; exact srow_snoc (xs := lst) (x := y) k1 rfl rfl⟩
          have HE2 : Hd (∀ k, Own v3 k → w.heap.size ≤ k) := ⟨fun k hk => by
            rcases k4 k hk with h1 | h1
            · exact HFr.out k h1
            · have := HS3.out.size; omega⟩
          have HE3 : Hd (Step No w w3) := ⟨HS3.out.trans k2 (fun k hk hl => by have := HFr.out k hk; omega)⟩
          clear k1 k2 k4
          refine Stop.go ?_
          go_wp2
          go_roundg (ks.length - (i + 1))
          case measure => have := HI.out; omega
          case rel => exact ⟨i + 1, by omega, by go_num, ⟨rfl⟩, HE, HE2, HE3⟩
        · have hd' : decide (y.lease ≤ at_ - y.since) = false := decide_eq_false hd
          rw [hd', Bool.and_false, if_neg (by decide), List.append_nil] at hsn
          have HSn := Hd.mk hsn
          clear hsn hd
          go_upto_region 5 with (fail)
          rw [← hW3, ← hyb]
          clear hW3 hyb y0 y1 y2 y3 y4 y5 y6 y7
          go_wp2_with (first | (go_at_call 25; refine (H25.out _).mono ?_; rintro e w1 ⟨rfl, rfl⟩))
          go_roundg (ks.length - (i + 1))
          case measure => have := HI.out; omega
          case rel => exact ⟨i + 1, by omega, by go_num, ⟨rfl⟩, ⟨by rw [HSn.out]; exact HL3.out⟩, HFr, HS3⟩
    · obtain rfl : i = ks.length := by omega
      have hl := HL.out
      rw [List.take_length] at hl
      have HL2 := Hd.mk hl
      clear hl
      go_wp2
      go_ret
      exact ⟨_, rfl, HL2.out, HS.out⟩
def RR.Ok (k : RR) : Prop := (1 ≤ k.lease ∧ k.lease ≤ 1048576) ∧ 0 ≤ k.since ∧ k.since ≤ 1099511627776
set_option maxRecDepth 100000 in
set_option maxHeartbeats 4000000 in
theorem f11_any (kb : Nat) (now at_ : Int) (v : Value) (ks : List RR) (w : World) (h : RAt w kb now v ks) (hok : ∀ k ∈ ks, RR.Ok k) (hlen : ks.length * 80 ≤ 140737488351232) :
    Calls Try.prog 11 #[.pointer (some ⟨kb, 0, none⟩), .int .i64 at_] w (RowPost RR.cells 5 46 (ks.filter (dueR at_)) w) := by
  obtain ⟨A, c, rfl, hc, hcm, _⟩ := h.row.slice
  have HK := Hd.mk h
  have HOk := Hd.mk hok
  have H30 : Hd (∀ W, Calls Try.prog 30 #[.int .i64 at_] W fun e w' => e = .returned (.bool (tm at_)) ∧ w' = W) := ⟨fun W => (f30_any at_ W).mono fun _ _ ⟨a, b⟩ => ⟨a, b.symm⟩⟩
  have htm : tm at_ = true → 0 ≤ at_ ∧ at_ ≤ 1099511627776 := by unfold tm; simp
  have HTm : Hd (∀ k, dueR at_ k = (tm at_ && decide (k.lease ≤ at_ - k.since))) := ⟨fun _ => rfl⟩
  obtain ⟨tb, htb⟩ : ∃ tb, tb = tm at_ := ⟨_, rfl⟩
  rw [← htb] at H30 HTm htm
  clear h hok htb
  go_enter Try.func11, Try.ntmps11
  go_wp2
  go_loopg [5, 6] ks.length (fun kq lv iv wr => ∃ (i : Nat), i ≤ ks.length ∧ iv = .int .i64 i ∧ Hd (kq = ks.length - i) ∧ Hd (SRow RR.cells 5 wr 46 lv ((ks.take i).filter (dueR at_))) ∧ Hd (∀ k, Own lv k → w.heap.size ≤ k) ∧ Hd (Step No w wr))
  case atStart => exact ⟨0, Nat.zero_le _, rfl, ⟨rfl⟩, ⟨SRow.nil _ _ _ _⟩, ⟨fun k hk => by cases hk⟩, ⟨Step.refl _ _⟩⟩
  case round =>
    obtain ⟨i, hi, rfl, HI, HL, HFr, HS⟩ := hrel
    have e1 := blk_cell (HS.out.keep HK.out.blk (fun h => h)) 1
    simp only [List.getElem?_toArray, List.getElem?_cons_zero, List.getElem?_cons_succ] at e1
    by_cases hlt : i < ks.length
    · obtain ⟨g, rfl, -, -, y0, y1, y2, y3, y4⟩ := RR.ats (HK.out.row.stepNo HS.out) hlt
      have hsn := filter_snoc (dueR at_) hlt
      have hyo := HOk.out _ (List.getElem_mem hlt)
      obtain ⟨y, hy⟩ : ∃ y, y = ks[i] := ⟨_, rfl⟩
      rw [← hy] at y0 y1 y2 y3 y4 hsn hyo
      have hll : ((ks.take i).filter (dueR at_)).length ≤ i := Nat.le_trans (List.length_filter_le _ _) (by rw [List.length_take]; omega)
      obtain ⟨lst, hlst⟩ : ∃ lst, lst = (ks.take i).filter (dueR at_) := ⟨_, rfl⟩
      rw [← hlst] at HL hsn hll
      rw [HTm.out] at hsn
      obtain ⟨⟨o1, o2⟩, o3, o4⟩ := hyo
      clear hy hlst
      cases tb with
      | false =>
        have HSn := Hd.mk hsn
        clear hsn htm o1 o2 o3 o4
        go_upto_region 5 with (fail)
        go_quiet ((go_at_call 30; exact Calls.quiet_of_same (H30.out _)))
        all_goals
          go_wp2
          go_roundg (ks.length - (i + 1))
          case measure => have := HI.out; omega
          case rel => exact ⟨i + 1, by omega, by go_num, ⟨rfl⟩, ⟨by rw [HSn.out]; simpa using HL.out.stepNo (Step.drewN No _ _)⟩, HFr, ⟨HS.out.trans' (Step.drewN No _ _)⟩⟩
      | true =>
        obtain ⟨a1, a2⟩ := htm rfl
        by_cases hd : y.lease ≤ at_ - y.since
        · have hd' : decide (y.lease ≤ at_ - y.since) = true := decide_eq_true hd
          rw [hd', Bool.and_true, if_pos rfl] at hsn
          have HSn := Hd.mk hsn
          clear hsn hd
          go_upto_region 5 with (fail)
          go_quiet ((go_at_call 30; exact Calls.quiet_of_same (H30.out _)))
          all_goals
            go_wp2_with (first | (at_builtin; refine Stop.back ?_))
            refine Stop.go (wp_append1W rfl _ _ 26 46 rfl (.agg #[.string ⟨#[]⟩, .int .i64 0, .int .i64 0, .int .i64 0, .int .i64 0]) 5 48 Try.underlying26 info46 rfl (by decide) _ _ _ rfl (HL.out.stepNo (Step.drewN No _ _)) rfl rfl (by intro u hu; simp at hu; rcases hu with rfl | rfl | rfl | rfl | rfl <;> rfl) (by omega) (by decide) ?_)
            intro v3 w3 k1 k2 _ k4
            have HE : Hd (SRow RR.cells 5 w3 46 v3 ((ks.take (i + 1)).filter (dueR at_))) := ⟨by rw [HSn.out]; exact srow_snoc (xs := lst) (x := y) k1 rfl rfl⟩
            have HE2 : Hd (∀ k, Own v3 k → w.heap.size ≤ k) := ⟨fun k hk => by
              rcases k4 k hk with h1 | h1
              · exact HFr.out k h1
              · have h2 := HS.out.size; simp only [World.drewN] at h1; omega⟩
            have HE3 : Hd (Step No w w3) := ⟨(HS.out.trans' (Step.drewN No _ _)).trans k2 (fun k hk hl => by have := HFr.out k hk; omega)⟩
            clear k1 k2 k4
            refine Stop.go ?_
            go_wp2
            go_roundg (ks.length - (i + 1))
            case measure => have := HI.out; omega
            case rel => exact ⟨i + 1, by omega, by go_num, ⟨rfl⟩, HE, HE2, HE3⟩
        · have hd' : decide (y.lease ≤ at_ - y.since) = false := decide_eq_false hd
          rw [hd', Bool.and_false, if_neg (by decide), List.append_nil] at hsn
          have HSn := Hd.mk hsn
          clear hsn hd
          go_upto_region 5 with (fail)
          go_quiet ((go_at_call 30; exact Calls.quiet_of_same (H30.out _)))
          all_goals
            go_wp2
            go_roundg (ks.length - (i + 1))
            case measure => have := HI.out; omega
            case rel => exact ⟨i + 1, by omega, by go_num, ⟨rfl⟩, ⟨by rw [HSn.out]; exact HL.out.stepNo (Step.drewN No _ _)⟩, HFr, ⟨HS.out.trans' (Step.drewN No _ _)⟩⟩
    · obtain rfl : i = ks.length := by omega
      have hl := HL.out
      rw [List.take_length] at hl
      have HL2 := Hd.mk hl
      clear hl
      go_wp2
      go_ret
      exact ⟨_, rfl, HL2.out, HS.out⟩
def NextPost (ks : List KR) (w : World) (e : Ending) (w' : World) : Prop :=
  Step No w w' ∧ ((ks = [] ∧ e = .returned (.tuple #[.int .i64 0, .bool false])) ∨ ∃ m ∈ ks, e = .returned (.tuple #[.int .i64 m.at, .bool true]) ∧ ∀ y ∈ ks, m.at ≤ y.at)
set_option maxRecDepth 100000 in
set_option maxHeartbeats 4000000 in
theorem f12_any (kb : Nat) (now : Int) (v : Value) (ks : List KR) (w : World) (h : KAt w kb now v ks) (hok : ∀ k ∈ ks, KR.Ok k) :
    Calls Try.prog 12 #[.pointer (some ⟨kb, 0, none⟩)] w (NextPost ks w) := by
  obtain ⟨A, c, rfl, hc, hcm, _⟩ := h.row.slice
  have e1 := blk_cell h.blk 1
  simp only [List.getElem?_toArray, List.getElem?_cons_zero, List.getElem?_cons_succ] at e1
  have hkl : ks.length ≤ 9223372036854775807 := by unfold maxLen at hcm; omega
  by_cases hpos : 0 < ks.length
  · have hne : ((ks.length : Int) == 0) = false := by simp; intro h; simp [h] at hpos
    have H31 := Hd.mk (f31_any A c ks w h.row hok hpos)
    have HOk := Hd.mk hok
    clear h hok
    go_enter Try.func12, Try.ntmps12
    go_wp2_with (first | (go_at_call 31; refine H31.out.mono ?_; rintro e w1 ⟨m, hm, rfl, hmin, hs1⟩; refine Stop.back ?_))
    have HF : Hd (Calls Try.prog 34 #[m.val] w1 fun e w' => e = .returned (.int .i64 m.at) ∧ Step No w1 w') := ⟨f34_any m w1 (HOk.out m hm)⟩
    have HM := Hd.mk hm
    have HMin := Hd.mk hmin
    have HS1 := Hd.mk hs1
    unfold KR.val at HF ⊢
    clear hm hmin hs1
    refine Stop.go ?_
    go_wp2_with (first | (go_at_call 34; refine HF.out.mono ?_; rintro e w2 ⟨rfl, hs2⟩))
    go_ret2
    exact ⟨HS1.out.trans' hs2, .inr ⟨m, HM.out, rfl, HMin.out⟩⟩
  · have hnil : ks = [] := List.eq_nil_of_length_eq_zero (by omega)
    subst hnil
    clear h hok hpos
    go_enter Try.func12, Try.ntmps12
    go_wp2
    go_ret2
    exact ⟨Step.refl _ _, .inl ⟨rfl, rfl⟩⟩
end Go.Proofs.Ytngganllammcpaa

/- MinFunc over known sessions: one that is due first. -/
import Derived.Test.YtngganllammcpaaL4
set_option linter.unusedVariables false
set_option linter.unusedSimpArgs false
set_option linter.unusedVariables false
set_option linter.unusedSimpArgs false
namespace Go.Proofs.Ytngganllammcpaa
open Go Go.RowKit Gb
def MinPost (ks : List KR) (w : World) (e : Ending) (w' : World) : Prop := ∃ m ∈ ks, e = .returned m.val ∧ (∀ y ∈ ks, m.at ≤ y.at) ∧ Step No w w'
theorem cmpI_lt (a b : Int) : decide (cmpI a b < 0) = decide (a < b) := by
  unfold cmpI
  by_cases h : a < b
  · simp [h]
  · by_cases h2 : b < a
    · simp [h, h2]
    · simp [h, h2]
def KR.zero : KR := ⟨⟨#[]⟩, 0, 0, 0, 0, 0, 0⟩
/-- one known session in a block of its own -/
def One (w : World) (b : Nat) (m : KR) : Prop := SRow KR.cells 8 w 80 (.slice (some ⟨b, 0, none⟩) 1 1) [m]
theorem One.new (w : World) (m : KR) : One (w.alloc (.cells m.cells.toArray 80)) w.heap.size m := by
  have := RowAt.lit (size := 8) w m.cells.toArray 80 1 rfl (by unfold maxLen; omega)
  unfold One SRow
  simpa using this
theorem One.at {w : World} {b : Nat} {m : KR} (h : One w b m) : ∀ i v, m.cells[i]? = some v → ∀ W, Step No w W → W.cell? ⟨b, i, none⟩ = some v := fun i v hv W hs => by
  obtain ⟨g, he, _, _, hc⟩ := SRow.at (SRow.stepNo h hs) KR.hl (k := 0) (by simp)
  cases he
  have := hc i v hv
  simpa using this
theorem One.free {w : World} {b : Nat} {m : KR} (h : One w b m) : ∀ W, Step No w W → ∀ i, W.frozen? ⟨b, i, none⟩ = false := fun W hs i => by
  obtain ⟨g, he, _, hf, _⟩ := SRow.at (SRow.stepNo h hs) KR.hl (k := 0) (by simp)
  cases he
  exact hf i
theorem One.put {w : World} {b : Nat} {m : KR} (h : One w b m) (y : KR) : One (w.setCells b 0 y.cells) b y ∧ Step (At b) w (w.setCells b 0 y.cells) := by
  have := SRow.put KR.hl (n := 1) h (i := 0) (by simp) y
  simpa [One] using this
theorem One.step {S : Nat → Prop} {w w' : World} {b : Nat} {m : KR} (h : One w b m) (hs : Step S w w') (hn : ¬ S b) : One w' b m := SRow.step h hs (fun k hk => by cases hk; exact hn)
set_option maxRecDepth 100000 in
set_option maxHeartbeats 2000000 in
theorem f31_any (A : Option Addr) (c : Nat) (ks : List KR) (w : World) (hr : SRow KR.cells 8 w 80 (.slice A ks.length c) ks) (hok : ∀ k ∈ ks, KR.Ok k) (hpos : 0 < ks.length) :
    Calls Try.prog 31 #[.slice A ks.length c, .func (.func 32) #[] #[]] w (MinPost ks w) := by
  obtain ⟨_, _, hv, hcm, hcx, _⟩ := hr.slice
  cases hv
  have hlen : ks.length ≤ 9223372036854775807 := by unfold maxLen at hcx; omega
  have hz80 := zero80
  have hlt1 : decide ((ks.length : Int) < 1) = false := by simp; omega
  have HR := Hd.mk hr
  have HOk := Hd.mk hok
  obtain ⟨g, rfl, -, -, x0, x1, x2, x3, x4, x5, x6, x7⟩ := KR.ats (hr.stepNo (Step.alloc No w (.cells #[.string ⟨#[]⟩, .int .i64 0, .int .i64 0, .int .i64 0, .int .i64 0, .int .i64 0, .slice none 0 0, .int .i64 0] 80))) hpos
  simp only [Nat.zero_mul, Nat.zero_add] at x0 x1 x2 x3 x4 x5 x6 x7
  obtain ⟨m0, hm0⟩ : ∃ m0, m0 = ks[0] := ⟨_, rfl⟩
  rw [← hm0] at x0 x1 x2 x3 x4 x5 x7
  have HM0 := Hd.mk hm0
  clear hr hok hm0
  go_enter Try.func31, Try.ntmps31
  go_wp2
  obtain ⟨w1, hw1⟩ : ∃ w1, w1 = (w.alloc (.cells #[.string ⟨#[]⟩, .int .i64 0, .int .i64 0, .int .i64 0, .int .i64 0, .int .i64 0, .slice none 0 0, .int .i64 0] 80)).alloc (.cells #[.string m0.home, .int .i64 m0.n, .int .i64 m0.nonce, .int .i64 m0.lease, .int .i64 m0.beats, .int .i64 m0.req, .slice none 0 0, .int .i64 m0.since] 80) := ⟨_, rfl⟩
  obtain ⟨rb, hrb⟩ : ∃ rb, rb = w.heap.size := ⟨_, rfl⟩
  obtain ⟨mb, hmb⟩ : ∃ mb, mb = w.heap.size + 1 := ⟨_, rfl⟩
  have hst : Step No w w1 := by rw [hw1]; exact (Step.alloc No _ _).trans' (Step.alloc No _ _)
  have ho0 : One w1 rb KR.zero := by
    rw [hw1, hrb]
    exact (One.new w KR.zero).step (Step.alloc No _ _) (fun h => h)
  have ho1 : One w1 mb m0 := by
    have := One.new (w.alloc (.cells KR.zero.cells.toArray 80)) m0
    have h9 : (w.alloc (.cells KR.zero.cells.toArray 80)).heap.size = w.heap.size + 1 := by simp
    rw [h9] at this
    rw [hw1, hmb]
    exact this
  rw [← hw1, ← hmb, ← hrb]
  have HSt := Hd.mk hst
  have HO0 := Hd.mk ho0
  have HO1 := Hd.mk ho1
  have HRb := Hd.mk hrb
  have HMb := Hd.mk hmb
  clear hw1 hrb hmb hst ho0 ho1 x0 x1 x2 x3 x4 x5 x6 x7
  go_loopg [6] (ks.length - 1) (fun kq i wr => ∃ (k : Nat) (m : KR), k ≤ ks.length ∧ i = .int .i64 k ∧ Hd (kq = ks.length - k) ∧ Hd (1 ≤ k) ∧ Hd (m ∈ ks) ∧ Hd (∀ j (hj : j < ks.length), j < k → m.at ≤ ks[j].at) ∧ Hd (Step No w wr) ∧ Hd (One wr rb KR.zero) ∧ Hd (One wr mb m))
  case atStart =>
    refine ⟨1, m0, hpos, by go_num, ⟨rfl⟩, ⟨Nat.le_refl _⟩, ⟨by rw [HM0.out]; exact List.getElem_mem hpos⟩, ⟨fun j hj h1 => ?_⟩, HSt, HO0, HO1⟩
    obtain rfl : j = 0 := by omega
    rw [HM0.out]; exact Int.le_refl _
  case round =>
    obtain ⟨k, m, hk, rfl, HK, HK1, HM, HA, HS, HZ, HO⟩ := hrel
    by_cases hlt : k < ks.length
    · obtain ⟨g', he, -, -, x0, x1, x2, x3, x4, x5, x6, x7⟩ := KR.ats (HR.out.stepNo HS.out) hlt
      cases he
      obtain ⟨y, hy⟩ : ∃ y, y = ks[k] := ⟨_, rfl⟩
      rw [← hy] at x0 x1 x2 x3 x4 x5 x7
      have HY := Hd.mk hy
      have u0 := fun W' (hs : Step No wr W') => hs.cell x0 (fun h => h)
      have u1 := fun W' (hs : Step No wr W') => hs.cell x1 (fun h => h)
      have u2 := fun W' (hs : Step No wr W') => hs.cell x2 (fun h => h)
      have u3 := fun W' (hs : Step No wr W') => hs.cell x3 (fun h => h)
      have u4 := fun W' (hs : Step No wr W') => hs.cell x4 (fun h => h)
      have u5 := fun W' (hs : Step No wr W') => hs.cell x5 (fun h => h)
      have u6 := fun W' (hs : Step No wr W') => hs.cell x6 (fun h => h)
      have u7 := fun W' (hs : Step No wr W') => hs.cell x7 (fun h => h)
      have y0 := One.at HO.out 0 _ rfl
      have y1 := One.at HO.out 1 _ rfl
      have y2 := One.at HO.out 2 _ rfl
      have y3 := One.at HO.out 3 _ rfl
      have y4 := One.at HO.out 4 _ rfl
      have y5 := One.at HO.out 5 _ rfl
      have y6 := One.at HO.out 6 _ rfl
      have y7 := One.at HO.out 7 _ rfl
      have hfz := One.free HO.out
      have hself : Step No wr wr := Step.refl _ _
      have H32 : Hd (∀ W, Step No wr W → Calls Try.prog 32 #[y.val, m.val] W fun e w' => e = .returned (.int .i64 (cmpI y.at m.at)) ∧ Step No wr w') := ⟨fun W hs =>
        (f32_any y m W (HOk.out y (by rw [HY.out]; exact List.getElem_mem hlt)) (HOk.out m HM.out)).mono fun _ _ ⟨a, b⟩ => ⟨a, hs.trans' b⟩⟩
      unfold KR.val at H32
      have hcl := cmpI_lt y.at m.at
      obtain ⟨ci, hci⟩ : ∃ ci, ci = cmpI y.at m.at := ⟨_, rfl⟩
      rw [← hci] at H32 hcl
      clear hci hy x0 x1 x2 x3 x4 x5 x6 x7
      by_cases hlt2 : y.at < m.at
      · rw [decide_eq_true hlt2] at hcl
        have HLt := Hd.mk hlt2
        clear hlt2
        go_upto_region 7 with (fail)
        go_region_held3 (fun W => Step No wr W) ((first | assumption | exact Step.drew No _)) (first | (go_at_call 32; refine (H32.out _ ?_).mono ?_; (first | assumption | exact Step.drew No _); rintro e w2 ⟨rfl, hs2⟩))
        all_goals
          go_wp2
          go_roundg (ks.length - (k + 1))
          case measure => have := HK.out; omega
          case rel =>
            have hs2' : Step No wr w2 := by assumption
            obtain ⟨p1, p2⟩ := One.put (HO.out.step hs2' (fun h => h)) y
            refine ⟨k + 1, y, by omega, by go_num, ⟨rfl⟩, ⟨by have := HK1.out; omega⟩, ⟨by rw [HY.out]; exact List.getElem_mem hlt⟩, ⟨fun j hj h1 => ?_⟩, ⟨(HS.out.trans' hs2').trans p2 (fun i hi hl => ?_)⟩, ⟨(HZ.out.step hs2' (fun h => h)).step p2 (fun e => ?_)⟩, ⟨p1⟩⟩
            · by_cases e : j < k
              · have := HA.out j hj e; have := HLt.out; omega
              · obtain rfl : j = k := by omega
                rw [← HY.out]; omega
            · have e : i = mb := hi
              have := HMb.out
              omega
            · have e' : rb = mb := e
              have := HMb.out
              have := HRb.out
              omega
      · rw [decide_eq_false hlt2] at hcl
        have HLt := Hd.mk hlt2
        clear hlt2
        go_upto_region 7 with (fail)
        go_region_held3 (fun W => Step No wr W) ((first | assumption | exact Step.drew No _)) (first | (go_at_call 32; refine (H32.out _ ?_).mono ?_; (first | assumption | exact Step.drew No _); rintro e w2 ⟨rfl, hs2⟩))
        all_goals
          go_wp2
          go_roundg (ks.length - (k + 1))
          case measure => have := HK.out; omega
          case rel =>
            refine ⟨k + 1, m, by omega, by go_num, ⟨rfl⟩, ⟨by have := HK1.out; omega⟩, HM, ⟨fun j hj h1 => ?_⟩, ⟨HS.out.trans' (by assumption)⟩, ⟨HZ.out.step (by assumption : Step No wr _) (fun h => h)⟩, ⟨HO.out.step (by assumption : Step No wr _) (fun h => h)⟩⟩
            by_cases e : j < k
            · exact HA.out j hj e
            · obtain rfl : j = k := by omega
              rw [← HY.out]; have := HLt.out; omega
    · obtain rfl : k = ks.length := by omega
      have y0 := One.at HO.out 0 _ rfl
      have y1 := One.at HO.out 1 _ rfl
      have y2 := One.at HO.out 2 _ rfl
      have y3 := One.at HO.out 3 _ rfl
      have y4 := One.at HO.out 4 _ rfl
      have y5 := One.at HO.out 5 _ rfl
      have y6 := One.at HO.out 6 _ rfl
      have y7 := One.at HO.out 7 _ rfl
      have z0 := One.at HZ.out 0 _ rfl
      have z1 := One.at HZ.out 1 _ rfl
      have z2 := One.at HZ.out 2 _ rfl
      have z3 := One.at HZ.out 3 _ rfl
      have z4 := One.at HZ.out 4 _ rfl
      have z5 := One.at HZ.out 5 _ rfl
      have z6 := One.at HZ.out 6 _ rfl
      have z7 := One.at HZ.out 7 _ rfl
      have hfz := One.free HZ.out
      have hself : Step No wr wr := Step.refl _ _
      obtain ⟨p1, p2⟩ := One.put HZ.out m
      have r0 := One.at p1 0 _ rfl _ (Step.refl _ _)
      have r1 := One.at p1 1 _ rfl _ (Step.refl _ _)
      have r2 := One.at p1 2 _ rfl _ (Step.refl _ _)
      have r3 := One.at p1 3 _ rfl _ (Step.refl _ _)
      have r4 := One.at p1 4 _ rfl _ (Step.refl _ _)
      have r5 := One.at p1 5 _ rfl _ (Step.refl _ _)
      have r6 := One.at p1 6 _ rfl _ (Step.refl _ _)
      have r7 := One.at p1 7 _ rfl _ (Step.refl _ _)
      have hp3 : Step No w (wr.setCells rb 0 m.cells) := HS.out.trans p2 (fun i hi hl => by have e : i = rb := hi; have := HRb.out; omega)
      have HP3 := Hd.mk hp3
      clear p1 p2 hp3
      go_wp2
      refine bodyPost_ret (v := m.val) ?_ rfl ⟨m, HM.out, rfl, fun y hy => ?_, HP3.out⟩
      · change (results Try.f31 _).run Try.prog (wr.setCells rb 0 m.cells) = .ok m.val (wr.setCells rb 0 m.cells)
        clear y0 y1 y2 y3 y4 y5 y6 y7 z0 z1 z2 z3 z4 z5 z6 z7 hfz hself hz80
        generalize wr.setCells rb 0 m.cells = W9 at r0 r1 r2 r3 r4 r5 r6 r7 ⊢
        unfold KR.val
        simp [results, Try.results31, go_sem, r0, r1, r2, r3, r4, r5, r6, r7]
      · obtain ⟨j, hj, rfl⟩ := List.getElem_of_mem hy
        exact HA.out j hj hj
end Go.Proofs.Ytngganllammcpaa

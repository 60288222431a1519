/- DeleteFunc over known sessions. -/
import Derived.Test.YtngganllammcpaaL3
set_option linter.unusedVariables false
set_option linter.unusedSimpArgs false
set_option linter.unusedVariables false
set_option linter.unusedSimpArgs false
namespace Go.Proofs.Ytngganllammcpaa
open Go Go.RowKit Gb
theorem zero80 (w : World) : (zeroValue 80).run Try.prog w = .ok (.agg #[.string ⟨#[]⟩, .int .i64 0, .int .i64 0, .int .i64 0, .int .i64 0, .int .i64 0, .slice none 0 0, .int .i64 0]) w := by kernel_rfl
theorem info80 : (Try.prog.info? 80).map (fun i => (i.zero, i.size, i.bytes)) = some (some (.agg #[.string ⟨#[]⟩, .int .i64 0, .int .i64 0, .int .i64 0, .int .i64 0, .int .i64 0, .slice none 0 0, .int .i64 0]), 8, 88) := by kernel_rfl
/-- how far the deletion has come -/
structure DelK (p : KR → Bool) (ks zs : List KR) (i j : Nat) : Prop where
  len : zs.length = ks.length
  done : zs.take i = (ks.take j).filter p
  rest : ∀ m, j ≤ m → zs[m]? = ks[m]?
  lt : i < j
  le : j ≤ ks.length
theorem DelK.skip {p : KR → Bool} {ks zs : List KR} {i j : Nat} (h : DelK p ks zs i j) (hj : j < ks.length) (hp : p ks[j] = false) : DelK p ks zs i (j + 1) := by
  refine ⟨h.len, ?_, fun m hm => h.rest m (by omega), by have := h.lt; omega, hj⟩
  rw [List.take_succ_eq_append_getElem hj, List.filter_append, h.done]
  simp [hp]
theorem DelK.put {p : KR → Bool} {ks zs : List KR} {i j : Nat} (h : DelK p ks zs i j) (hj : j < ks.length) (hp : p ks[j] = true) : DelK p ks (zs.set i ks[j]) (i + 1) (j + 1) := by
  have hlt := h.lt
  refine ⟨by rw [List.length_set]; exact h.len, ?_, fun m hm => ?_, by omega, hj⟩
  · have hi : i < (zs.set i ks[j]).length := by rw [List.length_set, h.len]; omega
    rw [List.take_succ_eq_append_getElem hi, List.take_set, List.take_succ_eq_append_getElem hj, List.filter_append]
    rw [List.set_eq_of_length_le (by rw [List.length_take]; omega), h.done]
    simp [hp]
  · rw [List.getElem?_set_ne (by omega)]
    exact h.rest m (by omega)
def DelPost (A : Option Addr) (c : Nat) (ks : List KR) (h : ByteArray) (n : Int) (w : World) (e : Ending) (w' : World) : Prop :=
  ∃ v', e = .returned v' ∧ SRow KR.cells 8 w' 80 v' (ks.filter (fun y => !same h n y)) ∧ Step (Own (.slice A ks.length c)) w w' ∧ ∀ k, Own v' k → Own (.slice A ks.length c) k
theorem idx_none {p : KR → Bool} {ks : List KR} (h : idx p ks = -1) : ks.filter (fun y => !p y) = ks := by
  unfold idx at h
  split at h
  · omega
  · rename_i hx
    refine List.filter_eq_self.2 fun y hy => ?_
    have := List.findIdx?_eq_none_iff.1 hx y hy
    simp [this]
theorem idx_some {p : KR → Bool} {ks : List KR} (h : idx p ks ≠ -1) : ∃ i : Nat, idx p ks = i ∧ DelK (fun y => !p y) ks ks i (i + 1) := by
  unfold idx at *
  split at h
  · rename_i i hx
    obtain ⟨hi, h1, h2⟩ := List.findIdx?_eq_some_iff_getElem.1 hx
    refine ⟨i, rfl, rfl, ?_, fun _ _ => rfl, Nat.lt_succ_self _, hi⟩
    rw [List.take_succ_eq_append_getElem hi, List.filter_append]
    have e1 : (ks.take i).filter (fun y => !p y) = ks.take i := by
      refine List.filter_eq_self.2 fun y hy => ?_
      obtain ⟨m, hm, rfl⟩ := List.mem_take_iff_getElem.1 hy
      have := h2 m (by omega)
      simpa using this
    rw [e1]; simp [h1]
  · exact absurd rfl h
set_option maxRecDepth 100000 in
set_option maxHeartbeats 2000000 in
theorem f26_any (A : Option Addr) (c : Nat) (ks : List KR) (sb : Nat) (h : ByteArray) (n : Int) (w : World) (hr : SRow KR.cells 8 w 80 (.slice A ks.length c) ks) (h0 : w.cell? ⟨sb, 0, none⟩ = some (.string h)) (h1 : w.cell? ⟨sb, 1, none⟩ = some (.int .i64 n)) (hsb : ∀ k, Own (.slice A ks.length c) k → k ≠ sb) :
    Calls Try.prog 26 #[.slice A ks.length c, .func (.func 27) #[] #[.pointer (some ⟨sb, 0, none⟩)]] w (DelPost A c ks h n w) := by
  obtain ⟨_, _, hv, hcm, hcx, _⟩ := hr.slice
  cases hv
  have hlen : ks.length ≤ 9223372036854775807 := by unfold maxLen at hcx; omega
  have h43 := f43_any A c ks sb h n w hr h0 h1
  obtain ⟨ix, hix⟩ : ∃ ix, ix = idx (same h n) ks := ⟨_, rfl⟩
  rw [← hix] at h43
  have H43 := Hd.mk h43
  have HR := Hd.mk hr
  have H27 : Hd (∀ W (y : KR), Step (Own (.slice A ks.length c)) w W → Calls Try.prog 27 #[y.val, .pointer (some ⟨sb, 0, none⟩)] W fun e w' => e = .returned (.bool (same h n y)) ∧ Step No W w') := ⟨fun W y hs =>
    f27_any y sb h n W (hs.cell h0 (fun e => hsb _ e rfl)) (hs.cell h1 (fun e => hsb _ e rfl))⟩
  unfold KR.val at H27
  clear hr h0 h1 h43 hsb
  by_cases hm1 : ix = -1
  · have HN : Hd (ks.filter (fun y => !same h n y) = ks) := ⟨idx_none (by rw [← hix]; exact hm1)⟩
    have hb : (ix == -1) = true := by rw [hm1]; rfl
    clear hix
    go_enter Try.func26, Try.ntmps26
    go_wp2_with (first | (go_at_call 43; refine H43.out.mono ?_; rintro e w1 ⟨rfl, hs1⟩))
    go_ret
    exact ⟨_, rfl, by rw [HN.out]; exact HR.out.stepNo hs1, hs1.mono (fun _ h => h.elim), fun _ h => h⟩
  · have hb : (ix == -1) = false := by simpa using hm1
    obtain ⟨i0, hi0, hd0⟩ := idx_some (p := same h n) (ks := ks) (by rw [← hix]; exact hm1)
    have hpos : 0 < ks.length := by have := hd0.le; omega
    have hi0b : i0 < ks.length := hd0.le
    rw [← hix] at hi0
    subst hi0
    have HD0 := Hd.mk hd0
    obtain ⟨g, rfl, hog, -⟩ := KR.ats HR.out hpos
    clear hix hm1 hd0
    go_enter Try.func26, Try.ntmps26
    go_wp2_with (first | (go_at_call 43; refine H43.out.mono ?_; rintro e w1 ⟨rfl, hs1⟩; refine Stop.back ?_))
    have HS1 := Hd.mk hs1
    clear hs1
    refine Stop.go ?_
    go_wp2
    go_loopg [5, 6] (ks.length - (i0 + 1)) (fun kq iv jv wr => ∃ (i j : Nat) (zs : List KR), iv = .int .i64 i ∧ jv = .int .i64 j ∧ i < j ∧ j ≤ ks.length ∧ Hd (kq = ks.length - j) ∧ Hd (DelK (fun y => !same h n y) ks zs i j) ∧ Hd (SRow KR.cells 8 wr 80 (.slice (some ⟨g, 0, none⟩) ks.length c) zs) ∧ Hd (Step (Own (.slice (some ⟨g, 0, none⟩) ks.length c)) w wr))
    case atStart => exact ⟨i0, i0 + 1, ks, rfl, by go_num, Nat.lt_succ_self _, hi0b, ⟨rfl⟩, HD0, ⟨HR.out.stepNo HS1.out⟩, ⟨HS1.out.mono (fun _ h => h.elim)⟩⟩
    case round =>
      obtain ⟨i, j, zs, rfl, rfl, hij, hj, HK, HD, HZ, HS⟩ := hrel
      have hzl := HD.out.len
      by_cases hlt : j < ks.length
      · have hjz : j < zs.length := by omega
        have hiz : i < zs.length := by omega
        have hyj : zs[j] = ks[j] := by
          have := HD.out.rest j (Nat.le_refl _)
          rw [List.getElem?_eq_getElem hjz, List.getElem?_eq_getElem hlt] at this
          simpa using this
        obtain ⟨g', he, -, hfr, x0, x1, x2, x3, x4, x5, x6, x7⟩ := KR.ats HZ.out hjz
        cases he
        obtain ⟨y, hy⟩ : ∃ y, y = ks[j] := ⟨_, rfl⟩
        rw [hyj, ← hy] at x0 x1 x2 x3 x4 x5 x7
        have HY : Hd (ks[j] = y) := ⟨hy.symm⟩
        obtain ⟨W, hW⟩ : ∃ W, W = wr.alloc (.cells #[.string y.home, .int .i64 y.n, .int .i64 y.nonce, .int .i64 y.lease, .int .i64 y.beats, .int .i64 y.req, .slice none 0 0, .int .i64 y.since] 80) := ⟨_, rfl⟩
        obtain ⟨tb, htb⟩ : ∃ tb, tb = wr.heap.size := ⟨_, rfl⟩
        have hbk : W.heap[tb]? = some (.cells y.cells.toArray 80 (0, 0)) := by rw [hW, htb]; exact blk_new wr _
        have hst : Step No wr W := by rw [hW]; exact Step.alloc _ _ _
        have hcall := H27.out W y (HS.out.transNo hst)
        obtain ⟨bq, hbq⟩ : ∃ bq, bq = same h n y := ⟨_, rfl⟩
        rw [← hbq] at hcall
        have HCall := Hd.mk hcall
        have HBq := Hd.mk hbq
        have HSt := Hd.mk hst
        have y0 := KR.blk y hbk 0 _ rfl
        have y1 := KR.blk y hbk 1 _ rfl
        have y2 := KR.blk y hbk 2 _ rfl
        have y3 := KR.blk y hbk 3 _ rfl
        have y4 := KR.blk y hbk 4 _ rfl
        have y5 := KR.blk y hbk 5 _ rfl
        have y6 := KR.blk y hbk 6 _ rfl
        have y7 := KR.blk y hbk 7 _ rfl
        have hself : Step No W W := Step.refl _ _
        clear hy hyj hcall hbq hbk hst
        cases bq with
        | true =>
          go_upto_region 8 with (fail)
          rw [← hW, ← htb]
          clear hW htb
          go_wp2_with (first | (go_at_call 27; refine HCall.out.mono ?_; rintro e w2 ⟨rfl, hs2⟩))
          go_roundg (ks.length - (j + 1))
          case measure => have := HK.out; omega
          case rel => exact ⟨i, j + 1, zs, rfl, by go_num, by omega, by omega, ⟨rfl⟩, ⟨HD.out.skip hlt (by rw [HY.out, ← HBq.out]; rfl)⟩, ⟨HZ.out.stepNo (HSt.out.trans' hs2)⟩, ⟨HS.out.transNo (HSt.out.trans' hs2)⟩⟩
        | false =>
          obtain ⟨g', he, -, -, z0, z1, z2, z3, z4, z5, z6, z7⟩ := KR.ats (HZ.out.stepNo HSt.out) hiz
          cases he
          have u0 := fun W' (hs : Step No W W') => hs.cell z0 (fun h => h)
          have u1 := fun W' (hs : Step No W W') => hs.cell z1 (fun h => h)
          have u2 := fun W' (hs : Step No W W') => hs.cell z2 (fun h => h)
          have u3 := fun W' (hs : Step No W W') => hs.cell z3 (fun h => h)
          have u4 := fun W' (hs : Step No W W') => hs.cell z4 (fun h => h)
          have u5 := fun W' (hs : Step No W W') => hs.cell z5 (fun h => h)
          have u6 := fun W' (hs : Step No W W') => hs.cell z6 (fun h => h)
          have u7 := fun W' (hs : Step No W W') => hs.cell z7 (fun h => h)
          have hfz : ∀ W' j, Step No W W' → W'.frozen? ⟨g, j, none⟩ = false := fun W' j hs => by
            obtain ⟨cells, hg⟩ := RowAt.typed ((HZ.out.stepNo HSt.out).stepNo hs) (k := g) rfl
            exact blk_free hg j
          clear z0 z1 z2 z3 z4 z5 z6 z7
          go_upto_region 8 with (fail)
          rw [← hW, ← htb]
          clear hW htb
          go_wp2_with (first | (go_at_call 27; refine HCall.out.mono ?_; rintro e w2 ⟨rfl, hs2⟩))
          go_roundg (ks.length - (j + 1))
          case measure => have := HK.out; omega
          case rel =>
            obtain ⟨p1, p2⟩ := SRow.put KR.hl (HZ.out.stepNo (HSt.out.trans' hs2)) hiz y
            exact ⟨i + 1, j + 1, zs.set i y, by go_num, by go_num, by omega, by omega, ⟨rfl⟩, ⟨by rw [← HY.out]; exact HD.out.put hlt (by rw [HY.out, ← HBq.out]; rfl)⟩, ⟨p1⟩, ⟨(HS.out.transNo (HSt.out.trans' hs2)).trans' (p2.mono (fun k hk => by cases hk; rfl))⟩⟩
      · obtain rfl : j = ks.length := by omega
        have hiz : i < zs.length := by omega
        obtain ⟨ii, hii, -, hz1, -⟩ := info_open info80
        have hsl : ∀ W, (Instr.slice 66 (.slice (some ⟨g, 0, none⟩) ks.length c) (some (.int .i64 (i : Int))) none none).run Try.prog W = .ok (.slice (some ⟨g, i * 8, none⟩) (ks.length - i) (c - i)) W := fun W => by
          have hel : Try.prog.elem 66 = 80 := by simp [Program.elem, Try.underlying66]
          have hu : Try.prog.underlying 66 = some (.slice (Try.prog.elem 66)) := by rw [hel]; exact Try.underlying66
          rw [run_slice_l W 66 (some ⟨g, 0, none⟩) ks.length c hu .i64 (i : Int) (Int.natCast_nonneg _) (by omega), hel]
          simp [Go.sizeOf, typeInfo, hii, hz1, sliced, Result.andThen, add_plain]
          intro h9; omega
        have hsr : ∀ W, (Instr.slice 66 (.slice (some ⟨g, 0, none⟩) ks.length c) none (some (.int .i64 (i : Int))) none).run Try.prog W = .ok (.slice (some ⟨g, 0, none⟩) i c) W := fun W => run_cutR Try.underlying66 hii _ _ _ .i64 rfl (by omega) W
        have hz2 := HZ.out
        rw [← hzl] at hz2
        obtain ⟨w', hcl, hrow, hstc⟩ := run_clear_tail (P := Try.prog) KR.hl hz2 hiz 66 _ Try.underlying66 zero80 rfl (by intro u hu; simp [Value.cells] at hu; rcases hu with rfl | rfl | rfl | rfl <;> rfl) (by decide) (c - i)
        rw [hzl] at hcl
        have HRow := Hd.mk hrow
        have HStc := Hd.mk hstc
        clear hii hz1 hz2 hrow hstc
        go_wp2
        go_ret
        refine ⟨_, rfl, ?_, HS.out.trans' (HStc.out.mono (fun k hk => by cases hk; rfl)), fun k hk => hk⟩
        have h1 := HRow.out
        have h2 := HD.out.done
        rw [List.take_length] at h2
        rw [h2] at h1
        have hl : (ks.filter (fun y => !same h n y)).length = i := by rw [← h2, List.length_take]; omega
        unfold SRow at h1 ⊢
        exact h1
end Go.Proofs.Ytngganllammcpaa

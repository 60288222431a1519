/- The walk of alike: the two disks are held against each other. -/
import Derived.Test.YtmflfimenacflaaR16
set_option linter.unusedVariables false
set_option linter.unusedSimpArgs false
namespace Go.Proofs.Ytmflfimenacflaa
open Go Go.RowKit Gb
/-- a row whose cells from j on are as they were -/
def TailAt (w : World) (v : Value) (n : Nat) (xs : List UInt8) (j : Nat) : Prop := ∃ ys, RowAt w 5 1 v n ys ∧ ys.drop j = (xs.map Gb.u8).drop j
theorem TailAt.of {w : World} {v : Value} {n : Nat} {xs : List UInt8} (h : RowAt w 5 1 v n (xs.map Gb.u8)) : TailAt w v n xs 0 := ⟨_, h, rfl⟩
theorem TailAt.at {w : World} {A : Option Addr} {n c : Nat} {xs : List UInt8} {j : Nat} (h : TailAt w (.slice A n c) n xs j) (hj : j < n) (hn : xs.length = n) :
    ∃ g, A = some ⟨g, 0, none⟩ ∧ w.cell? ⟨g, j, none⟩ = some (.int .u8 (xs[j]'(by omega)).toNat) ∧ w.frozen? ⟨g, j, none⟩ = false ∧ ∀ u, TailAt (w.setCell ⟨g, j, none⟩ u) (.slice A n c) n xs (j + 1) ∧ Step (Own (.slice A n c)) w (w.setCell ⟨g, j, none⟩ u) := by
  obtain ⟨ys, hr, hd⟩ := h
  obtain ⟨g, c', hv, _, hg, hf, hc⟩ := hr.form (by omega)
  cases hv
  have e : ys[j]? = some (Gb.u8 (xs[j]'(by omega))) := by
    have h1 := congrArg (fun l => l[0]?) hd
    simp only [List.getElem?_drop, Nat.add_zero] at h1
    rw [h1, List.getElem?_map, List.getElem?_eq_getElem (by omega)]; rfl
  refine ⟨g, rfl, hc j _ e, hf j, fun u => ⟨⟨ys.set j u, hr.set j u, ?_⟩, Step.set w (p := ⟨g, j, none⟩) hg u⟩⟩
  rw [List.drop_set_of_lt (by omega)]
  have := congrArg (List.drop 1) hd
  simpa [List.drop_drop] using this
theorem TailAt.stepNo {w w' : World} {v : Value} {n : Nat} {xs : List UInt8} {j : Nat} (h : TailAt w v n xs j) (hs : Step No w w') : TailAt w' v n xs j := by
  obtain ⟨ys, h1, h2⟩ := h
  exact ⟨ys, h1.stepNo hs, h2⟩
set_option maxHeartbeats 4000000 in
set_option maxRecDepth 100000 in
theorem f27_any (db mb xb : Nat) (cap : Int) (fs : Files) (sv : Value) (rs : List RF) (w : World) (h : DiskAt w db mb cap fs) (hr : RefAt w xb cap sv rs) (hc : Cpl rs (view fs)) (hok : VOk (view fs)) (hsz : fs.length * 16 ≤ 140737488355328) :
    Calls Try.prog 27 #[.pointer (some ⟨db, 0, none⟩), .pointer (some ⟨xb, 0, none⟩)] w fun e w' => e = .returned (.bool true) ∧ Step No w w' := by
  have c0 := blk_cell h.blk 0
  simp only [List.getElem?_toArray, List.getElem?_cons_zero, List.getElem?_cons_succ] at c0
  have hns := names_same hc hok
  have hnl : (snames (view fs)).length = rs.length := by rw [hns]; simp
  have hlen := hr.len
  have hroom : used fs ≤ 1073741824 := h.table.room
  have hru : rused rs = used fs := by rw [hc.used, used_view]
  have h19 := f19_any mb fs w h.table hsz
  rw [hnl, hns] at h19
  have h20 := fun W (hs : Step No w W) => f20_any mb fs W (h.table.step hs (fun _ _ h => h))
  have h30 := fun W (hs : Step No w W) => f30_any xb cap sv rs W (hr.stepNo hs)
  simp only [hru] at h30
  obtain ⟨A2, c2, rfl, hc2, _, _⟩ := hr.row.slice
  have HD := Hd.mk h
  have HR := Hd.mk hr
  have HC := Hd.mk hc
  have HOk := Hd.mk hok
  have HNs := Hd.mk hns
  have H19 := Hd.mk h19
  have H20 := Hd.mk h20
  have H30 := Hd.mk h30
  clear h hr hc hok hns hnl h19 h20 h30 hru
  obtain ⟨us, hus⟩ : ∃ us, us = used fs := ⟨_, rfl⟩
  rw [← hus] at H20 H30 hroom
  clear hus
  go_enter Try.func27, Try.ntmps27
  go_wp2_with (first | (go_at_call 19; refine H19.out.mono ?_; rintro e w1 ⟨v, rfl, hv, hf, hs⟩; refine Stop.back ?_))
  obtain ⟨A1, cc1, rfl, -, -, -⟩ := hv.slice
  have c0' := hs.cell c0 (fun h => h)
  obtain ⟨hh0, hh1⟩ := (HR.out.stepNo hs).head
  have HV := Hd.mk hv
  have HS := Hd.mk hs
  clear hv hf hs c0 hh0
  refine Stop.go ?_
  go_wp2_with (first | (go_at_call 20; refine (H20.out _ HS.out).mono ?_; rintro e w2 ⟨rfl, hs2⟩; refine Stop.back ?_))
  have HS2 := Hd.mk (HS.out.trans' hs2)
  have HV2 := Hd.mk (HV.out.stepNo hs2)
  have hh1' := hs2.cell hh1 (fun h => h)
  clear hs2 c0' hh1
  refine Stop.go ?_
  go_wp2_with (first | (go_at_call 30; refine (H30.out _ HS2.out).mono ?_; rintro e w3 ⟨rfl, rfl⟩))
  go_loopg [41] rs.length (fun kq i wr => ∃ k : Nat, k ≤ rs.length ∧ i = .int .i64 k ∧ Hd (kq = rs.length - k) ∧ Hd (Step No w wr) ∧ Hd (RowAt wr 9 1 (.slice A1 rs.length cc1) rs.length ((rs.map RF.name).map Value.string)))
  case atStart => exact ⟨0, Nat.zero_le _, rfl, ⟨rfl⟩, HS2, HV2⟩
  case round =>
    obtain ⟨k, hk, rfl, HK, HSk, HVk⟩ := hrel
    by_cases hlt : k < rs.length
    · obtain ⟨ad2, b, off, rfl, hbo, hoff, hpp, hq0, hq1, hq2⟩ := (HR.out.stepNo HSk.out).at hlt
      obtain ⟨r, hr⟩ : ∃ r, r = rs[k] := ⟨_, rfl⟩
      have hrm : r ∈ rs := by rw [hr]; exact List.getElem_mem hlt
      have hown := HR.out.own r hrm
      obtain ⟨A5, c5, hb5, hn5, hm5, -⟩ := hown.slice
      have hmem : r.name ∈ snames (view fs) := by rw [HNs.out]; exact List.mem_map.2 ⟨r, hrm, rfl⟩
      have hvg : vget (view fs) r.name = (r.data, r.safe) := by
        have h1 : (r.name, (r.data, r.safe)) ∈ view fs := HC.out.perm.mem_iff.1 (List.mem_map.2 ⟨r, hrm, rfl⟩)
        unfold vget
        rw [lookup_mem HOk.out.2 h1]; rfl
      obtain ⟨g1, cc2, he1, _, _, _, hcs⟩ := HVk.out.form (by omega)
      cases he1
      have hn0 := hcs k (.string r.name) (by rw [List.getElem?_map, List.getElem?_map, List.getElem?_eq_getElem hlt, ← hr]; rfl)
      rw [← hr] at hq0 hq1 hq2
      have hLr : r.data.length ≤ 1073741824 := by
        have h1 := rused_erase rs hlt
        rw [← hr] at h1
        have := HR.out.fits
        have := HR.out.cap1
        omega
      obtain ⟨L, hL⟩ : ∃ L, L = r.data.length := ⟨_, rfl⟩
      obtain ⟨sf, hsf⟩ : ∃ sf, sf = r.safe := ⟨_, rfl⟩
      obtain ⟨nm, hnm⟩ : ∃ nm, nm = r.name := ⟨_, rfl⟩
      have H9 : Hd (∀ W, Step No w W → Calls Try.prog 9 #[.pointer (some ⟨db, 0, none⟩), .string nm] W fun e w' => ∃ A8 c8, e = .returned (.tuple #[.slice A8 L c8, .int .i64 0]) ∧ RowAt w' 5 1 (.slice A8 L c8) L (r.data.map Gb.u8) ∧ Fresh W (.slice A8 L c8) ∧ Step No W w') := ⟨fun W hW => by
        rw [hnm, hL]
        refine (law_read (HD.out.step hW (fun _ _ h => h)) HOk.out hmem).mono ?_
        rintro e w' ⟨v, rfl, h1, h2, h3⟩
        rw [hvg] at h1
        obtain ⟨A8, c8, rfl, _⟩ := h1.slice
        exact ⟨A8, c8, rfl, h1, h2, h3⟩⟩
      have H10 : Hd (∀ W, Step No w W → Calls Try.prog 10 #[.pointer (some ⟨db, 0, none⟩), .string nm] W fun e w' => e = .returned (.tuple #[.int .i64 (sf : Int), .int .i64 0]) ∧ Step No W w') := ⟨fun W hW => by
        rw [hnm, hsf]
        refine (law_safe (HD.out.step hW (fun _ _ h => h)) HOk.out hmem).mono ?_
        rintro e w' ⟨rfl, h3⟩
        rw [hvg]
        exact ⟨rfl, h3⟩⟩
      have H13 : Hd (∀ W A8 c8, RowAt W 5 1 (.slice A8 L c8) L (r.data.map Gb.u8) → Step No w W → Calls Try.prog 13 #[.slice A8 L c8, .slice A5 L c5] W fun e w' => e = .returned (.bool true) ∧ w' = W) := ⟨fun W A8 c8 h1 hW => by
        have h2 := hown.stepNo hW
        rw [hb5] at h2
        rw [hL] at h1 ⊢
        have := f13_any _ _ r.data r.data W (Rd.of_row h1 (fun k hk => hk) (fun _ _ => trivial)) (Rd.of_row h2 (fun k hk => hk) (fun _ _ => trivial))
        rw [decide_eq_true rfl] at this
        exact this.mono (fun _ _ ⟨a, b⟩ => ⟨a, b.symm⟩)⟩
      rw [hb5, ← hL] at hq1
      rw [← hsf] at hq2
      rw [← hnm] at hq0 hn0
      rw [← hL] at hLr
      have HL := Hd.mk hL
      clear hbo hoff hr hrm hown hb5 hn5 hm5 hmem hvg hcs hL hsf hnm
      go_upto_region 7 with (fail)
      obtain ⟨W, hW⟩ : ∃ W, W = wr.alloc (.cells #[.string nm, .slice A5 L c5, .int .i64 (sf : Int)] 43) := ⟨_, rfl⟩
      obtain ⟨g, hg⟩ : ∃ g, g = wr.heap.size := ⟨_, rfl⟩
      have hbk : W.heap[g]? = some (.cells #[.string nm, .slice A5 L c5, .int .i64 (sf : Int)] 43 (0, 0)) := by rw [hW, hg]; exact blk_new wr _
      have hst : Step No wr W := by rw [hW]; exact Step.alloc _ _ _
      rw [← hW, ← hg]
      have HBk := Hd.mk hbk
      have HSt := Hd.mk (HSk.out.trans' hst)
      have hn1 := hst.cell hn0 (fun h => h)
      have HVw := Hd.mk (HVk.out.stepNo hst)
      have d0 := blk_cell hbk 0
      simp only [List.getElem?_toArray, List.getElem?_cons_zero, List.getElem?_cons_succ] at d0
      clear hW hbk hst hg hq0 hq1 hq2 hn0
      go_wp2_with (first | (go_at_call 9; refine (H9.out _ HSt.out).mono ?_; rintro e w4 ⟨A8, c8, rfl, h81, h82, h83⟩; refine Stop.back ?_))
      have HB4 := Hd.mk (h83.keep HBk.out (fun h => h))
      have HS4 := Hd.mk (HSt.out.trans' h83)
      have HF4 : Hd (∀ j, Own (.slice A8 L c8) j → w.heap.size ≤ j ∧ g < j) := ⟨fun j hj => by
        have h1 := h82 j hj
        have h2 := HSt.out.size
        have h3 := lt_of_blk HBk.out
        exact ⟨by omega, by omega⟩⟩
      have HR4 := Hd.mk h81
      have hn4 := h83.cell hn1 (fun h => h)
      have HV4 := Hd.mk (HVw.out.stepNo h83)
      have e0 := blk_cell HB4.out 0
      simp only [List.getElem?_toArray, List.getElem?_cons_zero, List.getElem?_cons_succ] at e0
      clear h81 h82 h83 d0 hn1
      refine Stop.go ?_
      go_wp2_with (first | (go_at_call 10; refine (H10.out _ HS4.out).mono ?_; rintro e w5 ⟨rfl, h83⟩; refine Stop.back ?_))
      have HB5 := Hd.mk (h83.keep HB4.out (fun h => h))
      have HS5 := Hd.mk (HS4.out.trans' h83)
      have HR5 := Hd.mk (HR4.out.stepNo h83)
      have hn5 := h83.cell hn4 (fun h => h)
      have HV5 := Hd.mk (HV4.out.stepNo h83)
      have f0 := blk_cell HB5.out 0
      have f1 := blk_cell HB5.out 1
      have f2 := blk_cell HB5.out 2
      simp only [List.getElem?_toArray, List.getElem?_cons_zero, List.getElem?_cons_succ] at f0 f1 f2
      clear h83 e0 hn4
      refine Stop.go ?_
      go_upto_region 9 with (fail)
      go_quiet ((go_at_call 13; exact Calls.quiet_of_same (H13.out _ A8 c8 (HR5.out.stepNo (Step.drewN No _ _)) (HS5.out.trans' (Step.drewN No _ _)))))
      go_upto_block 2 with (fail)
      generalize hW6 : World.drewN w5 _ = W6
      have hs6 : Step No w5 W6 := by rw [← hW6]; exact Step.drewN No _ _
      have HS6 := Hd.mk (HS5.out.trans' hs6)
      have HT6 := Hd.mk (TailAt.of (HR5.out.stepNo hs6))
      have HV6 := Hd.mk (HV5.out.stepNo hs6)
      have hLb : L ≤ 1073741824 := hLr
      have HLD : Hd (r.data.length = L) := ⟨HL.out.symm⟩
      clear hs6 hW6 f0 f1 f2 hn5
      go_wp2_with fail
      go_loopg [90] L (fun kq i wx => ∃ j : Nat, j ≤ L ∧ i = .int .i64 j ∧ Hd (kq = L - j) ∧ Hd (Step No w wx) ∧ Hd (TailAt wx (.slice A8 L c8) L r.data j) ∧ Hd (RowAt wx 9 1 (.slice (some ⟨g1, 0, none⟩) rs.length cc1) rs.length ((rs.map RF.name).map Value.string)))
      case atStart => exact ⟨0, Nat.zero_le _, rfl, ⟨rfl⟩, HS6, HT6, HV6⟩
      case round =>
        obtain ⟨j, hj, rfl, HJ, HSj, HTj, HVj⟩ := hrel
        by_cases hltj : j < L
        · obtain ⟨g8, rfl, hcj, hfj, hnext⟩ := HTj.out.at hltj HLD.out
          obtain ⟨bj, hbj⟩ : ∃ bj, bj = (r.data[j]'(by rw [HLD.out]; exact hltj)).toNat := ⟨_, rfl⟩
          rw [← hbj] at hcj
          have HNext := Hd.mk hnext
          clear hbj hnext
          go_wp2
          go_roundg (L - (j + 1))
          case measure => have := HJ.out; omega
          case rel =>
            obtain ⟨h1, h2⟩ := HNext.out _
            refine ⟨j + 1, by omega, by go_num, ⟨rfl⟩, ⟨HSj.out.trans h2 (fun i hi hlt => ?_)⟩, ⟨h1⟩, ⟨HVj.out.step h2 (fun i hi hi2 => ?_)⟩⟩
            · have := (HF4.out i hi).1; omega
            · obtain ⟨cs1, e1⟩ := HVj.out.typed hi
              obtain ⟨ys, hys, _⟩ := HTj.out
              obtain ⟨cs2, e2⟩ := hys.typed hi2
              rw [e1] at e2
              simp at e2
        · obtain rfl : j = L := by omega
          go_wp2
          go_roundg (rs.length - (k + 1))
          case measure => have := HK.out; omega
          case rel => exact ⟨k + 1, by omega, by go_num, ⟨rfl⟩, HSj, HVj⟩
    · obtain rfl : k = rs.length := by omega
      go_wp2
      go_ret
      exact ⟨rfl, HSk.out⟩
end Go.Proofs.Ytmflfimenacflaa

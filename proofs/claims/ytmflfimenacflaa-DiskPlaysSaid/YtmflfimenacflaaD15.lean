/- The walk of the law DiskBound, for any capacity and any operations that are read within what the call was handed. -/
import Derived.Test.YtmflfimenacflaaD14
import Derived.Deep.RegionWith
set_option linter.unusedVariables false
set_option linter.unusedSimpArgs false
namespace Go.Proofs.Ytmflfimenacflaa
open Go.RowKit Gb
theorem f4_bad (c : Int) (sv : Value) (w : World) (hc : c < 0 ∨ 1073741824 < c) :
    Calls Try.prog 4 #[.int .i64 c, sv] w fun e w' => e = .returned (.bool true) ∧ Step No w w' := by
  rcases hc with h | h
  · go_enter Try.func4, Try.ntmps4
    go_wp2_with (first | (go_at_call 6; refine (f6_bad c _ (.inl h)).mono ?_; rintro e w1 ⟨rfl, rfl⟩) | (go_at_call 12; refine (f12_any _).mono ?_; rintro e w2 ⟨rfl, hs⟩; refine Stop.back ?_))
    have HS := Hd.mk hs
    clear hs
    refine Stop.go ?_
    go_wp2
    go_ret
    exact ⟨rfl, HS.out⟩
  · have h' : ¬ c < 0 := by omega
    have hb : decide (c < 0) = false := by simpa using h'
    go_enter Try.func4, Try.ntmps4
    go_wp2_with (first | (go_at_call 6; refine (f6_bad c _ (.inr h)).mono ?_; rintro e w1 ⟨rfl, rfl⟩) | (go_at_call 12; refine (f12_any _).mono ?_; rintro e w2 ⟨rfl, hs⟩; refine Stop.back ?_))
    have HS := Hd.mk hs
    clear hs
    refine Stop.go ?_
    go_wp2
    go_ret
    exact ⟨rfl, HS.out⟩
def lastOf (l : List ByteArray) (j : Nat) : ByteArray := if j = 0 then ⟨#[]⟩ else l.getD (j - 1) ⟨#[]⟩
def DEx (w : World) (db mb : Nat) (c : Int) (n : Nat) (W : World) : Prop := ∃ fs', DState w w.heap.size db mb c n W fs'
theorem DEx.step {w : World} {db mb : Nat} {c : Int} {n : Nat} {W W' : World} (h : DEx w db mb c n W) (hs : Step No W W') : DEx w db mb c n W' := by
  obtain ⟨fs, h1, h2, h3, h4, h5⟩ := h
  exact ⟨fs, h1.step hs (fun _ _ h => h), h2, h3.trans' hs, h4, h5⟩
/-- Append, as the law calls it: with a copy -/
theorem law_app {w wo W0 W1 : World} {db mb k : Nat} {c : Int} {fs : Files} {a : ByteArray} {l : List UInt8} {v' : Value} (hd : DiskAt W0 db mb c fs) (hk : DState w w.heap.size db mb c k wo fs) (hW : Step No wo W0) (h1 : Step No W0 W1) (ha : StrOk a)
    (hv : RowAt W1 5 1 v' l.length (l.map u8)) (hfr : Fresh W0.drew v') :
    Calls Try.prog 7 #[.pointer (some ⟨db, 0, none⟩), .string a, v'] W1 fun e W2 => ∃ n : Int, e = .returned (.int .i64 n) ∧ DEx w db mb c (k + 1) W2 ∧ Step (Foot db mb fs) W1 W2 := by
  refine (f7_any (F := Own v') db mb c fs a v' l W1 ha (Rd.of_row hv (fun _ h => h) (fun _ _ => trivial)) (hd.step h1 (fun _ _ h => h)) (fun j hj hf => ?_)).mono ?_
  · have := hfr j hj
    have := hd.lt hf
    simp at *; omega
  · rintro e W2 ⟨rfl, hp⟩
    have hs := hp
    obtain ⟨fs', _, _, hs', _⟩ := hs
    refine ⟨_, rfl, ?_, hs'⟩
    obtain ⟨fs2, h2, _⟩ := hk.post rfl (hW.trans' h1) hp (n' := k + 1) (by
      have hl : (view fs).length ≤ k := by simpa [view] using hk.few
      split
      · exact Nat.le_trans (len_mput_le _ _ _) (Nat.succ_le_succ hl)
      · omega) (by
      split
      · rename_i he; exact hk.ok.app (appE_ok he) _
      · exact hk.ok)
    exact ⟨fs2, h2⟩
theorem strOk_of {x : ByteArray} (h : okName x = true) : StrOk x := by
  unfold okName at h
  simp only [Bool.and_eq_true, decide_eq_true_eq] at h
  unfold StrOk; omega
theorem law_read {W : World} {db mb : Nat} {c : Int} {fs : Files} {x : ByteArray} (hd : DiskAt W db mb c fs) (hok : VOk (view fs)) (hx : x ∈ snames (view fs)) :
    Calls Try.prog 9 #[.pointer (some ⟨db, 0, none⟩), .string x] W fun e w' => ∃ v, e = .returned (.tuple #[v, .int .i64 0]) ∧ RowAt w' 5 1 v (vget (view fs) x).1.length ((vget (view fs) x).1.map u8) ∧ Fresh W v ∧ Step No W w' := by
  obtain ⟨_, _, ho⟩ := snames_mem hok hx
  refine (f9_any db mb c fs x W (strOk_of ho) hd).mono ?_
  rintro e w' ⟨v, rfl, hr, hf, hs⟩
  rw [readE_in hok hx] at hr ⊢
  rw [if_pos rfl] at hr
  exact ⟨v, rfl, hr, hf, hs⟩
theorem law_safe {W : World} {db mb : Nat} {c : Int} {fs : Files} {x : ByteArray} (hd : DiskAt W db mb c fs) (hok : VOk (view fs)) (hx : x ∈ snames (view fs)) :
    Calls Try.prog 10 #[.pointer (some ⟨db, 0, none⟩), .string x] W fun e w' => e = .returned (.tuple #[.int .i64 ((vget (view fs) x).2 : Int), .int .i64 0]) ∧ Step No W w' := by
  obtain ⟨_, _, ho⟩ := snames_mem hok hx
  refine (f10_any db mb c fs x W (strOk_of ho) hd).mono ?_
  rintro e w' ⟨rfl, hs⟩
  rw [readE_in hok hx, if_pos rfl]
  exact ⟨rfl, hs⟩
theorem safe_le {W : World} {db mb : Nat} {c : Int} {fs : Files} {x : ByteArray} (hd : DiskAt W db mb c fs) (hok : VOk (view fs)) (hx : x ∈ snames (view fs)) : (vget (view fs) x).2 ≤ (vget (view fs) x).1.length ∧ (vget (view fs) x).1.length ≤ 1073741824 := by
  obtain ⟨y, hy, _⟩ := snames_mem hok hx
  have hg := hy
  rw [mget_view] at hg
  cases hf : mget fs x with
  | none => rw [hf] at hg; cases hg
  | some f =>
    have hv : vget (view fs) x = (f.data, f.safe) := by unfold vget; rw [mget_view, hf]; rfl
    have hfa := hd.table.file _ (mem_of_lookup hf)
    have hu := used_filter fs hd.table.map.nodup _ (mem_of_lookup hf)
    have hroom : used fs ≤ 1073741824 := hd.table.room
    rw [hv]
    exact ⟨hfa.safe, by simp at hu ⊢; omega⟩
theorem last_lt {V : View} (h : VOk V) {j : Nat} (hj : j < (snames V).length) : Op.bytesLess (snames V)[j].toList (lastOf (snames V) j).toList = false ∧ ((snames V)[j].toList == (lastOf (snames V) j).toList) = false := by
  rw [ByteArray.toList_eq, ByteArray.toList_eq]
  have hlt : bs (lastOf (snames V) j) < bs (snames V)[j] := by
    unfold lastOf
    split
    · obtain ⟨_, _, ho⟩ := snames_mem h (List.getElem_mem hj)
      unfold okName at ho
      have : bs ⟨#[]⟩ = [] := rfl
      rw [this]
      have hne : bs (snames V)[j] ≠ [] := by
        intro e
        simp only [Bool.and_eq_true, Bool.not_eq_true', ByteArray.toList_eq] at ho
        have : (snames V)[j].data.toList = [] := e
        rw [this] at ho; exact absurd ho.1.1 (by decide)
      cases hb : bs (snames V)[j] with
      | nil => exact absurd hb hne
      | cons a t => exact List.Lex.nil
    · rename_i hj0
      have hp := List.pairwise_iff_getElem.1 (snames_lt h) (j - 1) j (by omega) hj (by omega)
      have : (snames V).getD (j - 1) ⟨#[]⟩ = (snames V)[j - 1] := by simp [List.getD_eq_getElem?_getD, List.getElem?_eq_getElem (show j - 1 < (snames V).length by omega)]
      rw [this]; exact hp
  constructor
  · rw [Go.Proofs.bytesLess_eq]
    exact decide_eq_false (fun h2 => List.lt_irrefl _ (List.lt_trans h2 hlt))
  · rw [beq_eq_false_iff_ne]
    intro e
    have e' : bs (snames V)[j] = bs (lastOf (snames V) j) := e
    rw [e'] at hlt
    exact List.lt_irrefl _ hlt
theorem lens_snoc (V : View) (l : List ByteArray) {j : Nat} (hj : j < l.length) : lens V (l.take (j + 1)) = lens V (l.take j) + (vget V l[j]).1.length := by
  unfold lens
  rw [List.take_succ_eq_append_getElem hj, List.map_append, List.sum_append]
  simp only [List.map_cons, List.map_nil, List.sum_cons, List.sum_nil]; omega
theorem lens_le (V : View) (l : List ByteArray) (j : Nat) : lens V (l.take j) ≤ lens V l := by
  unfold lens
  have h := List.take_append_drop j l
  conv => rhs; rw [← h]
  rw [List.map_append, List.sum_append]; omega
set_option maxRecDepth 100000 in
set_option maxHeartbeats 8000000 in
theorem f4_good (c : Int) (sv : Value) (ops : List OpR) (w : World) (h0 : 0 ≤ c) (h1 : c ≤ 1073741824) (h : Rd Rep.op w (fun k => k < w.heap.size) sv ops) (hsz : ∀ o ∈ ops, OpSz o) (hlen : ops.length * 16 ≤ 140737488351232) :
    Calls Try.prog 4 #[.int .i64 c, sv] w fun e w' => e = .returned (.bool true) ∧ Step No w w' := by
  obtain ⟨A, cp, rfl, _, _, _⟩ := h.slice
  have HR := Hd.mk h
  have HSZ := Hd.mk hsz
  clear h hsz
  go_enter Try.func4, Try.ntmps4
  go_wp2_with (first | (go_at_call 6; refine (f6_good c _ h0 h1).mono ?_; rintro e w1 ⟨rfl, hd, hs, hz⟩; refine Stop.back ?_))
  obtain ⟨db, hdb⟩ : ∃ db, db = w.heap.size + 1 := ⟨_, rfl⟩
  obtain ⟨mb, hmb⟩ : ∃ mb, mb = w.heap.size := ⟨_, rfl⟩
  rw [← hdb, ← hmb] at hd
  rw [← hdb]
  have HD : Hd (DState w w.heap.size db mb c 0 w1 []) := ⟨⟨hd, (by
    rintro k (rfl | rfl | ⟨p, hp, _⟩)
    · omega
    · omega
    · cases hp), hs, Nat.le_refl _, ⟨by simp [view], by simp [view]⟩⟩⟩
  clear hd hs hz hdb hmb
  refine Stop.go ?_
  go_wp2
  go_loopg [39] ops.length (fun kq i wr => ∃ (k : Nat) (fs : Files), k ≤ ops.length ∧ i = .int .i64 k ∧ Hd (kq = ops.length - k) ∧ Hd (DState w w.heap.size db mb c k wr fs))
  case atStart => exact ⟨0, [], Nat.zero_le _, rfl, ⟨rfl⟩, HD⟩
  case round =>
    obtain ⟨k, fs, hk, rfl, HK, HDk⟩ := hrel
    by_cases hlt : k < ops.length
    · obtain ⟨ad, b, off, cs, rfl, hbF, hp, hcs, hcell⟩ := (HR.out.stepNo HDk.out.step).cellsAt hlt (by decide)
      obtain ⟨o, ho⟩ : ∃ o, o = ops[k] := ⟨_, rfl⟩
      rw [← ho] at hcs
      obtain ⟨v3, v4, v5, rfl, hkk, ha, hb, h3, h4, h5⟩ := Rep.op_open hcs
      have hsz := HSZ.out o (by rw [ho]; exact List.getElem_mem hlt)
      have q0 := hcell 0 _ rfl
      have q1 := hcell 1 _ rfl
      have q2 := hcell 2 _ rfl
      have q3 := hcell 3 _ rfl
      have q4 := hcell 4 _ rfl
      have q5 := hcell 5 _ rfl
      simp only [Nat.add_zero] at q0
      have hp6 : ad.add (k * 6) = ⟨b, off, none⟩ := hp
      obtain ⟨A3, n3, rfl, _, _, _⟩ := h3.slice
      obtain ⟨A4, n4, rfl, _, _, _⟩ := h4.slice
      obtain ⟨A5, n5, rfl, _, _, _⟩ := h5.slice
      have HO := Hd.mk (And.intro ha (And.intro hb (And.intro h3 (And.intro h4 (And.intro h5 hsz)))))
      clear hcs hcell hp ho ha hb h3 h4 h5 hsz hkk
      obtain ⟨wo, rfl⟩ : ∃ wo : World, wo = wr := ⟨_, rfl⟩
      go_upto_block 2 with (fail)
      obtain ⟨g, hg⟩ : ∃ g, g = wo.heap.size := ⟨_, rfl⟩
      rw [← hg]
      have HG := Hd.mk hg
      clear hg
      go_cut [] (fun wx => Hd (DEx w db mb c (k + 1) wx))
      case first =>
        have p0 := blk_new wo (.cells #[.int .i64 o.kind, .string o.a, .string o.b, .slice A3 o.data.length n3, .slice A4 o.names.length n4, .slice A5 o.cuts.length n5] 48)
        have HW : Hd (Step No wo (wo.alloc (.cells #[.int .i64 o.kind, .string o.a, .string o.b, .slice A3 o.data.length n3, .slice A4 o.names.length n4, .slice A5 o.cuts.length n5] 48))) := ⟨Step.alloc _ _ _⟩
        generalize (wo.alloc (.cells #[.int .i64 o.kind, .string o.a, .string o.b, .slice A3 o.data.length n3, .slice A4 o.names.length n4, .slice A5 o.cuts.length n5] 48)) = W0 at p0 HW ⊢
        rw [← HG.out] at p0
        clear q0 q1 q2 q3 q4 q5 hp6
        have p1 := blk_cell p0 1
        have p2 := blk_cell p0 2
        have p3 := blk_cell p0 3
        have p4 := blk_cell p0 4
        have p5 := blk_cell p0 5
        simp only [List.getElem?_toArray, List.getElem?_cons_zero, List.getElem?_cons_succ] at p1 p2 p3 p4 p5
        clear p0
        by_cases hk1 : o.kind = 1
        · have HK1 := Hd.mk hk1
          have hkb : (o.kind == 1) = true := by simpa using hk1
          clear hk1
          go_wp2_with fail
          have HRd0 : Hd (Rd Rep.u8 W0 (fun k => k < w.heap.size) (.slice A3 o.data.length n3) o.data) := ⟨HO.out.2.2.1.stepNo HW.out⟩
          have HD0 : Hd (DiskAt W0 db mb c fs) := ⟨HDk.out.disk.step HW.out (fun _ _ h => h)⟩
          have hw0 : w.heap.size ≤ W0.heap.size := Nat.le_trans HDk.out.step.size HW.out.size
          have hod : o.data.length ≤ 140737488355328 := by have := HO.out.2.2.2.2.2.1; omega
          have hgf : ¬ Foot db mb fs g := fun hf => by have := HDk.out.disk.lt hf; have := HG.out; omega
          have hex : DEx w db mb c (k + 1) W0.drew := ⟨fs, ⟨HD0.out.step (Step.drew No _) (fun _ _ h => h), HDk.out.own, (HDk.out.step.trans' HW.out).trans' (Step.drew No _), Nat.le_succ_of_le HDk.out.few, HDk.out.ok⟩⟩
          go_region_held3 (fun W => W.cell? ⟨g, 1, none⟩ = some (.string o.a) ∧ W.cell? ⟨g, 3, none⟩ = some (.slice A3 o.data.length n3) ∧ DEx w db mb c (k + 1) W) ((refine ⟨?_, ?_, ?_⟩ <;> first | assumption | (simp only [World.cell?_drew]; assumption))) (first | (go_at_call 14; refine (f14_any (F := fun k => k < w.heap.size) _ o.data _ ?_ hod ?_).mono ?_; (exact HRd0.out.stepNo (Step.drew _ _)); (intro k hk; exact Nat.lt_of_lt_of_le hk hw0); rintro e W1 ⟨v', rfl, hv, hfr, hs⟩; have r1 := hs.cell (p := ⟨g, 1, none⟩) (v := .string o.a) (by assumption) (fun h => h); have r3 := hs.cell (p := ⟨g, 3, none⟩) (v := .slice A3 o.data.length n3) (by assumption) (fun h => h); have hst1 : Step No W0 W1 := (Step.drew No W0).trans' hs; have hex1 : DEx w db mb c (k + 1) W1 := DEx.step (by assumption) hs) | (go_at_call 7; refine (law_app HD0.out HDk.out HW.out hst1 HO.out.1 hv hfr).mono ?_; rintro e W2 ⟨n, rfl, hex2, hs2⟩; have r1 := hs2.cell (p := ⟨g, 1, none⟩) (v := .string o.a) (by assumption) hgf; have r3 := hs2.cell (p := ⟨g, 3, none⟩) (v := .slice A3 o.data.length n3) (by assumption) hgf))
          go_wp2_with fail
          go_meet
          exact ⟨by assumption⟩
        · have hb1 : (o.kind == 1) = false := by simpa using hk1
          clear hk1
          have hx0 : DEx w db mb c (k + 1) W0 := ⟨fs, ⟨HDk.out.disk.step HW.out (fun _ _ h => h), HDk.out.own, HDk.out.step.trans' HW.out, Nat.le_succ_of_le HDk.out.few, HDk.out.ok⟩⟩
          have HX0 := Hd.mk hx0
          have HD0 : Hd (DiskAt W0 db mb c fs) := ⟨HDk.out.disk.step HW.out (fun _ _ h => h)⟩
          have hlv : (view fs).length ≤ k := by simpa [view] using HDk.out.few
          have HLV := Hd.mk hlv
          clear hx0 hlv
          by_cases hk2 : o.kind = 2
          · have hb2 : (o.kind == 2) = true := by simpa using hk2
            have HRd0 : Hd (Rd Rep.str W0 (fun k => k < w.heap.size) (.slice A4 o.names.length n4) o.names) := ⟨HO.out.2.2.2.1.stepNo HW.out⟩
            have hon : o.names.length * 8 ≤ 140737488355328 := by have := HO.out.2.2.2.2.2.2; omega
            clear hk2
            go_wp2_with (first | (go_at_call 15; refine (f15_any db mb c fs _ o.names _ HRd0.out HD0.out hon).mono ?_; rintro e W2 ⟨rfl, hp⟩; refine Stop.back ?_))
            have HP : Hd (DEx w db mb c (k + 1) W2) := ⟨by
              obtain ⟨fs2, h2, _⟩ := HDk.out.post rfl HW.out hp (n' := k + 1) (by
                have := HLV.out
                split
                · rw [len_vsyncs]; omega
                · omega) (by
                split
                · exact HDk.out.ok.syncs _
                · exact HDk.out.ok)
              exact ⟨fs2, h2⟩⟩
            clear hp
            refine Stop.go ?_
            go_wp2_with fail
            go_meet
            exact HP
          · have hb2 : (o.kind == 2) = false := by simpa using hk2
            clear hk2
            by_cases hk3 : o.kind = 3
            · have hb3 : (o.kind == 3) = true := by simpa using hk3
              clear hk3
              go_wp2_with (first | (go_at_call 16; refine (f16_any db mb c fs o.a o.b _ HO.out.1 HO.out.2.1 HD0.out).mono ?_; rintro e W2 ⟨rfl, hp⟩; refine Stop.back ?_))
              have HP : Hd (DEx w db mb c (k + 1) W2) := ⟨by
                obtain ⟨fs2, h2, _⟩ := HDk.out.post rfl HW.out hp (n' := k + 1) (by
                  have := HLV.out
                  split
                  · refine Nat.le_trans (len_mput_le _ _ _) (Nat.succ_le_succ ?_)
                    exact Nat.le_trans (List.Sublist.length_le (mdel_sub _ _)) this
                  · omega) (by
                  split
                  · rename_i he; exact HDk.out.ok.ren (renE_ok he)
                  · exact HDk.out.ok)
                exact ⟨fs2, h2⟩⟩
              clear hp
              refine Stop.go ?_
              go_wp2_with fail
              go_meet
              exact HP
            · have hb3 : (o.kind == 3) = false := by simpa using hk3
              clear hk3
              by_cases hk4 : o.kind = 4
              · have hb4 : (o.kind == 4) = true := by simpa using hk4
                have HRd0 : Hd (Rd Rep.str W0 (fun k => k < w.heap.size) (.slice A4 o.names.length n4) o.names) := ⟨HO.out.2.2.2.1.stepNo HW.out⟩
                have hon : o.names.length * 8 ≤ 140737488355328 := by have := HO.out.2.2.2.2.2.2; omega
                have HMB : Hd (∀ k, k < w.heap.size → k ≠ mb) := ⟨fun k hk e => by have := HDk.out.own mb (.inr (.inl rfl)); omega⟩
                clear hk4
                go_wp2_with (first | (go_at_call 17; refine (f17_any db mb c fs _ o.names _ HRd0.out HD0.out hon HMB.out).mono ?_; rintro e W2 ⟨rfl, hp⟩; refine Stop.back ?_))
                have HP : Hd (DEx w db mb c (k + 1) W2) := ⟨by
                  obtain ⟨fs2, h2, _⟩ := HDk.out.post rfl HW.out hp (n' := k + 1) (by
                    have := HLV.out
                    split
                    · have := len_vdels (view fs) o.names; omega
                    · omega) (by
                    split
                    · exact HDk.out.ok.dels _
                    · exact HDk.out.ok)
                  exact ⟨fs2, h2⟩⟩
                clear hp
                refine Stop.go ?_
                go_wp2_with fail
                go_meet
                exact HP
              · have hb4 : (o.kind == 4) = false := by simpa using hk4
                clear hk4
                by_cases hk5 : o.kind = 5
                · have hb5 : (o.kind == 5) = true := by simpa using hk5
                  have HRd0 : Hd (Rd Rep.int W0 (fun k => k < w.heap.size) (.slice A5 o.cuts.length n5) o.cuts) := ⟨HO.out.2.2.2.2.1.stepNo HW.out⟩
                  have hfl : fs.length * 16 ≤ 140737488355328 := by have := HDk.out.few; omega
                  have HFT : Hd (∀ k, k < w.heap.size → ¬ Foot db mb fs k) := ⟨fun k hk hf => by have := HDk.out.own k hf; omega⟩
                  clear hk5
                  go_wp2_with (first | (go_at_call 18; refine (f18_any db mb c fs _ o.cuts _ HRd0.out HD0.out hfl HFT.out).mono ?_; rintro e W2 ⟨rfl, hp⟩; refine Stop.back ?_))
                  have HP : Hd (DEx w db mb c (k + 1) W2) := ⟨by
                    obtain ⟨fs2, h2, _⟩ := HDk.out.post rfl HW.out hp (n' := k + 1) (by
                      have := HLV.out
                      rw [len_vcrs]; omega) (HDk.out.ok.crs _ _)
                    exact ⟨fs2, h2⟩⟩
                  clear hp
                  refine Stop.go ?_
                  go_wp2_with fail
                  go_meet
                  exact HP
                · have hb5 : (o.kind == 5) = false := by simpa using hk5
                  clear hk5
                  go_wp2_with fail
                  go_meet
                  exact HX0
      case rest =>
        obtain ⟨fs', hd'⟩ := hcut.out
        have HDw := Hd.mk hd'
        have hfew : fs'.length * 16 ≤ 140737488355328 := by have := hd'.few; omega
        have hb0 := blk_cell hd'.disk.blk 0
        simp only [List.getElem?_toArray, List.getElem?_cons_zero] at hb0
        clear hd' hcut q0 q1 q2 q3 q4 q5 hp6
        obtain ⟨names, hnm⟩ : ∃ names, names = snames (view fs') := ⟨_, rfl⟩
        have HNM := Hd.mk hnm
        have hnl : names.length ≤ 8796093022208 := by rw [hnm, snames_length]; simp [view]; omega
        clear hnm
        go_wp2_with (first | (go_at_call 19; refine (f19_any mb fs' _ HDw.out.disk.table hfew).mono ?_; rw [← HNM.out]; rintro e w3 ⟨v, rfl, hv, hfr, hs⟩; refine Stop.back ?_))
        obtain ⟨An, cn, rfl, _, _, _⟩ := hv.slice
        have HV := Hd.mk hv
        have HD3 : Hd (DState w w.heap.size db mb c (k + 1) w3 fs') := ⟨⟨HDw.out.disk.step hs (fun _ _ h => h), HDw.out.own, HDw.out.step.trans' hs, HDw.out.few, HDw.out.ok⟩⟩
        clear hv hfr hs hb0
        refine Stop.go ?_
        go_wp2
        go_loopg [9, 10, 86] names.length (fun kq s l i wx => ∃ j : Nat, j ≤ names.length ∧ i = .int .i64 j ∧ s = .int .i64 (lens (view fs') (names.take j)) ∧ l = .string (lastOf names j) ∧ Hd (kq = names.length - j) ∧ Hd (DState w w.heap.size db mb c (k + 1) wx fs') ∧ Hd (RowAt wx 9 1 (.slice An names.length cn) names.length (names.map Value.string)))
        case atStart => exact ⟨0, Nat.zero_le _, rfl, rfl, rfl, ⟨rfl⟩, HD3, HV⟩
        case round =>
          obtain ⟨j, hj, rfl, rfl, rfl, HJ, HDj, HVj⟩ := hrel
          by_cases hltj : j < names.length
          · obtain ⟨g2, c2, he2, _, _, _, hcs⟩ := HVj.out.form (by omega)
            cases he2
            obtain ⟨x, hx⟩ : ∃ x, x = names[j] := ⟨_, rfl⟩
            have hcell := hcs j (.string x) (by rw [List.getElem?_map, hx]; simp)
            have hmem : x ∈ snames (view fs') := by rw [← HNM.out, hx]; exact List.getElem_mem hltj
            have hll := last_lt HDj.out.ok (j := j) (by rw [← HNM.out]; exact hltj)
            simp only [← HNM.out] at hll
            rw [← hx] at hll
            have hb1 := hll.1
            have hb2 := hll.2
            have hsf := safe_le HDj.out.disk HDj.out.ok hmem
            have hls := lens_snoc (view fs') names hltj
            have hle := lens_le (view fs') names (j + 1)
            have htot : lens (view fs') names ≤ 1073741824 := by
              have := lens_snames HDj.out.ok
              rw [HNM.out, this, ← used_view]; exact HDj.out.disk.table.room
            rw [← hx] at hls
            have hlj : lastOf names (j + 1) = x := by unfold lastOf; rw [if_neg (by omega)]; simp [hx, hltj]
            obtain ⟨n1, hn1⟩ : ∃ n1, n1 = (vget (view fs') x).1.length := ⟨_, rfl⟩
            obtain ⟨n2, hn2⟩ : ∃ n2, n2 = (vget (view fs') x).2 := ⟨_, rfl⟩
            obtain ⟨n3, hn3⟩ : ∃ n3, n3 = lens (view fs') (names.take j) := ⟨_, rfl⟩
            rw [← hn1, ← hn2] at hsf
            rw [← hn1, ← hn3] at hls
            rw [← hn3]
            have hq1 : decide ((n2 : Int) < 0) = false := by simp
            have hq2 : decide ((n1 : Int) < n2) = false := by simp; omega
            have hsf1 := hsf.1
            have hsf2 := hsf.2
            have hn3b : n3 + n1 ≤ 1073741824 := by omega
            have HM := Hd.mk hmem
            have H1 := Hd.mk hn1
            have H2 := Hd.mk hn2
            have HLS := Hd.mk hls
            have HLJ := Hd.mk hlj
            clear hcs hx hmem hll hsf hls hle htot hlj hn1 hn2 hn3
            go_wp2_with (first | (go_at_call 9; refine (law_read HDj.out.disk HDj.out.ok HM.out).mono ?_; rw [← H1.out]; rintro e w4 ⟨v, rfl, hr, _, hs⟩; refine Stop.back ?_))
            have HD4 : Hd (DState w w.heap.size db mb c (k + 1) w4 fs') := ⟨⟨HDj.out.disk.step hs (fun _ _ h => h), HDj.out.own, HDj.out.step.trans' hs, HDj.out.few, HDj.out.ok⟩⟩
            have HV4 : Hd (RowAt w4 9 1 (.slice (some ⟨g2, 0, none⟩) names.length cn) names.length (names.map Value.string)) := ⟨HVj.out.stepNo hs⟩
            obtain ⟨A5', c5', rfl, _, _, _⟩ := hr.slice
            clear hr hs hcell
            refine Stop.go ?_
            go_wp2_with (first | (go_at_call 10; refine (law_safe HD4.out.disk HD4.out.ok HM.out).mono ?_; rw [← H2.out]; rintro e w5 ⟨rfl, hs⟩; refine Stop.back ?_))
            have HD5 : Hd (DState w w.heap.size db mb c (k + 1) w5 fs') := ⟨⟨HD4.out.disk.step hs (fun _ _ h => h), HD4.out.own, HD4.out.step.trans' hs, HD4.out.few, HD4.out.ok⟩⟩
            have HV5 : Hd (RowAt w5 9 1 (.slice (some ⟨g2, 0, none⟩) names.length cn) names.length (names.map Value.string)) := ⟨HV4.out.stepNo hs⟩
            clear hs
            refine Stop.go ?_
            go_wp2
            go_roundg (names.length - (j + 1))
            case measure => have := HJ.out; omega
            case rel => exact ⟨j + 1, by omega, by go_num, by rw [HLS.out]; congr 1, by rw [HLJ.out], ⟨rfl⟩, HD5, HV5⟩
          · obtain rfl : j = names.length := by omega
            have htot : lens (view fs') (names.take names.length) = used fs' := by
              rw [List.take_length, HNM.out, lens_snames HDj.out.ok, used_view]
            rw [htot]
            have hfit := HDj.out.disk.fits
            have hroom : used fs' ≤ 1073741824 := HDj.out.disk.table.room
            have hb0 := blk_cell HDj.out.disk.blk 0
            simp only [List.getElem?_toArray, List.getElem?_cons_zero] at hb0
            have hq : decide (c < (used fs' : Int)) = false := by simp; omega
            clear htot
            go_wp2_with (first | (go_at_call 20; refine (f20_any mb fs' _ HDj.out.disk.table).mono ?_; rintro e w6 ⟨rfl, hs⟩; refine Stop.back ?_))
            have HD6 : Hd (DState w w.heap.size db mb c (k + 1) w6 fs') := ⟨⟨HDj.out.disk.step hs (fun _ _ h => h), HDj.out.own, HDj.out.step.trans' hs, HDj.out.few, HDj.out.ok⟩⟩
            clear hs hb0
            refine Stop.go ?_
            go_wp2
            go_roundg (ops.length - (k + 1))
            case measure => have := HK.out; omega
            case rel => exact ⟨k + 1, fs', by omega, by go_num, ⟨rfl⟩, HD6⟩
    · obtain rfl : k = ops.length := by omega
      go_wp2_with (first | (go_at_call 12; refine (f12_any _).mono ?_; rintro e w2 ⟨rfl, hs⟩; refine Stop.back ?_))
      have HS := Hd.mk (HDk.out.step.trans' hs)
      clear hs
      refine Stop.go ?_
      go_wp2
      go_ret
      exact ⟨rfl, HS.out⟩
theorem f4_any (c : Int) (sv : Value) (ops : List OpR) (w : World) (h : Rd Rep.op w (fun k => k < w.heap.size) sv ops) (hsz : ∀ o ∈ ops, OpSz o) (hlen : ops.length * 16 ≤ 140737488351232) :
    Calls Try.prog 4 #[.int .i64 c, sv] w fun e w' => e = .returned (.bool true) ∧ Step No w w' := by
  by_cases h0 : c < 0
  · exact f4_bad c sv w (.inl h0)
  · by_cases h1 : 1073741824 < c
    · exact f4_bad c sv w (.inr h1)
    · exact f4_good c sv ops w (by omega) (by omega) h hsz hlen
end Go.Proofs.Ytmflfimenacflaa

/- The walk of the law DiskPlays. -/
import Derived.Test.YtmflfimenacflaaR18
import Derived.Deep.CutBlock
set_option linter.unusedVariables false
set_option linter.unusedSimpArgs false
namespace Go.Proofs.Ytmflfimenacflaa
open Go Go.RowKit Gb
set_option maxRecDepth 100000 in
theorem f5_bad (c : Int) (sv : Value) (w : World) (hc : c < 0 ∨ 1073741824 < c) :
    Calls Try.prog 5 #[.int .i64 c, sv] w fun e w' => e = .returned (.bool true) ∧ Step No w w' := by
  rcases hc with h | h
  · go_enter Try.func5, Try.ntmps5
    go_wp2_with (first | (go_at_call 6; refine (f6_bad c _ (.inl h)).mono ?_; rintro e w1 ⟨rfl, rfl⟩) | (go_at_call 12; refine (f12_any _).mono ?_; rintro e w2 ⟨rfl, hs⟩; refine Stop.back ?_))
    have HS := Hd.mk hs
    clear hs
    refine Stop.go ?_
    go_wp2
    go_ret
    exact ⟨rfl, HS.out⟩
  · have h' : ¬ c < 0 := by omega
    have hb : decide (c < 0) = false := by simpa using h'
    go_enter Try.func5, Try.ntmps5
    go_wp2_with (first | (go_at_call 6; refine (f6_bad c _ (.inr h)).mono ?_; rintro e w1 ⟨rfl, rfl⟩) | (go_at_call 12; refine (f12_any _).mono ?_; rintro e w2 ⟨rfl, hs⟩; refine Stop.back ?_))
    have HS := Hd.mk hs
    clear hs
    refine Stop.go ?_
    go_wp2
    go_ret
    exact ⟨rfl, HS.out⟩
def OpSz2 (o : OpR) : Prop := o.data.length ≤ 140737488351232 ∧ o.names.length * 16 ≤ 140737488351232 ∧ o.cuts.length * 8 ≤ 140737488351232
theorem RowAt.same {w w' : World} {e : TypeId} {size n : Nat} {v : Value} {xs : List Value} (h : RowAt w e size v n xs) (hb : ∀ k, Own v k → w'.heap[k]? = w.heap[k]?) : RowAt w' e size v n xs := by
  refine ⟨h.1, ?_⟩
  rcases h.2 with h0 | ⟨g, cap, cur, rfl, hh, r⟩
  · exact .inl h0
  · exact .inr ⟨g, cap, cur, rfl, (hb g rfl).trans hh, r⟩
def PEx (w : World) (db xb : Nat) (c : Int) (n : Nat) (W : World) : Prop := ∃ mb fs sv rs, PState w db mb xb c n W fs sv rs
theorem Fin.ex {w W0 W : World} {db mb xb : Nat} {c : Int} {n : Nat} {K : Nat → Prop} (h : Fin w db mb xb c n K W0 W) : PEx w db xb c n W := by
  obtain ⟨⟨fs, sv, rs, h, _⟩, _⟩ := h
  exact ⟨_, _, _, _, h⟩
theorem PState.clone {w wo W0 W1 : World} {db mb xb db' mb' k : Nat} {c : Int} {fs fs2 : Files} {sv : Value} {rs : List RF} (h : PState w db mb xb c k wo fs sv rs) (h0 : Step No wo W0) (hd : DiskAt W1 db' mb' c fs2) (hp : (view fs2).Perm (view fs)) (hf : ∀ k, Foot db' mb' fs2 k → W0.heap.size ≤ k) (hs : Step No W0 W1) : PState w db' mb' xb c k W1 fs2 sv rs := by
  have hb := h.both.no (h0.trans' hs)
  refine ⟨⟨hd, hb.ref, fun j hj => ?_, hb.rOwn, fun j hj hr => ?_, hb.step⟩, h.cpl.perm' hp.symm, ⟨fun p hp2 => h.ok.1 p (hp.mem_iff.1 hp2), (hp.map _).nodup_iff.2 h.ok.2⟩, ?_⟩
  · have := hf j hj
    have := h0.size
    have := h.both.step.size
    omega
  · have := hf j hj
    have := h0.size
    have := h.both.ref.lt hr
    omega
  · have := hp.length_eq
    have := h.few
    simp [view] at *
    omega
/-- what the old disk still does leaves the new state as it is -/
theorem PState.old {w wo W0 W1 W2 W3 : World} {db mb xb db' mb' k : Nat} {c : Int} {fs fs2 : Files} {sv : Value} {rs : List RF} {V' : View} (h : PState w db mb xb c k wo fs sv rs) (h0 : Step No wo W0) (hf : ∀ k, Foot db' mb' fs2 k → W0.heap.size ≤ k) (hs : Step No W0 W1) (hn : PState w db' mb' xb c k W1 fs2 sv rs)
    (h12 : Step No W1 W2) (hp : DiskPost db mb c fs W2 W3 V') : PState w db' mb' xb c k W3 fs2 sv rs ∧ ∃ fs3, DiskAt W3 db mb c fs3 ∧ view fs3 = V' ∧ (∀ j, Foot db mb fs3 j → Foot db mb fs j ∨ W2.heap.size ≤ j) ∧ W2.heap.size ≤ W3.heap.size := by
  obtain ⟨fs3, hd3, hv3, hs3, hf3⟩ := hp
  refine ⟨(hn.no h12).off hs3 (fun j hj hF => ?_) (fun j hj hr => h.both.apart j hj hr) (fun j hj => h.both.dOwn j hj), fs3, hd3, hv3, hf3, hs3.size⟩
  have h1 := hf j hF
  have h2 := h.both.disk.lt hj
  have h3 := h0.size
  omega
theorem PState.older {w wo W0 W1 W2 W3 W4 : World} {db mb xb db' mb' k : Nat} {c : Int} {fs fs2 fs3 : Files} {sv : Value} {rs : List RF} {V' : View} (h : PState w db mb xb c k wo fs sv rs) (h0 : Step No wo W0) (hf : ∀ k, Foot db' mb' fs2 k → W0.heap.size ≤ k) (hs : Step No W0 W1) (hn1 : PState w db' mb' xb c k W1 fs2 sv rs) (hn : PState w db' mb' xb c k W3 fs2 sv rs)
    (h12 : W1.heap.size ≤ W2.heap.size) (hf3 : ∀ j, Foot db mb fs3 j → Foot db mb fs j ∨ W2.heap.size ≤ j) (hp : DiskPost db mb c fs3 W3 W4 V') : PState w db' mb' xb c k W4 fs2 sv rs := by
  obtain ⟨fs4, hd4, hv4, hs4, hf4⟩ := hp
  refine hn.off hs4 (fun j hj hF => ?_) (fun j hj hr => ?_) (fun j hj => ?_)
  · rcases hf3 j hj with h1 | h1
    · have h1' := hf j hF
      have h2 := h.both.disk.lt h1
      have h3 := h0.size
      omega
    · have := hn1.both.disk.lt hF
      omega
  · rcases hf3 j hj with h1 | h1
    · exact h.both.apart j h1 hr
    · have := hn1.both.ref.lt hr
      omega
  · rcases hf3 j hj with h1 | h1
    · exact h.both.dOwn j h1
    · have := hn1.both.step.size
      omega
set_option maxRecDepth 100000 in
set_option maxHeartbeats 8000000 in
theorem f5_good (c : Int) (sv : Value) (ops : List OpR) (w : World) (h0 : 0 ≤ c) (h1 : c ≤ 1073741824) (h : Rd Rep.op w (fun k => k < w.heap.size) sv ops) (hsz : ∀ o ∈ ops, OpSz2 o) (hlen : ops.length * 112 ≤ 140737488351232) :
    Calls Try.prog 5 #[.int .i64 c, sv] w fun e w' => e = .returned (.bool true) ∧ Step No w w' := by
  obtain ⟨A, cp, rfl, _, _, _⟩ := h.slice
  have HR := Hd.mk h
  have HSZ := Hd.mk hsz
  clear h hsz
  go_enter Try.func5, Try.ntmps5
  go_wp2_with (first | (go_at_call 6; refine (f6_good c _ h0 h1).mono ?_; rintro e w1 ⟨rfl, hd, hs, hz⟩; refine Stop.back ?_))
  obtain ⟨db, hdb⟩ : ∃ db, db = w.heap.size + 1 := ⟨_, rfl⟩
  obtain ⟨mb, hmb⟩ : ∃ mb, mb = w.heap.size := ⟨_, rfl⟩
  obtain ⟨xb, hxb⟩ : ∃ xb, xb = w1.heap.size := ⟨_, rfl⟩
  rw [← hdb, ← hmb] at hd
  rw [← hdb]
  obtain ⟨w2, hw2⟩ : ∃ w2, w2 = w1.alloc (.cells #[.int .i64 c, .slice none 0 0] 30) := ⟨_, rfl⟩
  have hst : Step No w1 w2 := by rw [hw2]; exact Step.alloc _ _ _
  have hblk : w2.heap[xb]? = some (.cells #[.int .i64 c, .slice none 0 0] 30 (0, 0)) := by rw [hw2, hxb]; exact blk_new w1 _
  have HS0 : Hd (PState w db mb xb c 0 w2 [] (.slice none 0 0) []) := ⟨⟨⟨hd.step hst (fun _ _ h => h), ⟨hblk, RowAt.nil _ _ _, (fun _ h => by cases h), (fun _ h => by cases h), h0, h1, by simpa [rused] using h0⟩, (by
    rintro k (rfl | rfl | ⟨p, hp, _⟩)
    · omega
    · omega
    · cases hp), (by
    rintro k (rfl | hk | ⟨p, hp, _⟩)
    · rw [hxb]; omega
    · cases hk
    · cases hp), (by
    rintro k (rfl | rfl | ⟨p, hp, _⟩) hr
    · rcases hr with hr | hr | ⟨p, hp, _⟩
      · omega
      · cases hr
      · cases hp
    · rcases hr with hr | hr | ⟨p, hp, _⟩
      · omega
      · cases hr
      · cases hp
    · cases hp), hs.trans' hst⟩, Cpl.nil, ⟨by simp [view], by simp [view]⟩, Nat.le_refl _⟩⟩
  clear hd hs hz hdb hmb hst hblk
  refine Stop.go ?_
  go_wp2
  rw [← hw2, ← hxb]
  clear hw2 hxb
  go_loopg [5, 44] ops.length (fun kq dv i wr => ∃ (k db mb : Nat) (fs : Files) (sv : Value) (rs : List RF), k ≤ ops.length ∧ dv = .pointer (some ⟨db, 0, none⟩) ∧ i = .int .i64 k ∧ Hd (kq = ops.length - k) ∧ Hd (PState w db mb xb c k wr fs sv rs))
  case atStart => exact ⟨0, db, mb, [], _, [], Nat.zero_le _, rfl, rfl, ⟨rfl⟩, HS0⟩
  case round =>
    obtain ⟨k, db, mb, fs, sv, rs, hk, rfl, rfl, HK, HDk⟩ := hrel
    by_cases hlt : k < ops.length
    · obtain ⟨ad, b, off, cs, rfl, hbF, hp, hcs, hcell⟩ := HR.out.cellsAt hlt (by decide)
      obtain ⟨o, ho⟩ : ∃ o, o = ops[k] := ⟨_, rfl⟩
      rw [← ho] at hcs
      obtain ⟨v3, v4, v5, rfl, hkk, ha, hb, h3, h4, h5⟩ := Rep.op_open hcs
      have hsz := HSZ.out o (by rw [ho]; exact List.getElem_mem hlt)
      have hstw := HDk.out.both.step
      have q0 := hstw.cell (hcell 0 _ rfl) (fun h => h)
      have q1 := hstw.cell (hcell 1 _ rfl) (fun h => h)
      have q2 := hstw.cell (hcell 2 _ rfl) (fun h => h)
      have q3 := hstw.cell (hcell 3 _ rfl) (fun h => h)
      have q4 := hstw.cell (hcell 4 _ rfl) (fun h => h)
      have q5 := hstw.cell (hcell 5 _ rfl) (fun h => h)
      simp only [Nat.add_zero] at q0
      have hp6 : ad.add (k * 6) = ⟨b, off, none⟩ := hp
      obtain ⟨A3, n3, rfl, _, _, _⟩ := h3.slice
      obtain ⟨A4, n4, rfl, _, _, _⟩ := h4.slice
      obtain ⟨A5, n5, rfl, _, _, _⟩ := h5.slice
      have HO := Hd.mk (And.intro ha (And.intro hb (And.intro h3 (And.intro h4 (And.intro h5 hsz)))))
      clear hcs hcell hp ho ha hb h3 h4 h5 hsz hkk hstw
      obtain ⟨wo, rfl⟩ : ∃ wo : World, wo = wr := ⟨_, rfl⟩
      go_upto_block 2 with (fail)
      obtain ⟨g, hg⟩ : ∃ g, g = wo.heap.size := ⟨_, rfl⟩
      rw [← hg]
      have HG := Hd.mk hg
      clear hg
      go_cut [5] (fun v wx => ∃ db', v = .pointer (some ⟨db', 0, none⟩) ∧ Hd (PEx w db' xb c (k + 1) wx))
      case first =>
        have p0 := blk_new wo (.cells #[.int .i64 o.kind, .string o.a, .string o.b, .slice A3 o.data.length n3, .slice A4 o.names.length n4, .slice A5 o.cuts.length n5] 48)
        have HW : Hd (Step No wo (wo.alloc (.cells #[.int .i64 o.kind, .string o.a, .string o.b, .slice A3 o.data.length n3, .slice A4 o.names.length n4, .slice A5 o.cuts.length n5] 48))) := ⟨Step.alloc _ _ _⟩
        generalize (wo.alloc (.cells #[.int .i64 o.kind, .string o.a, .string o.b, .slice A3 o.data.length n3, .slice A4 o.names.length n4, .slice A5 o.cuts.length n5] 48)) = W0 at p0 HW ⊢
        rw [← HG.out] at p0
        clear q0 q1 q2 q3 q4 q5 hp6
        have P0 := Hd.mk p0
        have p1 := blk_cell p0 1
        have p2 := blk_cell p0 2
        have p3 := blk_cell p0 3
        have p4 := blk_cell p0 4
        have p5 := blk_cell p0 5
        simp only [List.getElem?_toArray, List.getElem?_cons_zero, List.getElem?_cons_succ] at p1 p2 p3 p4 p5
        have HKN : Hd (New (fun j => j = g) wo W0) := ⟨fun b hb => by
          subst hb
          have := lt_of_blk p0
          have := HG.out
          exact ⟨by omega, by omega⟩⟩
        have hkb : k ≤ 1300000000000 := by omega
        have hof : Hd (o.data.length ≤ 140737488355328 ∧ o.names.length * 8 ≤ 140737488355328 ∧ o.cuts.length * 8 ≤ 140737488355328) := ⟨by
          obtain ⟨_, _, _, _, _, z1, z2, z3⟩ := HO.out
          exact ⟨by omega, by omega, by omega⟩⟩
        have HCell : Hd (∀ (K : Nat → Prop) (W1 W : World), K g → W1.heap[g]? = W0.heap[g]? → (∀ b, K b → W.heap[b]? = W1.heap[b]?) → ∀ i, W.cell? ⟨g, i, none⟩ = W0.cell? ⟨g, i, none⟩) := ⟨fun K W1 W hK h1 h i => World.cell?_of_block (by show W.heap[g]? = _; rw [h g hK, h1])⟩
        clear p0
        by_cases hk1 : o.kind = 1
        · have hb1 : (o.kind == 1) = true := by simpa using hk1
          clear hk1
          have h3r := HO.out.2.2.1
          have H14 : Hd (Calls Try.prog 14 #[.slice A3 o.data.length n3] W0 fun e w' => ∃ A6 c6, e = .returned (.slice A6 o.data.length c6) ∧ RowAt w' 5 1 (.slice A6 o.data.length c6) o.data.length (o.data.map Gb.u8) ∧ Fresh W0 (.slice A6 o.data.length c6) ∧ Step No W0 w') := ⟨by
            refine (f14_any _ o.data W0 (h3r.stepNo (HDk.out.both.step.trans' HW.out)) hof.out.1 (fun j hj => Nat.lt_of_lt_of_le hj (HDk.out.both.step.trans' HW.out).size)).mono ?_
            rintro e w' ⟨v', rfl, h1, h2, h3⟩
            obtain ⟨A6, c6, rfl, _⟩ := h1.slice
            exact ⟨A6, c6, rfl, h1, h2, h3⟩⟩
          have HR3 := Hd.mk h3r
          clear h3r
          go_wp2_with (first | (go_at_call 14; refine H14.out.mono ?_; rintro e w1 ⟨A6, c6, rfl, hv6, hf6, hs6⟩; refine Stop.back ?_))
          have hK1 : New (fun j => j = g ∨ Own (.slice A6 o.data.length c6) j) wo w1 := fun b hb => by
            rcases hb with hb | hb
            · have := HKN.out b hb
              have := hs6.size
              exact ⟨by omega, by omega⟩
            · have := hf6 b hb
              have := HW.out.size
              exact ⟨by omega, hv6.lt hb⟩
          obtain ⟨ev, V', hp1, hp2⟩ := pair_app (K := fun j => j = g ∨ Own (.slice A6 o.data.length c6) j) (W0 := w1) HDk.out (HW.out.trans' hs6) hK1 hkb HO.out.1 hof.out.1 HR3.out hv6 (fun j hj => by have := hf6 j hj; have := HW.out.size; omega)
          have HP1 := Hd.mk hp1
          have HP2 := Hd.mk hp2
          have HV6 := Hd.mk hv6
          have HGk : Hd (w1.heap[g]? = W0.heap[g]?) := ⟨hs6.block g (HKN.out g rfl).2 (fun h => h)⟩
          have r1 := hs6.cell p1 (fun h => h)
          have r3 := hs6.cell p3 (fun h => h)
          have HF6 : Hd (∀ j, Own (.slice A6 o.data.length c6) j → w.heap.size ≤ j) := ⟨fun j hj => by have := hf6 j hj; have := HW.out.size; have := HDk.out.both.step.size; omega⟩
          clear hv6 hf6 hs6 hK1 hp1 hp2
          refine Stop.go ?_
          go_upto_region 13 with (fail)
          go_region_held3 (fun W => W.cell? ⟨g, 1, none⟩ = some (.string o.a) ∧ W.cell? ⟨g, 3, none⟩ = some (.slice A3 o.data.length n3)) ((refine ⟨?_, ?_⟩ <;> first | assumption | (simp only [World.cell?_drew]; assumption))) (first | (go_at_call 7; refine (HP1.out _ ?_).mono ?_; (first | exact Step.refl No _ | exact Step.drew No _); rintro e w3 ⟨rfl, hm, hz⟩; have k1 := (HCell.out (fun j => j = g ∨ Own (.slice A6 o.data.length c6) j) w1 _ (.inl rfl) HGk.out hm.2 1).trans p1; have k3 := (HCell.out (fun j => j = g ∨ Own (.slice A6 o.data.length c6) j) w1 _ (.inl rfl) HGk.out hm.2 3).trans p3) | (go_at_call 8; refine (HP2.out _ ?_ ?_).mono ?_; assumption; assumption; rintro e w4 ⟨rfl, hf⟩; have k1' := (HCell.out (fun j => j = g ∨ Own (.slice A6 o.data.length c6) j) w1 _ (.inl rfl) HGk.out hf.2 1).trans p1; have k3' := (HCell.out (fun j => j = g ∨ Own (.slice A6 o.data.length c6) j) w1 _ (.inl rfl) HGk.out hf.2 3).trans p3))
          obtain ⟨⟨fs4, sv4, rs4, hps, hoff⟩, hkeep⟩ := hf
          have HT4 : Hd (TailAt w4 (.slice A6 o.data.length c6) o.data.length o.data 0) := ⟨TailAt.of (RowAt.same HV6.out (fun j hj => hkeep j (.inr hj)))⟩
          have HPS := Hd.mk hps
          have HOff : Hd (∀ b, Own (.slice A6 o.data.length c6) b → ¬ Foot db mb fs4 b ∧ ¬ RFoot xb sv4 rs4 b) := ⟨fun b hb => hoff b (.inr hb)⟩
          clear hm hz hps hoff hkeep k1 k3 k1' k3' r1 r3
          obtain ⟨L, hL⟩ : ∃ L, L = o.data.length := ⟨_, rfl⟩
          have hLb : L ≤ 140737488355328 := by rw [hL]; exact hof.out.1
          rw [← hL] at HT4 HOff HF6 ⊢
          have HLD : Hd (o.data.length = L) := ⟨hL.symm⟩
          clear hL
          go_wp2_with fail
          go_loopg [69] L (fun kq i wx => ∃ j : Nat, j ≤ L ∧ i = .int .i64 j ∧ Hd (kq = L - j) ∧ Hd (PState w db mb xb c (k + 1) wx fs4 sv4 rs4) ∧ Hd (TailAt wx (.slice A6 L c6) L o.data j))
          case atStart => exact ⟨0, Nat.zero_le _, rfl, ⟨rfl⟩, HPS, HT4⟩
          case round =>
            obtain ⟨j, hj, rfl, HJ, HSj, HTj⟩ := hrel
            by_cases hltj : j < L
            · obtain ⟨g8, rfl, hcj, hfj, hnext⟩ := HTj.out.at hltj HLD.out
              obtain ⟨bj, hbj⟩ : ∃ bj, bj = (o.data[j]'(by rw [HLD.out]; exact hltj)).toNat := ⟨_, rfl⟩
              rw [← hbj] at hcj
              have HNext := Hd.mk hnext
              clear hbj hnext
              go_wp2
              go_roundg (L - (j + 1))
              case measure => have := HJ.out; omega
              case rel =>
                obtain ⟨h1, h2⟩ := HNext.out _
                exact ⟨j + 1, by omega, by go_num, ⟨rfl⟩, ⟨HSj.out.off h2 (fun i hi => (HOff.out i hi).1) (fun i hi => (HOff.out i hi).2) (fun i hi => HF6.out i hi)⟩, ⟨h1⟩⟩
            · obtain rfl : j = L := by omega
              have HF : Hd (PEx w db xb c (k + 1) _) := ⟨⟨mb, fs4, sv4, rs4, HSj.out⟩⟩
              go_wp2_with fail
              go_meet
              exact ⟨db, rfl, HF⟩
        · have hb1 : (o.kind == 1) = false := by simpa using hk1
          clear hk1
          by_cases hk2 : o.kind = 2
          · have hb2 : (o.kind == 2) = true := by simpa using hk2
            obtain ⟨ev, V', hp1, hp2⟩ := pair_sync (K := fun j => j = g) HDk.out HW.out HKN.out hof.out.2.1 HO.out.2.2.2.1
            have HP1 := Hd.mk hp1
            have HP2 := Hd.mk hp2
            clear hk2 hp1 hp2
            go_upto_region 21 with (fail)
            go_region_held3 (fun W => W.cell? ⟨g, 4, none⟩ = some (.slice A4 o.names.length n4)) (first | assumption | (simp only [World.cell?_drew]; assumption)) (first | (go_at_call 15; refine (HP1.out _ ?_).mono ?_; (first | exact Step.refl No _ | exact Step.drew No _); rintro e w1 ⟨rfl, hm, hz⟩; have k4 := (HCell.out (fun j => j = g) W0 _ rfl rfl hm.2 4).trans p4) | (go_at_call 21; refine (HP2.out _ ?_ ?_).mono ?_; assumption; assumption; rintro e w2 ⟨rfl, hf⟩; have k4' := (HCell.out (fun j => j = g) W0 _ rfl rfl hf.2 4).trans p4))
            have HF := Hd.mk hf.ex
            clear hf hm hz
            go_wp2_with fail
            go_meet
            exact ⟨db, rfl, HF⟩
          · have hb2 : (o.kind == 2) = false := by simpa using hk2
            clear hk2
            by_cases hk3 : o.kind = 3
            · have hb3 : (o.kind == 3) = true := by simpa using hk3
              obtain ⟨ev, V', hp1, hp2⟩ := pair_ren (K := fun j => j = g) HDk.out HW.out HKN.out hkb HO.out.1 HO.out.2.1
              have HP1 := Hd.mk hp1
              have HP2 := Hd.mk hp2
              clear hk3 hp1 hp2
              go_upto_region 24 with (fail)
              go_region_held3 (fun W => W.cell? ⟨g, 1, none⟩ = some (.string o.a) ∧ W.cell? ⟨g, 2, none⟩ = some (.string o.b)) ((refine ⟨?_, ?_⟩ <;> first | assumption | (simp only [World.cell?_drew]; assumption))) (first | (go_at_call 16; refine (HP1.out _ ?_).mono ?_; (first | exact Step.refl No _ | exact Step.drew No _); rintro e w1 ⟨rfl, hm, hz⟩; have k1 := (HCell.out (fun j => j = g) W0 _ rfl rfl hm.2 1).trans p1; have k2 := (HCell.out (fun j => j = g) W0 _ rfl rfl hm.2 2).trans p2) | (go_at_call 22; refine (HP2.out _ ?_ ?_).mono ?_; assumption; assumption; rintro e w2 ⟨rfl, hf⟩; have k1' := (HCell.out (fun j => j = g) W0 _ rfl rfl hf.2 1).trans p1; have k2' := (HCell.out (fun j => j = g) W0 _ rfl rfl hf.2 2).trans p2))
              have HF := Hd.mk hf.ex
              clear hf hm hz
              go_wp2_with fail
              go_meet
              exact ⟨db, rfl, HF⟩
            · have hb3 : (o.kind == 3) = false := by simpa using hk3
              clear hk3
              by_cases hk4 : o.kind = 4
              · have hb4 : (o.kind == 4) = true := by simpa using hk4
                obtain ⟨ev, V', hp1, hp2⟩ := pair_rem (K := fun j => j = g) HDk.out HW.out HKN.out hkb hof.out.2.1 HO.out.2.2.2.1
                have HP1 := Hd.mk hp1
                have HP2 := Hd.mk hp2
                clear hk4 hp1 hp2
                go_upto_region 27 with (fail)
                go_region_held3 (fun W => W.cell? ⟨g, 4, none⟩ = some (.slice A4 o.names.length n4)) (first | assumption | (simp only [World.cell?_drew]; assumption)) (first | (go_at_call 17; refine (HP1.out _ ?_).mono ?_; (first | exact Step.refl No _ | exact Step.drew No _); rintro e w1 ⟨rfl, hm, hz⟩; have k4 := (HCell.out (fun j => j = g) W0 _ rfl rfl hm.2 4).trans p4) | (go_at_call 23; refine (HP2.out _ ?_ ?_).mono ?_; assumption; assumption; rintro e w2 ⟨rfl, hf⟩; have k4' := (HCell.out (fun j => j = g) W0 _ rfl rfl hf.2 4).trans p4))
                have HF := Hd.mk hf.ex
                clear hf hm hz
                go_wp2_with fail
                go_meet
                exact ⟨db, rfl, HF⟩
              · have hb4 : (o.kind == 4) = false := by simpa using hk4
                clear hk4
                by_cases hk5 : o.kind = 5
                · have hb5 : (o.kind == 5) = true := by simpa using hk5
                  clear hk5
                  have h5r := HO.out.2.2.2.2.1
                  have HI : Hd (∀ x ∈ o.cuts, I64 x) := ⟨Rd.all h5r⟩
                  have H24 : Hd (Calls Try.prog 24 #[.slice A5 o.cuts.length n5] W0 fun e w' => ∃ A6 c6, e = .returned (.slice A6 o.cuts.length c6) ∧ RowAt w' 3 1 (.slice A6 o.cuts.length c6) o.cuts.length (o.cuts.map (Value.int .i64)) ∧ Fresh W0 (.slice A6 o.cuts.length c6) ∧ Step No W0 w') := ⟨by
                    refine (f24_any _ o.cuts W0 (h5r.stepNo (HDk.out.both.step.trans' HW.out)) hof.out.2.2).mono ?_
                    rintro e w' ⟨v', rfl, h1, h2, h3⟩
                    obtain ⟨A6, c6, rfl, _⟩ := h1.slice
                    exact ⟨A6, c6, rfl, h1, h2, h3⟩⟩
                  have HR5 := Hd.mk h5r
                  clear h5r
                  go_wp2_with (first | (go_at_call 24; refine H24.out.mono ?_; rintro e w1 ⟨A6, c6, rfl, hv6, hf6, hs6⟩; refine Stop.back ?_))
                  have hK1 : New (fun j => j = g) wo w1 := fun b hb => by
                    have := HKN.out b hb
                    have := hs6.size
                    exact ⟨by omega, by omega⟩
                  have hc18 := crash_disk (K := fun j => j = g) HDk.out (HW.out.trans' hs6) hK1 hkb hv6 HI.out (fun j hj => by have := hf6 j hj; have := HW.out.size; omega) (Step.refl No w1)
                  have h25 := fun W hm hz => crash_ref (K := fun j => j = g) (W0 := w1) (W := W) HDk.out hK1 hkb HR5.out hm hz
                  have H18 := Hd.mk hc18
                  have H25 := Hd.mk h25
                  have HGk : Hd (w1.heap[g]? = W0.heap[g]?) := ⟨hs6.block g (HKN.out g rfl).2 (fun h => h)⟩
                  clear hv6 hf6 hs6 hK1 hc18 h25
                  refine Stop.go ?_
                  go_wp2_with (first | (go_at_call 18; refine H18.out.mono ?_; rintro e w2 ⟨rfl, hm, hz⟩; refine Stop.back ?_))
                  have k5 := (HCell.out (fun j => j = g) w1 _ rfl HGk.out hm.2 5).trans p5
                  have HM := Hd.mk hm
                  have HZ := Hd.mk hz
                  clear hm hz
                  refine Stop.go ?_
                  go_wp2_with (first | (go_at_call 25; refine (H25.out _ HM.out HZ.out).mono ?_; rintro e w3 ⟨rfl, hf⟩; refine Stop.back ?_))
                  have HF := Hd.mk hf.ex
                  clear hf
                  refine Stop.go ?_
                  go_wp2_with fail
                  go_meet
                  exact ⟨db, rfl, HF⟩
                · have hb5 : (o.kind == 5) = false := by simpa using hk5
                  clear hk5
                  by_cases hk6 : o.kind = 6
                  · have hb6 : (o.kind == 6) = true := by simpa using hk6
                    clear hk6
                    have hcv := fun (w : World) (C : Array Value) (n c : Nat) => Lib.run_convert_bytes_const (P := Try.prog) w 32 5 C n c Try.underlying32 Try.underlying5
                    have H26 := Hd.mk (f26_any db mb c fs W0 (HDk.out.no HW.out).both.disk)
                    go_wp2_with (first | (go_at_call 26; refine H26.out.mono ?_; rintro e w1 ⟨db', mb', fs2, rfl, hd2, hp2, hf2, hs2⟩; refine Stop.back ?_))
                    have hps := HDk.out.clone HW.out hd2 hp2 hf2 hs2
                    have HPS := Hd.mk hps
                    have HF2 := Hd.mk hf2
                    have HS2 := Hd.mk hs2
                    clear hd2 hp2 hf2 hs2 hps
                    refine Stop.go ?_
                    go_upto_region 37 with (fail)
                    have hd1 : DiskAt (w1.alloc (.cells #[.int .u8 122] 5 (1, 2))) db mb c fs := (HDk.out.no HW.out).both.disk.step (HS2.out.trans' (Step.alloc No w1 _)) (fun _ _ h => h)
                    have hb1' := (HDk.out.no HW.out).both.disk.step HS2.out (fun _ _ h => h)
                    have h7 := f7_any (F := fun k => k = w1.heap.size) db mb c fs ⟨#[122]⟩ (.slice (some ⟨w1.heap.size, 0, none⟩) 1 1) [122] (w1.alloc (.cells #[.int .u8 122] 5 (1, 2))) (by unfold StrOk; decide) (rd_lit8 w1 [122] (by decide) #[.int .u8 122] (1, 2) rfl) hd1 (fun j hj hf => by have := hb1'.lt hf; omega)
                    have H7 := Hd.mk h7
                    clear hd1 hb1' h7
                    go_wp2_with (first | (go_at_call 7; refine H7.out.mono ?_; rintro e w3 ⟨rfl, hp3⟩; refine Stop.back ?_))
                    obtain ⟨hps3, fs3, hd3, hv3, hf3, hz3⟩ := HDk.out.old HW.out HF2.out HS2.out HPS.out (Step.alloc No w1 (.cells #[.int .u8 122] 5 (1, 2))) hp3
                    have hfl3 : fs3.length ≤ k + 1 := by
                      have h1 := len_of_view hv3
                      have h2 : (view fs).length ≤ k := by have := HDk.out.few; simpa [view] using this
                      rw [h1]
                      split
                      · exact Nat.le_trans (len_mput_le _ _ _) (Nat.succ_le_succ h2)
                      · omega
                    have H18 := Hd.mk (f18_any (F := fun _ => False) db mb c fs3 (.slice none 0 0) [] w3 (Rd.nil _ _ _) hd3 (by omega) (fun _ h => h.elim))
                    have HP3 := Hd.mk hps3
                    have HF3 := Hd.mk hf3
                    clear hp3 hps3 hd3 hv3 hf3 hz3 hfl3
                    refine Stop.go ?_
                    go_wp2_with (first | (go_at_call 18; refine H18.out.mono ?_; rintro e w4 ⟨rfl, hp4⟩; refine Stop.back ?_))
                    have hps4 := HDk.out.older HW.out HF2.out HS2.out HPS.out HP3.out (by simp) HF3.out hp4
                    have HF : Hd (PEx w db' xb c (k + 1) w4) := ⟨⟨mb', fs2, sv, rs, hps4.both, hps4.cpl, hps4.ok, Nat.le_succ_of_le hps4.few⟩⟩
                    clear hp4 hps4
                    refine Stop.go ?_
                    go_wp2_with fail
                    go_meet
                    exact ⟨db', rfl, HF⟩
                  · have hb6 : (o.kind == 6) = false := by simpa using hk6
                    clear hk6
                    have HF : Hd (PEx w db xb c (k + 1) W0) := ⟨⟨mb, fs, sv, rs, (HDk.out.no HW.out).both, HDk.out.cpl, HDk.out.ok, Nat.le_succ_of_le HDk.out.few⟩⟩
                    go_wp2_with fail
                    go_meet
                    exact ⟨db, rfl, HF⟩
      case rest =>
        obtain ⟨db', rfl, HE⟩ := hcut
        obtain ⟨mb', fs', sv', rs', hd'⟩ := HE.out
        have HD' := Hd.mk hd'
        have h27 := f27_any db' mb' xb c fs' sv' rs' wc hd'.both.disk hd'.both.ref hd'.cpl hd'.ok (by have := hd'.few; omega)
        have H27 := Hd.mk h27
        clear hd' HE h27 q0 q1 q2 q3 q4 q5 hp6
        go_wp2_with (first | (go_at_call 27; refine H27.out.mono ?_; rintro e w3 ⟨rfl, hs⟩; refine Stop.back ?_))
        have HD3 := Hd.mk (HD'.out.no hs)
        clear hs
        refine Stop.go ?_
        go_wp2
        go_roundg (ops.length - (k + 1))
        case measure => have := HK.out; omega
        case rel => exact ⟨k + 1, db', mb', fs', sv', rs', by omega, rfl, by go_num, ⟨rfl⟩, HD3⟩
    · obtain rfl : k = ops.length := by omega
      go_wp2_with (first | (go_at_call 12; refine (f12_any _).mono ?_; rintro e w2 ⟨rfl, hs⟩; refine Stop.back ?_))
      have HS := Hd.mk (HDk.out.both.step.trans' hs)
      clear hs
      refine Stop.go ?_
      go_wp2
      go_ret
      exact ⟨rfl, HS.out⟩
theorem f5_any (c : Int) (sv : Value) (ops : List OpR) (w : World) (h : Rd Rep.op w (fun k => k < w.heap.size) sv ops) (hsz : ∀ o ∈ ops, OpSz2 o) (hlen : ops.length * 112 ≤ 140737488351232) :
    Calls Try.prog 5 #[.int .i64 c, sv] w fun e w' => e = .returned (.bool true) ∧ Step No w w' := by
  by_cases h0 : c < 0
  · exact f5_bad c sv w (.inl h0)
  · by_cases h1 : 1073741824 < c
    · exact f5_bad c sv w (.inr h1)
    · exact f5_good c sv ops w (by omega) (by omega) h hsz hlen
end Go.Proofs.Ytmflfimenacflaa

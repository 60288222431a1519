/- The law LeaseKeeps: the walk. -/
import Derived.Test.YtngganllammcpaaL12
set_option linter.unusedVariables false
set_option linter.unusedSimpArgs false
set_option linter.unusedVariables false
set_option linter.unusedSimpArgs false
namespace Go.Proofs.Ytngganllammcpaa
open Go Go.RowKit Gb
theorem least_at (ks : List KR) (h : ks ≠ []) : ∃ m ∈ ks, ∀ y ∈ ks, m.at ≤ y.at := by
  induction ks with
  | nil => exact absurd rfl h
  | cons k ks ih =>
    by_cases hk : ks = []
    · subst hk
      exact ⟨k, List.mem_cons_self, fun y hy => by rw [List.mem_singleton.1 hy]; exact Int.le_refl _⟩
    · obtain ⟨m, h1, h2⟩ := ih hk
      by_cases hl : k.at ≤ m.at
      · refine ⟨k, List.mem_cons_self, fun y hy => ?_⟩
        rcases List.mem_cons.1 hy with rfl | hy
        · exact Int.le_refl _
        · exact Int.le_trans hl (h2 y hy)
      · refine ⟨m, List.mem_cons_of_mem _ h1, fun y hy => ?_⟩
        rcases List.mem_cons.1 hy with rfl | hy
        · omega
        · exact h2 y hy
def NSz (n : NR) : Prop := n.list.length * 80 ≤ 140737488351232
set_option maxRecDepth 100000 in
set_option maxHeartbeats 20000000 in
theorem f3_any (sv : Value) (ns : List NR) (w : World) (h : Rd Rep.note w (fun k => k < w.heap.size) sv ns) (hsz : ∀ n ∈ ns, NSz n) :
    Calls Try.prog 3 #[sv] w fun e w' => e = .returned (.bool true) ∧ Step No w w' := by
  obtain ⟨A, c, rfl, hc, hcm, _⟩ := h.slice
  have hnl : ns.length ≤ 9223372036854775807 := by unfold maxLen at hcm; omega
  have HR := Hd.mk h
  have HSz := Hd.mk hsz
  have H6 : Hd (∀ W, Calls Try.prog 6 #[] W fun e w' => e = .returned (.bool true) ∧ Step No W w') := ⟨f6_any⟩
  clear h hsz hc hcm
  go_enter Try.func3, Try.ntmps3
  go_wp2_with (first | (go_at_call 5; refine (f5_any _).mono ?_; rintro e w1 ⟨kb, rfl, hka, hs1, hkb⟩; refine Stop.back ?_))
  obtain ⟨rb, hrb⟩ : ∃ rb, rb = w1.heap.size := ⟨_, rfl⟩
  obtain ⟨W1, hW1⟩ : ∃ W1, W1 = w1.alloc (.cells #[.int .i64 0, .slice none 0 0] 28) := ⟨_, rfl⟩
  have hks : KS w W1 kb rb 0 (.slice none 0 0) (.slice none 0 0) [] := by
    have hst : Step No w1 W1 := by rw [hW1]; exact Step.alloc _ _ _
    exact { ka := hka.stepNo hst, ra := ⟨by rw [hW1, hrb]; exact blk_new w1 _, SRow.nil _ _ _ _⟩, ok := (by simp), few := (by simp), st := hs1.trans' hst, ownk := fun k hk => (by cases hk), ownr := fun k hk => (by cases hk), kb1 := hkb, rb1 := (by have := hs1.size; omega) }
  have HKs := Hd.mk hks
  clear hka hs1 hkb hks
  refine Stop.go ?_
  go_upto_region 5 with (fail)
  rw [← hW1, ← hrb]
  clear hW1 hrb
  go_wp2
  go_loopg [25] ns.length (fun kq iv wr => ∃ (i : Nat) (now : Int) (v v2 : Value) (ks : List KR), i ≤ ns.length ∧ iv = .int .i64 i ∧ Hd (kq = ns.length - i) ∧ Hd (KS w wr kb rb now v v2 ks))
  case atStart => exact ⟨0, 0, _, _, [], Nat.zero_le _, rfl, ⟨rfl⟩, HKs⟩
  case round =>
    obtain ⟨i, now0, v, v2, ks, hi, rfl, HI, HKS⟩ := hrel
    by_cases hlt : i < ns.length
    · obtain ⟨ad, b, off, cs, rfl, hbF, hp, hcs, hcell⟩ := HR.out.cellsAt hlt (by decide)
      have hszn := HSz.out _ (List.getElem_mem hlt)
      obtain ⟨n, hn⟩ : ∃ n, n = ns[i] := ⟨_, rfl⟩
      rw [← hn] at hcs hszn
      obtain ⟨lv, rfl, hl⟩ := Rep.note_open hcs
      obtain ⟨A2, c2, rfl, hc2, hcm2, _⟩ := hl.slice
      have q0 := HKS.out.st.cell (hcell 0 _ rfl) (fun h => h)
      have q1 := HKS.out.st.cell (hcell 1 _ rfl) (fun h => h)
      have q2 := HKS.out.st.cell (hcell 2 _ rfl) (fun h => h)
      simp only [Nat.add_zero] at q0
      have hp3 : ad.add (i * 3) = ⟨b, off, none⟩ := hp
      have hl0 : Rd Rep.ses w (fun k => k < w.heap.size) (.slice A2 n.list.length c2) n.list := hl
      have HLw := Hd.mk hl0
      have HL := Hd.mk (hl0.stepNo HKS.out.st)
      have hll : n.list.length * 80 ≤ 140737488351232 := hszn
      clear hcs hcell hp hl hl0 hn hszn hbF hc2 hcm2
      go_upto_region 8 with (fail)
      obtain ⟨nb, hnb⟩ : ∃ nb, nb = wr.heap.size := ⟨_, rfl⟩
      obtain ⟨W2, hW2⟩ : ∃ W2, W2 = wr.alloc (.cells #[.int .i64 n.now, .int .i64 n.ask, .slice A2 n.list.length c2] 31) := ⟨_, rfl⟩
      have bN : W2.heap[nb]? = some (.cells #[.int .i64 n.now, .int .i64 n.ask, .slice A2 n.list.length c2] 31 (0, 0)) := by rw [hW2, hnb]; exact blk_new wr _
      have st2 : Step No wr W2 := by rw [hW2]; exact Step.alloc _ _ _
      have HNb : Hd (w.heap.size ≤ nb) := ⟨by rw [hnb]; exact HKS.out.st.size⟩
      rw [← hW2, ← hnb]
      have BN := Hd.mk bN
      have HL2 := Hd.mk (HL.out.stepNo st2)
      have HKS2 := Hd.mk (HKS.out.stepNo st2)
      have e2 := blk_cell bN 2
      simp only [List.getElem?_toArray, List.getElem?_cons_zero, List.getElem?_cons_succ] at e2
      clear hW2 hnb bN st2 q0 q1 q2 hp3
      go_wp2
      clear e2
      go_loopg [32] n.list.length (fun kq jv wx => ∃ (j : Nat), j ≤ n.list.length ∧ jv = .int .i64 j ∧ Hd (kq = n.list.length - j) ∧ Hd (Step No W2 wx) ∧ Hd (∀ (k : Nat) (hk : k < n.list.length), k < j → 1 ≤ n.list[k].lease ∧ n.list[k].lease ≤ 1048576))
      case atStart => exact ⟨0, Nat.zero_le _, rfl, ⟨rfl⟩, ⟨Step.refl _ _⟩, ⟨fun k _ h => by omega⟩⟩
      case round =>
        obtain ⟨j, hj, rfl, HJ, HSX, HOk⟩ := hrel
        by_cases hlt2 : j < n.list.length
        · obtain ⟨ad2, b2, off2, cs2, rfl, hbF2, hp2, hcs2, hcell2⟩ := (HL2.out.stepNo HSX.out).cellsAt hlt2 (by decide)
          obtain ⟨s, hs⟩ : ∃ s, s = n.list[j] := ⟨_, rfl⟩
          rw [← hs] at hcs2
          obtain ⟨v6, rfl, hh, hnn, hle, hbe, h6⟩ := Rep.ses_open hcs2
          obtain ⟨A6, n6, rfl, -, -, -⟩ := h6.slice
          have x0 := hcell2 0 _ rfl
          have x1 := hcell2 1 _ rfl
          have x2 := hcell2 2 _ rfl
          have x3 := hcell2 3 _ rfl
          have x4 := hcell2 4 _ rfl
          have x5 := hcell2 5 _ rfl
          have x6 := hcell2 6 _ rfl
          simp only [Nat.add_zero] at x0
          have hp7 : ad2.add (j * 7) = ⟨b2, off2, none⟩ := hp2
          have HS := Hd.mk hs
          clear hs hcs2 hcell2 hp2 h6 hh hnn hbe hbF2
          by_cases c1 : s.lease < 1
          · have d1 : decide (s.lease < 1) = true := decide_eq_true c1
            clear c1 hle
            go_wp2_with (first | (go_at_call 6; refine (H6.out _).mono ?_; rintro e w3 ⟨rfl, hs3⟩))
            go_ret
            exact ⟨rfl, ((HKS2.out.st.trans' HSX.out).trans' (Step.alloc _ _ _)).trans' hs3⟩
          · by_cases c2 : 1048576 < s.lease
            · have d1 : decide (s.lease < 1) = false := decide_eq_false c1
              have d2 : decide (1048576 < s.lease) = true := decide_eq_true c2
              clear c1 c2 hle
              go_wp2_with (first | (go_at_call 6; refine (H6.out _).mono ?_; rintro e w3 ⟨rfl, hs3⟩))
              go_ret
              exact ⟨rfl, ((HKS2.out.st.trans' HSX.out).trans' (Step.alloc _ _ _)).trans' hs3⟩
            · have d1 : decide (s.lease < 1) = false := decide_eq_false c1
              have d2 : decide (1048576 < s.lease) = false := decide_eq_false c2
              have HC1 := Hd.mk c1
              have HC2 := Hd.mk c2
              clear c1 c2 hle
              go_wp2
              go_roundg (n.list.length - (j + 1))
              case measure => have := HJ.out; omega
              case rel =>
                refine ⟨j + 1, by omega, by go_num, ⟨rfl⟩, ⟨HSX.out.trans' (Step.alloc _ _ _)⟩, ⟨fun k hk hkj => ?_⟩⟩
                by_cases e : k < j
                · exact HOk.out k hk e
                · obtain rfl : k = j := by omega
                  rw [← HS.out]; have := HC1.out; have := HC2.out; omega
        · obtain rfl : j = n.list.length := by omega
          go_upto_region 14 with (fail)
          obtain ⟨wp, hwp⟩ : ∃ wp, wp = wr := ⟨_, rfl⟩
          subst hwp
          have bN := HSX.out.keep BN.out (fun h => h)
          have e0 := blk_cell bN 0
          have e1 := blk_cell bN 1
          have e2 := blk_cell bN 2
          have e2' := fun O => blk_cell (blk_alloc bN O) 2
          simp only [List.getElem?_toArray, List.getElem?_cons_zero, List.getElem?_cons_succ] at e0 e1 e2 e2'
          have BN3 := Hd.mk bN
          have HKS3 := Hd.mk (HKS2.out.stepNo HSX.out)
          have HL3 := Hd.mk (HL2.out.stepNo HSX.out)
          have HOk3 : Hd (∀ s ∈ n.list, 1 ≤ s.lease ∧ s.lease ≤ 1048576) := ⟨fun s hs => by
            obtain ⟨k, hk, rfl⟩ := List.getElem_of_mem hs
            exact HOk.out k hk hk⟩
          clear bN HKS2 HL2 HSX HOk HJ BN
          go_wp2_with (first | (at_builtin; refine Stop.back ?_))
          obtain ⟨wa, hwa⟩ : ∃ wa, wa = wp.alloc (.cells #[] 36) := ⟨_, rfl⟩
          obtain ⟨ab, hab⟩ : ∃ ab, ab = wp.heap.size := ⟨_, rfl⟩
          have hrow : RowAt wa 36 7 (.slice (some ⟨ab, 0, none⟩) 0 0) 0 [] := by rw [hwa, hab]; exact RowAt.lit (size := 7) wp #[] 36 0 rfl (by unfold maxLen; omega)
          have sta : Step No wp wa := by rw [hwa]; exact Step.alloc _ _ _
          obtain ⟨ess, es1, es2, es3, es4⟩ := Rd.flat (HL3.out.stepNo sta) (by decide)
          have hnil := HL3.out.nilc
          have hnl7 : (ess.flatMap Subtype.val).length = n.list.length * 7 := by rw [← es1]; exact flat_len (fun x : Sized Rep.ses.sz => x.2) ess
          rw [← hwa, ← hab]
          have HAb := Hd.mk hab
          have hoa : ∀ k, Own (.slice (some ⟨ab, 0, none⟩) 0 0) k → k = ab := fun k hk => by cases hk; rfl
          clear hwa hab
          refine Stop.go (wp_appendW rfl _ _ 29 36 rfl (.agg #[.string ⟨#[]⟩, .int .i64 0, .int .i64 0, .int .i64 0, .int .i64 0, .int .i64 0, .slice none 0 0]) 7 80 Try.underlying29 info36 rfl (by decide) _ _ _ rfl hrow A2 n.list.length c2 (ess.flatMap Subtype.val) rfl hnl7 hnil es3 es4 (by unfold maxLen; omega) (by omega) ?_)
          intro v3 w3 k1 k2 _ k4
          have st3 : Step No wp w3 := sta.trans k2 (fun k hk hl => by have := hoa k hk; have := HAb.out; omega)
          have hr3 : SRow Subtype.val Rep.ses.sz w3 36 v3 ess := by
            unfold SRow
            rw [List.nil_append, Nat.zero_add] at k1
            rw [es1]; exact k1
          have hown3 : ∀ k, Own v3 k → wp.heap.size ≤ k := fun k hk => by
            rcases k4 k hk with h1 | h1
            · have := hoa k h1; have := HAb.out; omega
            · exact Nat.le_trans sta.size h1
          have hrd : Rd Rep.ses w3 (fun k => k < w.heap.size ∨ Own v3 k) v3 n.list := Rd.of_srow hr3 es1 (fun i hi hx => Rep.ses.mono (Rep.ses.step (es2 i hi hx) k2 (fun k hk e => by have := hoa k e; have h1 := HAb.out; have h2 := HKS3.out.st.size; omega)) (fun k hk => .inl hk)) (fun k hk => .inr hk)
          have hks3 := HKS3.out.stepNo st3
          obtain ⟨ev, P7, P9, P8⟩ := pair_note (now := n.now) hks3 hrd (fun k hk e => by
            have h1 := HKS3.out.kb1
            have h2 := lt_of_blk HKS3.out.ka.blk
            rcases hk with h3 | h3
            · omega
            · have := hown3 k h3; omega) HLw.out HOk3.out hll
          obtain ⟨A3, c3, hve3, hc3, hcm3, hn3⟩ := hr3.slice
          rw [es1] at hve3
          subst hve3
          have bN3 := st3.keep BN3.out (fun h => h)
          have hnbk : ¬ SKb kb rb nb := fun hk => by
            rcases hk with e | e
            · have h5 := hks3.ka.blk
              rw [← e, bN3] at h5
              cases h5
            · have h5 := hks3.ra.blk
              rw [← e, bN3] at h5
              cases h5
          have n0 : ∀ W, Step (SKb kb rb) w3 W → W.cell? ⟨nb, 0, none⟩ = some (.int .i64 n.now) := fun W hs => by rw [blk_cell (hs.keep bN3 hnbk)]; rfl
          have n1 : ∀ W, Step (SKb kb rb) w3 W → W.cell? ⟨nb, 1, none⟩ = some (.int .i64 n.ask) := fun W hs => by rw [blk_cell (hs.keep bN3 hnbk)]; rfl
          have n2 : ∀ W, Step (SKb kb rb) w3 W → W.cell? ⟨nb, 2, none⟩ = some (.slice A2 n.list.length c2) := fun W hs => by rw [blk_cell (hs.keep bN3 hnbk)]; rfl
          have hs33 : Step (SKb kb rb) w3 w3 := Step.refl _ _
          have HP7 := Hd.mk P7
          have HP9 := Hd.mk P9
          have HP8 := Hd.mk P8
          have HR3 := Hd.mk hr3
          have HT3 := Hd.mk st3
          have HBN := Hd.mk bN3
          have HNbk := Hd.mk hnbk
          have HOw3 := Hd.mk hown3
          have HEs := Hd.mk es1
          have hevn : (ev != ev) = false := by simp
          clear P7 P9 P8 hr3 hrd hks3 k1 k2 k4 st3 hown3 hrow sta es2 es3 es4 hnil hnl7 hoa bN3 hnbk hc3 hcm3 hn3 e0 e1 e2 e2' es1
          refine Stop.go ?_
          go_wp2
          go_region_held3 (fun W => Step (SKb kb rb) w3 W) ((first | assumption | exact Step.drew _ _ | exact Step.trans' (by assumption) (Step.drew _ _))) (first | (go_at_call 7; refine (HP7.out _ ?_).mono ?_; (first | exact Step.refl No _ | exact Step.drew No _); rintro e w7 ⟨rfl, hm⟩; have k7 : Step (SKb kb rb) w3 w7 := hm.1.mono (fun k hk => .inl hk)) | (go_at_call 9; refine (HP9.out _ ?_).mono ?_; (first | assumption | exact Step.trans' (by assumption) (Step.drew _ _)); rintro e w9 ⟨qv, rfl, hq, hs9⟩; have k9 : Step (SKb kb rb) w3 w9 := Step.transNo (by assumption) hs9) | (go_at_call 8; refine (HP8.out _ _ _ (by assumption) (by first | assumption | exact Step.trans' (by assumption) (Step.drew No _) | exact (Step.drew No _).trans' (by assumption)) (by first | assumption | exact SRow.stepNo (by assumption) (Step.drew No _))).mono ?_; rintro e w8 ⟨rfl, hm8⟩; have k8 : Step (SKb kb rb) w3 w8 := hm8.1))
          all_goals
            have hm9 := hm8.2
            have hr8 := SRow.step HR3.out k8 (fun k hk e => by
              have h1 := HOw3.out k hk
              have h2 := lt_of_blk HKS3.out.ka.blk
              have h3 := lt_of_blk HKS3.out.ra.blk
              rcases e with e | e <;> omega)
            have bN8 := k8.keep HBN.out HNbk.out
            obtain ⟨now1, v1, v21, ks1, hks1⟩ := hm9
            have HKS8 := Hd.mk hks1
            have HR8 := Hd.mk hr8
            have HB8 := Hd.mk bN8
            clear hks1 hr8 bN8 hm8 n0 n1 n2 hs33 k8 k9 hq hs9 k7 hm
            go_wp2
            go_loopg [65] n.list.length (fun kq jv wx => ∃ (j : Nat) (zs : List (Sized Rep.ses.sz)), j ≤ n.list.length ∧ jv = .int .i64 j ∧ zs.length = n.list.length ∧ Hd (kq = n.list.length - j) ∧ Hd (KS w wx kb rb now1 v1 v21 ks1) ∧ Hd (SRow Subtype.val Rep.ses.sz wx 36 (.slice A3 n.list.length c3) zs) ∧ Hd (wx.heap[nb]? = some (.cells #[.int .i64 n.now, .int .i64 n.ask, .slice A2 n.list.length c2] 31 (0, 0))))
            case atStart => exact ⟨0, ess, Nat.zero_le _, rfl, HEs.out, ⟨rfl⟩, HKS8, HR8, HB8⟩
            case round =>
              obtain ⟨j, zs, hj, rfl, hzl, HJ, HKZ, HRZ, HBZ⟩ := hrel
              by_cases hlt3 : j < n.list.length
              · obtain ⟨g9, he9, ho9, hf9, hc9⟩ := SRow.at HRZ.out (fun x : Sized Rep.ses.sz => x.2) (k := j) (by omega)
                cases he9
                have hjz : j < zs.length := by omega
                obtain ⟨z, hz⟩ : ∃ z : Sized Rep.ses.sz, z = zs[j]'hjz := ⟨zs[j]'hjz, rfl⟩
                obtain ⟨zl, hzl7⟩ := z
                have hz7 : zl.length = 7 := hzl7
                obtain ⟨a0, a1, a2, a3, a4, a5, a6, rfl⟩ : ∃ a0 a1 a2 a3 a4 a5 a6, zl = [a0, a1, a2, a3, a4, a5, a6] := by
                  match zl, hz7 with
                  | [a0, a1, a2, a3, a4, a5, a6], _ => exact ⟨a0, a1, a2, a3, a4, a5, a6, rfl⟩
                rw [← hz] at hc9
                have x0 := hc9 0 _ rfl
                have x1 := hc9 1 _ rfl
                have x2 := hc9 2 _ rfl
                have x3 := hc9 3 _ rfl
                have x4 := hc9 4 _ rfl
                have x5 := hc9 5 _ rfl
                have x6 := hc9 6 _ rfl
                have y0 : wr.cell? ⟨g9, j * 7, none⟩ = some a0 := x0
                have y1 : wr.cell? ⟨g9, j * 7 + 1, none⟩ = some a1 := x1
                have y2 : wr.cell? ⟨g9, j * 7 + 2, none⟩ = some a2 := x2
                have y3 : wr.cell? ⟨g9, j * 7 + 3, none⟩ = some a3 := x3
                have y4 : wr.cell? ⟨g9, j * 7 + 4, none⟩ = some a4 := x4
                have y5 : wr.cell? ⟨g9, j * 7 + 5, none⟩ = some a5 := x5
                have y6 : wr.cell? ⟨g9, j * 7 + 6, none⟩ = some a6 := x6
                clear x0 x1 x2 x3 x4 x5 x6 hc9 hz hz7 hzl7
                go_wp2
                go_roundg (n.list.length - (j + 1))
                case measure => have := HJ.out; omega
                case rel =>
                  obtain ⟨p1, p2⟩ := SRow.put (fun x : Sized Rep.ses.sz => x.2) HRZ.out (i := j) (by omega) ⟨[.string ⟨#[]⟩, .int .i64 0, .int .i64 0, .int .i64 0, .int .i64 0, .int .i64 0, .slice none 0 0], rfl⟩
                  obtain ⟨cells9, hg9⟩ := RowAt.typed HRZ.out ho9
                  have hgw : w.heap.size ≤ g9 := by have := HOw3.out g9 ho9; have := HKS3.out.st.size; omega
                  have hgn : g9 ≠ nb := fun e => by
                    have h5 := HBZ.out
                    rw [← e, hg9] at h5
                    cases h5
                  exact ⟨j + 1, _, by omega, by go_num, by rw [List.length_set]; exact hzl, ⟨rfl⟩, ⟨HKZ.out.far hg9 (by decide) (by decide) (by decide) (by decide) hgw p2⟩, ⟨p1⟩, ⟨p2.keep HBZ.out (fun e => hgn (by have e1 : nb = g9 := e; omega))⟩⟩
              · obtain rfl : j = n.list.length := by omega
                have bNz := HBZ.out
                have e0 := blk_cell bNz 0
                have e1 := blk_cell bNz 1
                simp only [List.getElem?_toArray, List.getElem?_cons_zero, List.getElem?_cons_succ] at e0 e1
                clear bNz
                go_upto_region 23 with (fail)
                obtain ⟨gq, hgq⟩ : ∃ gq, gq = wr.heap.size := ⟨_, rfl⟩
                obtain ⟨W5, hW5⟩ : ∃ W5, W5 = wr.alloc (.cells #[.int .i64 n.ask, .int .i64 n.now] 3) := ⟨_, rfl⟩
                have bQ : W5.heap[gq]? = some (.cells #[.int .i64 n.ask, .int .i64 n.now] 3 (0, 0)) := by rw [hW5, hgq]; exact blk_new wr _
                have st5 : Step No wr W5 := by rw [hW5]; exact Step.alloc _ _ _
                rw [← hW5, ← hgq]
                have BQ := Hd.mk bQ
                have HK5 := Hd.mk (HKZ.out.stepNo st5)
                clear hW5 hgq bQ st5 e0 e1 HKZ HRZ HBZ
                go_loopg [79] 2 (fun kq jv wx => ∃ (j : Nat), j ≤ 2 ∧ jv = .int .i64 j ∧ Hd (kq = 2 - j) ∧ Hd (Step No W5 wx))
                case atStart => exact ⟨0, by omega, rfl, ⟨rfl⟩, ⟨Step.refl _ _⟩⟩
                case round =>
                  obtain ⟨j, hj2, rfl, HJ2, HS5⟩ := hrel
                  by_cases hlt5 : j < 2
                  · obtain ⟨x, hx⟩ : ∃ x, wr.cell? ⟨gq, j, none⟩ = some (.int .i64 x) := by
                      have hb := blk_cell (HS5.out.keep BQ.out (fun h => h)) j
                      have hj3 : j = 0 ∨ j = 1 := by omega
                      rcases hj3 with rfl | rfl
                      · exact ⟨_, hb⟩
                      · exact ⟨_, hb⟩
                    have hk6 := HK5.out.stepNo HS5.out
                    have h10 : ∀ W, Step No wr W → Calls Try.prog 10 #[.pointer (some ⟨kb, 0, none⟩), .int .i64 x] W (RowPost KR.ses 7 36 (ks1.filter (due x)) W) := fun W hs => f10_any kb now1 x v1 ks1 W (hk6.ka.stepNo hs) hk6.ok hk6.few
                    have h11 : ∀ W, Step No wr W → Calls Try.prog 11 #[.pointer (some ⟨rb, 0, none⟩), .int .i64 x] W (RowPost RR.cells 5 46 ((ks1.filter (due x)).map KR.rr) W) := fun W hs => by
                      rw [← due_map]
                      exact f11_any rb now1 x v21 (ks1.map KR.rr) W (hk6.ra.stepNo hs) (fun k hk => by obtain ⟨y, hy, rfl⟩ := List.mem_map.1 hk; exact rr_ok (hk6.ok y hy)) (by rw [List.length_map]; exact hk6.few)
                    have hfew : (ks1.filter (due x)).length * 80 ≤ 140737488351232 := Nat.le_trans (Nat.mul_le_mul_right _ (List.length_filter_le _ _)) hk6.few
                    obtain ⟨ds, hds⟩ : ∃ ds, ds = ks1.filter (due x) := ⟨_, rfl⟩
                    rw [← hds] at h10 h11 hfew
                    have H10 := Hd.mk h10
                    have H11 := Hd.mk h11
                    clear hds h10 h11 hk6
                    go_wp2_with (first | (go_at_call 10; refine (H10.out _ (Step.refl _ _)).mono ?_; rintro e w4 ⟨u13, rfl, hr13, hs13⟩; obtain ⟨A13, c13, hv13, -, -, -⟩ := hr13.slice; subst hv13) | (go_at_call 11; refine (H11.out _ (by assumption)).mono ?_; rintro e w5 ⟨u14, rfl, hr14, hs14⟩; obtain ⟨A14, c14, hv14, -, -, -⟩ := hr14.slice; rw [List.length_map] at hv14; subst hv14; refine Stop.back ?_))
                    have HR13 := Hd.mk (hr13.stepNo hs14)
                    have HR14 := Hd.mk hr14
                    have HS6 := Hd.mk ((HS5.out.trans' hs13).trans' hs14)
                    clear hr13 hr14 hs13 hs14 hx
                    refine Stop.go ?_
                    go_wp2
                    go_loopg [96] ds.length (fun kq jv wx => ∃ (q : Nat), q ≤ ds.length ∧ jv = .int .i64 q ∧ Hd (kq = ds.length - q) ∧ Hd (Step No w5 wx))
                    case atStart => exact ⟨0, Nat.zero_le _, rfl, ⟨rfl⟩, ⟨Step.refl _ _⟩⟩
                    case round =>
                      obtain ⟨q, hq, rfl, HQ, HS7⟩ := hrel
                      by_cases hlt6 : q < ds.length
                      · obtain ⟨g13, rfl, -, -, hc13⟩ := SRow.at (HR13.out.stepNo HS7.out) KR.sl hlt6
                        obtain ⟨g14, rfl, -, -, z0, z1, z2, z3, z4⟩ := RR.ats (HR14.out.stepNo HS7.out) (k := q) (by rw [List.length_map]; exact hlt6)
                        rw [List.getElem_map] at z0 z1 z2 z3 z4
                        have y0 := hc13 0 _ rfl
                        have y1 := hc13 1 _ rfl
                        have y3 := hc13 3 _ rfl
                        have y4 := hc13 4 _ rfl
                        have y6 := hc13 6 _ rfl
                        simp only [Nat.add_zero] at y0
                        obtain ⟨y, hy⟩ : ∃ y, y = ds[q] := ⟨_, rfl⟩
                        rw [← hy] at y0 y1 y3 y4 z0 z1 z2 z3 z4
                        have z0' : wr.cell? ⟨g14, q * 5, none⟩ = some (.string y.home) := z0
                        have z1' : wr.cell? ⟨g14, q * 5 + 1, none⟩ = some (.int .i64 y.n) := z1
                        have z2' : wr.cell? ⟨g14, q * 5 + 2, none⟩ = some (.int .i64 y.lease) := z2
                        have z3' : wr.cell? ⟨g14, q * 5 + 3, none⟩ = some (.int .i64 y.beats) := z3
                        have t1 : (y.home.toList == y.home.toList) = true := tl_eq rfl
                        have t2 : (y.n != y.n) = false := by simp
                        have t3 : (y.lease != y.lease) = false := by simp
                        have t4 : (y.beats != y.beats) = false := by simp
                        clear hc13 hy z0 z1 z2 z3 z4
                        go_wp2
                        go_quiet (fail)
                        go_wp2
                        go_roundg (ds.length - (q + 1))
                        case measure => have := HQ.out; omega
                        case rel => exact ⟨q + 1, by omega, by go_num, ⟨rfl⟩, ⟨HS7.out.trans' (Step.drewN _ _ _)⟩⟩
                      · obtain rfl : q = ds.length := by omega
                        go_wp2
                        go_roundg (2 - (j + 1))
                        case measure => have := HJ2.out; omega
                        case rel => exact ⟨j + 1, by omega, by go_num, ⟨rfl⟩, ⟨HS6.out.trans' HS7.out⟩⟩
                  · obtain rfl : j = 2 := by omega
                    have hk6 := HK5.out.stepNo HS5.out
                    obtain ⟨A21, c21, hv21, -, hcm21, -⟩ := hk6.ra.row.slice
                    rw [List.length_map] at hv21
                    subst hv21
                    have r1 : ∀ W, Step No wr W → W.cell? ⟨rb, 1, none⟩ = some (.slice A21 ks1.length c21) := fun W hs => by rw [blk_cell (hs.keep hk6.ra.blk (fun h => h))]; rfl
                    have hself : Step No wr wr := Step.refl _ _
                    have HK6 := Hd.mk hk6
                    have h12 := f12_any kb now1 v1 ks1 wr hk6.ka hk6.ok
                    by_cases hemp : ks1 = []
                    · have H12 : Hd (Calls Try.prog 12 #[.pointer (some ⟨kb, 0, none⟩)] wr fun e w' => e = .returned (.tuple #[.int .i64 0, .bool false]) ∧ Step No wr w') := ⟨h12.mono fun e w' ⟨a, b⟩ => by
                        rcases b with ⟨_, b⟩ | ⟨m, b, _⟩
                        · exact ⟨b, a⟩
                        · rw [hemp] at b; cases b⟩
                      have hn0 : ks1.length = 0 := by rw [hemp]; rfl
                      rw [hn0] at r1
                      clear hemp h12 hk6 hn0
                      go_wp2_with (first | (go_at_call 12; refine H12.out.mono ?_; rintro e w9 ⟨rfl, hs9⟩))
                      go_roundg (ns.length - (i + 1))
                      case measure => have := HI.out; omega
                      case rel => exact ⟨i + 1, _, _, _, _, by omega, by go_num, ⟨rfl⟩, ⟨HK6.out.stepNo hs9⟩⟩
                    · have hpos : 0 < ks1.length := List.length_pos_iff.2 hemp
                      obtain ⟨N, hN⟩ : ∃ N, N = ks1.length := ⟨_, rfl⟩
                      rw [← hN] at r1
                      have hNp : 0 < N := by omega
                      have hn0 : decide (0 < (N : Int)) = true := decide_eq_true (by omega)
                      clear hN
                      have h12' : ∃ m ∈ ks1, (∀ y ∈ ks1, m.at ≤ y.at) ∧ Calls Try.prog 12 #[.pointer (some ⟨kb, 0, none⟩)] wr fun e w' => e = .returned (.tuple #[.int .i64 m.at, .bool true]) ∧ Step No wr w' := by
                        obtain ⟨m, hm, hmin⟩ := least_at ks1 hemp
                        refine ⟨m, hm, hmin, h12.mono fun e w' ⟨a, b⟩ => ?_⟩
                        rcases b with ⟨b, _⟩ | ⟨m', b1, b2, b3⟩
                        · exact absurd b hemp
                        · have e1 : m'.at = m.at := Int.le_antisymm (b3 m hm) (hmin m' b1)
                          rw [e1] at b2
                          exact ⟨b2, a⟩
                      obtain ⟨m, hm, hmin, h12b⟩ := h12'
                      have hmok := hk6.ok m hm
                      have hma : 1 ≤ m.at ∧ m.at ≤ 1099512676352 := by have := hmok.lease; have := hmok.since; unfold KR.at; omega
                      have hfirst := due_first hm hmok
                      have hbefore := due_before hmin
                      have h11 : ∀ (a : Int) W, Step No wr W → Calls Try.prog 11 #[.pointer (some ⟨rb, 0, none⟩), .int .i64 a] W (RowPost RR.cells 5 46 ((ks1.filter (due a)).map KR.rr) W) := fun a W hs => by
                        rw [← due_map]
                        exact f11_any rb now1 a _ (ks1.map KR.rr) W (hk6.ra.stepNo hs) (fun k hk => by obtain ⟨y, hy, rfl⟩ := List.mem_map.1 hk; exact rr_ok (hk6.ok y hy)) (by rw [List.length_map]; exact hk6.few)
                      obtain ⟨Lf, hLf⟩ : ∃ Lf : Int → Nat, Lf = fun a => (ks1.filter (due a)).length := ⟨_, rfl⟩
                      have h11c : ∀ (a : Int) W, Step No wr W → Calls Try.prog 11 #[.pointer (some ⟨rb, 0, none⟩), .int .i64 a] W fun e w' => ∃ A c, e = .returned (.slice A (Lf a) c) ∧ Step No W w' := fun a W hs => (h11 a W hs).mono fun e w' ⟨u, e1, hr, hs2⟩ => by
                        obtain ⟨Au, cu, hu, -, -, -⟩ := hr.slice
                        rw [List.length_map] at hu
                        exact ⟨Au, cu, by rw [e1, hu, hLf], hs2⟩
                      obtain ⟨ma, hmae⟩ : ∃ ma, ma = m.at := ⟨_, rfl⟩
                      have hL1 : ma ≤ 1099511627776 → 0 < Lf ma := fun h => by rw [hLf, hmae]; exact hfirst (by rw [← hmae]; exact h)
                      have hL2 : Lf (ma - 1) = 0 := by rw [hLf, hmae]; exact hbefore
                      rw [← hmae] at h12b hma
                      obtain ⟨m1, m2⟩ := hma
                      have H12 := Hd.mk h12b
                      have H11c := Hd.mk h11c
                      have hd3 : decide (0 < ma) = true := decide_eq_true (by omega)
                      by_cases hle : ma ≤ 1099511627776
                      · have hd1 : decide (ma ≤ 1099511627776) = true := decide_eq_true hle
                        have hfp := hL1 hle
                        have hz1 : ((Lf ma : Int) == 0) = false := by simp; omega
                        clear hemp hpos h12 hk6 hm hmin h12b hmok hfirst hbefore h11 h11c hLf hmae hle hL1
                        go_wp2_with (first | (go_at_call 12; refine H12.out.mono ?_; rintro e w9 ⟨rfl, hs9⟩) | (go_at_call 11; refine (H11c.out _ _ (by assumption)).mono ?_; rintro e wA ⟨AA, cA, rfl, hsA⟩; have kA : Step No wr wA := Step.trans' (by assumption) hsA; clear hsA))
                        go_roundg (ns.length - (i + 1))
                        case measure => have := HI.out; omega
                        case rel => exact ⟨i + 1, _, _, _, _, by omega, by go_num, ⟨rfl⟩, ⟨HK6.out.stepNo (by assumption)⟩⟩
                      · have hd1 : decide (ma ≤ 1099511627776) = false := decide_eq_false hle
                        clear hemp hpos h12 hk6 hm hmin h12b hmok hfirst hbefore h11 h11c hLf hmae hle hL1 hL2
                        go_wp2_with (first | (go_at_call 12; refine H12.out.mono ?_; rintro e w9 ⟨rfl, hs9⟩))
                        go_roundg (ns.length - (i + 1))
                        case measure => have := HI.out; omega
                        case rel => exact ⟨i + 1, _, _, _, _, by omega, by go_num, ⟨rfl⟩, ⟨HK6.out.stepNo hs9⟩⟩
    · obtain rfl : i = ns.length := by omega
      go_wp2_with (first | (go_at_call 6; refine (H6.out _).mono ?_; rintro e w3 ⟨rfl, hs3⟩))
      go_ret
      exact ⟨rfl, HKS.out.st.trans' hs3⟩
end Go.Proofs.Ytngganllammcpaa

/- The walk of Crash, whatever the cuts. -/
import Derived.Test.YtmflfimenacflaaD10
import Derived.StillTailTactics
set_option linter.unusedVariables false
set_option linter.unusedSimpArgs false
namespace Go.Proofs.Ytmflfimenacflaa
open Go.RowKit Gb
def vkeep (cuts : List Int) (loose : Nat) : Nat := match cuts with | [] => 0 | c :: _ => (min (max c 0) (loose : Int)).toNat
def vcr (st : View × List Int) (s : ByteArray) : View × List Int :=
  match mget st.1 s with
  | none => st
  | some (d, sf) => if d.length - sf = 0 then st else (mput st.1 s (d.take (sf + vkeep st.2 (d.length - sf)), sf + vkeep st.2 (d.length - sf)), st.2.tail)
def vcrs (V : View) (cuts : List Int) (ss : List ByteArray) : View × List Int := ss.foldl vcr (V, cuts)
theorem vcrs_snoc (V : View) (cuts : List Int) {ss : List ByteArray} {k : Nat} {s : ByteArray} (hx : ss[k]? = some s) : vcrs V cuts (ss.take (k + 1)) = vcr (vcrs V cuts (ss.take k)) s := by
  have hk : k < ss.length := (List.getElem?_eq_some_iff.1 hx).1
  have hxe : ss[k] = s := (List.getElem?_eq_some_iff.1 hx).2
  rw [List.take_succ_eq_append_getElem hk, hxe]
  simp [vcrs, List.foldl_append]
theorem vkeep_le (cuts : List Int) (n : Nat) : vkeep cuts n ≤ n := by
  unfold vkeep
  split
  · omega
  · omega
theorem info3 : ∃ i, Try.prog.info? 3 = some i ∧ i.size = 1 := by
  have h : (Try.prog.info? 3).map (fun i => i.size) = some 1 := by kernel_rfl
  cases hp : Try.prog.info? 3 with
  | none => rw [hp] at h; cases h
  | some i => rw [hp] at h; exact ⟨i, rfl, by simpa using h⟩
def CrashPost (db mb : Nat) (cap : Int) (fs : Files) (cuts : List Int) (w : World) (e : Ending) (w' : World) : Prop :=
  e = .returned (.tuple #[]) ∧ DiskPost db mb cap fs w w' (vcrs (view fs) cuts (snames (view fs))).1
theorem keys_put {fs : Files} {s : ByteArray} {f f' : FileG} (hf : mget fs s = some f) : (mput fs s f').map Prod.fst = fs.map Prod.fst := by
  rw [mput_some hf, List.map_map]
  refine List.map_congr_left fun p _ => ?_
  simp only [Function.comp]
  split
  · rename_i e; exact e.symm
  · rfl
theorem get_of_keys {fs fk : Files} (hk : fk.map Prod.fst = fs.map Prod.fst) {s : ByteArray} (hs : s ∈ snames (view fs)) : ∃ f, mget fk s = some f := by
  have h1 : s ∈ fs.map Prod.fst := by
    unfold snames at hs
    obtain ⟨l, hl, rfl⟩ := List.mem_map.1 hs
    have := (List.mergeSort_perm _ _).mem_iff.1 hl
    obtain ⟨p, hp, rfl⟩ := List.mem_map.1 this
    rw [mk_bs]
    obtain ⟨q, hq, rfl⟩ := List.mem_map.1 hp
    exact List.mem_map.2 ⟨q, hq, rfl⟩
  rw [← hk] at h1
  cases hf : mget fk s with
  | some f => exact ⟨f, rfl⟩
  | none =>
    obtain ⟨p, hp, rfl⟩ := List.mem_map.1 h1
    exact absurd rfl (lookup_none_ne hf p hp)
theorem foot_in {mb : Nat} {fs : Files} {s : ByteArray} {f f' : FileG} (hf : mget fs s = some f) (hown : ∀ k, Owns f' k → Owns f k) {k : Nat} (hk : FootT mb (mput fs s f') k) : FootT mb fs k := by
  rcases hk with rfl | ⟨p, hp, hk⟩
  · exact .inl rfl
  · rcases mem_mput hp with rfl | ⟨hp, _⟩
    · exact .inr ⟨_, mem_of_lookup hf, hown k hk⟩
    · exact .inr ⟨p, hp, hk⟩
/-- one file is cut to n bytes, all of them safe -/
theorem crash_file {wr W1 : World} {db mb : Nat} {cap : Int} {fk : Files} {x : ByteArray} {f : FileG} {A2 : Option Addr} {c2 n : Nat} (hd : DiskAt wr db mb cap fk) (h1 : Step No wr W1) (hf : mget fk x = some f) (hv : f.v = .slice A2 f.data.length c2) (hn : n ≤ f.data.length) (h0 : 0 < f.data.length) :
    DiskAt ((W1.setCell ⟨f.blk, 1, none⟩ (.int .i64 n)).setCell ⟨f.blk, 0, none⟩ (.slice A2 n n)) db mb cap (mput fk x ⟨f.blk, .slice A2 n n, f.data.take n, n⟩) ∧
    Step (Owns f) wr ((W1.setCell ⟨f.blk, 1, none⟩ (.int .i64 n)).setCell ⟨f.blk, 0, none⟩ (.slice A2 n n)) ∧ (∀ k, Owns ⟨f.blk, .slice A2 n n, f.data.take n, n⟩ k → Owns f k) := by
  have hfa : FileAt wr f := hd.table.file _ (mem_of_lookup hf)
  have hfa1 := hfa.step h1 (fun _ _ h => h)
  obtain ⟨g, c', hv', hc', hog, _, _⟩ := hfa1.own.form h0
  have hv2 := hv
  rw [hv'] at hv2
  obtain rfl : A2 = some ⟨g, 0, none⟩ := by cases hv2; rfl
  have hne : g ≠ f.blk := by
    rintro rfl
    obtain ⟨cs, hc⟩ := hfa1.own.typed hog
    rw [hfa1.blk] at hc; cases hc
  have hrow : RowAt W1 5 1 (.slice (some ⟨g, 0, none⟩) n n) n ((f.data.take n).map u8) := by
    have := hfa1.own.cut hv' n n hn (Nat.le_refl _) (Nat.le_trans hn hc')
    rwa [Nat.mul_one, ← List.map_take] at this
  have hown : ∀ k, Owns ⟨f.blk, .slice (some ⟨g, 0, none⟩) n n, f.data.take n, n⟩ k → Owns f k := by
    rintro k (rfl | hk)
    · exact .inl rfl
    · cases hk; exact .inr hog
  have hb1 := blk_set hfa1.blk 1 (.int .i64 n)
  have hb2 := blk_set hb1 0 (.slice (some ⟨g, 0, none⟩) n n)
  have hst : Step (At f.blk) W1 ((W1.setCell ⟨f.blk, 1, none⟩ (.int .i64 n)).setCell ⟨f.blk, 0, none⟩ (.slice (some ⟨g, 0, none⟩) n n))   := by
    have a : Step (At f.blk) W1 (W1.setCell ⟨f.blk, 1, none⟩ (.int .i64 n)) := Step.setAt W1 ⟨f.blk, 1, none⟩ _
    have b : Step (At f.blk) (W1.setCell ⟨f.blk, 1, none⟩ (.int .i64 n)) ((W1.setCell ⟨f.blk, 1, none⟩ (.int .i64 n)).setCell ⟨f.blk, 0, none⟩ (.slice (some ⟨g, 0, none⟩) n n)) := Step.setAt _ ⟨f.blk, 0, none⟩ _
    exact a.trans' b
  have hst2 : Step (Owns f) wr ((W1.setCell ⟨f.blk, 1, none⟩ (.int .i64 n)).setCell ⟨f.blk, 0, none⟩ (.slice (some ⟨g, 0, none⟩) n n)) := h1.noTrans (hst.mono (fun k hk => .inl hk))
  have hfa2 : FileAt ((W1.setCell ⟨f.blk, 1, none⟩ (.int .i64 n)).setCell ⟨f.blk, 0, none⟩ (.slice (some ⟨g, 0, none⟩) n n)) ⟨f.blk, .slice (some ⟨g, 0, none⟩) n n, f.data.take n, n⟩ := by
    refine ⟨by simpa using hb2, ?_, ?_⟩
    · have := hrow.step hst (fun k hk e => by cases hk; exact hne e)
      simpa [List.length_take, Nat.min_eq_left hn] using this
    · simp [List.length_take]; omega
  exact ⟨hd.set_file hf rfl hst2 hfa2 (fun k hk => .inl (hown k hk)) (by simp [List.length_take]; omega), hst2, hown⟩
set_option maxRecDepth 100000 in
set_option maxHeartbeats 4000000 in
theorem f18_any (db mb : Nat) (cap : Int) (fs : Files) (cv : Value) (cuts : List Int) (w : World) {F : Nat → Prop} (hn : Rd Rep.int w F cv cuts) (h : DiskAt w db mb cap fs) (hsz : fs.length * 16 ≤ 140737488355328) (hF : ∀ k, F k → ¬ Foot db mb fs k) :
    Calls Try.prog 18 #[.pointer (some ⟨db, 0, none⟩), cv] w (CrashPost db mb cap fs cuts w) := by
  have c0 := blk_cell h.blk 0
  simp only [List.getElem?_toArray, List.getElem?_cons_zero] at c0
  have HD := Hd.mk h
  have HN := Hd.mk hn
  have HF := Hd.mk hF
  have hlen : (snames (view fs)).length ≤ 8796093022208 := by simp [snames, view]; omega
  obtain ⟨ss, hss⟩ : ∃ ss, ss = snames (view fs) := ⟨_, rfl⟩
  rw [← hss] at hlen
  have HSS := Hd.mk hss
  obtain ⟨A, c, rfl, hc, hcm, _⟩ := hn.slice
  unfold maxLen at hcm
  clear h hn hF hss
  go_enter Try.func18, Try.ntmps18
  go_wp2_with (go_at_call 19; refine (f19_any mb fs _ HD.out.table hsz).mono ?_; rw [← HSS.out]; rintro e w1 ⟨v, rfl, hv, hfr, hs⟩; refine Stop.back ?_)
  have HS := Hd.mk hs
  have HV := Hd.mk hv
  have HFr := Hd.mk hfr
  obtain ⟨An, cn, rfl, _, _, _⟩ := hv.slice
  clear hs hv hfr
  refine Stop.go ?_
  go_wp2
  go_loopg [1, 15] ss.length (fun kq t i wr => ∃ (k : Nat) (fk : Files), k ≤ ss.length ∧ i = .int .i64 k ∧ Hd (kq = ss.length - k) ∧ Hd (DiskAt wr db mb cap fk) ∧ Hd (fk.map Prod.fst = fs.map Prod.fst) ∧ Hd (view fk = (vcrs (view fs) cuts (ss.take k)).1) ∧ Hd (Rd Rep.int wr F t (vcrs (view fs) cuts (ss.take k)).2) ∧ Hd (Step (Foot db mb fs) w wr) ∧ Hd (∀ k, Foot db mb fk k → Foot db mb fs k) ∧ Hd (RowAt wr 9 1 (.slice An ss.length cn) ss.length (ss.map Value.string)))
  case atStart => exact ⟨0, fs, Nat.zero_le _, rfl, ⟨rfl⟩, ⟨HD.out.step HS.out (fun _ _ h => h)⟩, ⟨rfl⟩, ⟨rfl⟩, ⟨HN.out.stepNo HS.out⟩, ⟨HS.out.mono (fun _ h => h.elim)⟩, ⟨fun _ h => h⟩, HV⟩
  case round =>
    obtain ⟨k, fk, hk, rfl, HK, HDk, HKk, HVk, HNk, HSk, HFk, HRk⟩ := hrel
    by_cases hlt : k < ss.length
    · obtain ⟨x, hx⟩ : ∃ x, ss[k]? = some x := ⟨_, List.getElem?_eq_getElem hlt⟩
      obtain ⟨g, c', he', _, hog, _, hcs⟩ := HRk.out.form (by omega)
      cases he'
      have hcell := hcs k (.string x) (by rw [List.getElem?_map, hx]; rfl)
      obtain ⟨f, hf⟩ := get_of_keys HKk.out (s := x) (by rw [← HSS.out]; exact List.mem_of_getElem? hx)
      have hkv := HDk.out.table.map.keyV (mem_of_lookup hf)
      have hfa : FileAt wr f := HDk.out.table.file _ (mem_of_lookup hf)
      have c0k := blk_cell HDk.out.blk 0
      have hb0 := blk_cell hfa.blk 0
      have hb1 := blk_cell hfa.blk 1
      have hfz0 := blk_free hfa.blk 0
      have hfz1 := blk_free hfa.blk 1
      simp only [List.getElem?_toArray, List.getElem?_cons_zero, List.getElem?_cons_succ] at c0k hb0 hb1
      obtain ⟨A2, c2, hv2, hn2, hm2, _⟩ := hfa.own.slice
      have hsafe := hfa.safe
      rw [hv2] at hb0
      unfold maxLen at hm2
      have HX := Hd.mk hx
      have HFf := Hd.mk hf
      have HFA := Hd.mk hfa
      have HKV := Hd.mk hkv
      have HV2 := Hd.mk hv2
      clear hx hf hfa hkv hv2 hcs
      by_cases hl0 : f.data.length = f.safe
      · have hz : ((f.data.length : Int) - f.safe == 0) = true := by simp; omega
        have hw : IntKind.i64.wrap ((f.data.length : Int) - f.safe) = (f.data.length : Int) - f.safe := IntWalk.i64_in _ (by omega)
        have HL0 := Hd.mk hl0
        clear hl0
        go_wp2_with (first | (at_lookup; refine wp_look_some rfl _ _ 55 67 rfl Try.underlying55 law9 str_inj rfl x rfl HDk.out.table.map HKV.out _ (zero67 _) f HFf.out ?_; unfold FileG.ptr))
        go_quiet (fail)
        go_wp2
        have hE : vcrs (view fs) cuts (ss.take (k + 1)) = vcrs (view fs) cuts (ss.take k) := by
          rw [vcrs_snoc _ _ HX.out]
          unfold vcr
          rw [← HVk.out, mget_view, HFf.out]
          simp [HL0.out]
        go_roundg (ss.length - (k + 1))
        case measure => have := HK.out; omega
        case rel => exact ⟨k + 1, fk, by omega, by go_num, ⟨rfl⟩, ⟨HDk.out.step (Step.drewN No _ _) (fun _ _ h => h)⟩, HKk, ⟨by rw [hE]; exact HVk.out⟩, ⟨by rw [hE]; exact HNk.out.stepNo (Step.drewN _ _ _)⟩, ⟨HSk.out.transNo (Step.drewN _ _ _)⟩, HFk, ⟨HRk.out.stepNo (Step.drewN _ _ _)⟩⟩
      · have hz : ((f.data.length : Int) - f.safe == 0) = false := by simp; omega
        have hw : IntKind.i64.wrap ((f.data.length : Int) - f.safe) = (f.data.length : Int) - f.safe := IntWalk.i64_in _ (by omega)
        have HL0 := Hd.mk hl0
        clear hl0
        cases hck : (vcrs (view fs) cuts (ss.take k)).2 with
        | nil =>
          have HCK := Hd.mk hck
          have hn0 := HNk.out
          rw [hck] at hn0
          obtain ⟨A3, c3, rfl, _, _, _⟩ := hn0.slice
          clear hck hn0
          simp only [List.length_nil] at *
          go_wp2_with (first | (at_lookup; refine wp_look_some rfl _ _ 55 67 rfl Try.underlying55 law9 str_inj rfl x rfl HDk.out.table.map HKV.out _ (zero67 _) f HFf.out ?_; unfold FileG.ptr))
          go_quiet (fail)
          go_wp2
          generalize hw5 : (wr.drewN nq).setCell { block := f.blk, off := 1 } (Value.int IntKind.i64 ↑f.safe) = w5
          have d0 : w5.cell? ⟨f.blk, 0, none⟩ = some (.slice A2 f.data.length c2) := by
            rw [← hw5, World.cell?_setCell_other _ _ _ _ (by simp)]; exact hb0
          have d1 : w5.cell? ⟨f.blk, 1, none⟩ = some (.int .i64 f.safe) := by
            rw [← hw5]; exact World.cell?_setCell_same _ _ _ hb1
          have d2 : w5.frozen? ⟨f.blk, 0, none⟩ = false := by rw [← hw5]; simpa using hfz0
          have HW5 := Hd.mk hw5
          clear hw5 hb0 hb1 hfz0 hfz1 hcell c0k
          have hsc : f.safe ≤ c2 := by omega
          go_still_tail 16, (by kernel_rfl)
          go_wp2
          have HC := crash_file (n := f.safe) HDk.out (Step.drewN No wr nq) HFf.out HV2.out hsafe (by have := HL0.out; omega)
          rw [HW5.out] at HC
          have hE : vcrs (view fs) cuts (ss.take (k + 1)) = (mput (view fk) x (f.data.take f.safe, f.safe), []) := by
            rw [vcrs_snoc _ _ HX.out]
            unfold vcr
            rw [← HVk.out, mget_view, HFf.out, HCK.out]
            simp only [Option.map_some, vkeep, Nat.add_zero, List.tail_nil]
            rw [if_neg (by have := HL0.out; omega)]
          go_roundg (ss.length - (k + 1))
          case measure => have := HK.out; omega
          case rel =>
            refine ⟨k + 1, _, by omega, by go_num, ⟨rfl⟩, ⟨HC.1.step (Step.drew No _) (fun _ _ h => h)⟩, ⟨by rw [keys_put HFf.out]; exact HKk.out⟩, ⟨by rw [hE, view_mput]⟩, ⟨?_⟩, ⟨?_⟩, ⟨?_⟩, ⟨?_⟩⟩
            · rw [hE]
              have := HNk.out
              rw [HCK.out] at this
              exact (this.step HC.2.1 (fun k hk e => HF.out k hk (HFk.out k (.inr (.inr ⟨_, mem_of_lookup HFf.out, e⟩))))).stepNo (Step.drew _ _)
            · exact (HSk.out.trans' (HC.2.1.mono (fun k hk => HFk.out k (.inr (.inr ⟨_, mem_of_lookup HFf.out, hk⟩))))).transNo (Step.drew _ _)
            · rintro k (rfl | hk)
              · exact .inl rfl
              · exact HFk.out k (.inr (foot_in HFf.out HC.2.2 hk))
            · refine (HRk.out.step HC.2.1 (fun k hk e => ?_)).stepNo (Step.drew _ _)
              obtain ⟨cs, hc⟩ := HRk.out.typed hk
              rcases e with rfl | e
              · rw [HFA.out.blk] at hc; cases hc
              · obtain ⟨cs', hc'⟩ := HFA.out.own.typed e
                rw [hc'] at hc; cases hc
        | cons ck cr =>
          have HCK := Hd.mk hck
          have hn0 := HNk.out
          rw [hck] at hn0
          obtain ⟨A3, c3, rfl, hc3, hm3, _⟩ := hn0.slice
          unfold maxLen at hm3
          obtain ⟨i3, hi3, hs3⟩ := info3
          obtain ⟨A4, hcut, hr4⟩ := Rd.cut (P := Try.prog) 46 3 .i64 Try.underlying46 hi3 (by rw [hs3]; rfl) hn0 1 (by simp)
          obtain ⟨ad3, hA3, _, hcc, hck64⟩ := hn0.at (i := 0) (by simp)
          subst hA3
          have HR4 := Hd.mk hr4
          have hlk : (ck :: cr).length = cr.length + 1 := by simp
          simp only [List.getElem_cons_zero] at hcc hck64
          have hck1 := hck64.1
          have hck2 := hck64.2
          clear hck hn0 hr4 hck64 hi3 hs3
          simp only [List.length_cons, Addr.add_zero'] at *
          have hcut' : ∀ W, (Instr.slice 46 (.slice (some ad3) (cr.length + 1) c3) (some (.int .i64 1)) none none).run Try.prog W = .ok (.slice A4 cr.length (c3 - 1)) W := fun W => by simpa using hcut W
          clear hcut
          obtain ⟨keep, hkeep⟩ : ∃ keep : Nat, (keep : Int) = min (max ck 0) ((f.data.length : Int) - f.safe) := ⟨(min (max ck 0) ((f.data.length : Int) - f.safe)).toNat, by omega⟩
          have hkl : f.safe + keep ≤ f.data.length := by omega
          have hmm : min (max ck 0) ((f.data.length : Int) - f.safe) = (keep : Int) := hkeep.symm
          have HKP := Hd.mk hkeep
          clear hkeep
          go_wp2_with (first | (at_lookup; refine wp_look_some rfl _ _ 55 67 rfl Try.underlying55 law9 str_inj rfl x rfl HDk.out.table.map HKV.out _ (zero67 _) f HFf.out ?_; unfold FileG.ptr))
          go_quiet (fail)
          rename Nat => n1
          go_wp2
          go_quiet (fail)
          go_wp2
          generalize hw5 : (wr.drewN (n1 + nq)).setCell { block := f.blk, off := 1 } (Value.int IntKind.i64 (↑f.safe + ↑keep)) = w5
          have d0 : w5.cell? ⟨f.blk, 0, none⟩ = some (.slice A2 f.data.length c2) := by
            rw [← hw5, World.cell?_setCell_other _ _ _ _ (by simp)]; exact hb0
          have d1 : w5.cell? ⟨f.blk, 1, none⟩ = some (.int .i64 ((f.safe : Int) + keep)) := by
            rw [← hw5]; exact World.cell?_setCell_same _ _ _ hb1
          have d2 : w5.frozen? ⟨f.blk, 0, none⟩ = false := by rw [← hw5]; simpa using hfz0
          have HW5 := Hd.mk hw5
          clear hw5 hb0 hb1 hfz0 hfz1 hcell c0k hcc hcut' hmm
          have hsc : (f.safe : Int) + keep ≤ c2 := by omega
          have hsc0 : 0 ≤ (f.safe : Int) + keep := by omega
          go_still_tail 16, (by kernel_rfl)
          go_wp2
          have HC := crash_file (n := f.safe + keep) HDk.out (Step.drewN No wr (n1 + nq)) HFf.out HV2.out hkl (by have := HL0.out; omega)
          rw [show ((f.safe + keep : Nat) : Int) = (f.safe : Int) + keep from by omega, HW5.out] at HC
          have hvk : vkeep (ck :: cr) (f.data.length - f.safe) = keep := by
            have := HKP.out
            simp only [vkeep]
            omega
          have hE : vcrs (view fs) cuts (ss.take (k + 1)) = (mput (view fk) x (f.data.take (f.safe + keep), f.safe + keep), cr) := by
            rw [vcrs_snoc _ _ HX.out]
            unfold vcr
            rw [← HVk.out, mget_view, HFf.out, HCK.out]
            simp only [Option.map_some, List.tail_cons, hvk]
            rw [if_neg (by have := HL0.out; omega)]
          go_roundg (ss.length - (k + 1))
          case measure => have := HK.out; omega
          case rel =>
            refine ⟨k + 1, _, by omega, by go_num, ⟨rfl⟩, ⟨HC.1.step (Step.drew No _) (fun _ _ h => h)⟩, ⟨by rw [keys_put HFf.out]; exact HKk.out⟩, ⟨by rw [hE, view_mput]⟩, ⟨?_⟩, ⟨?_⟩, ⟨?_⟩, ⟨?_⟩⟩
            · rw [hE]
              have := HR4.out
              exact (this.step HC.2.1 (fun k hk e => HF.out k hk (HFk.out k (.inr (.inr ⟨_, mem_of_lookup HFf.out, e⟩))))).stepNo (Step.drew _ _)
            · exact (HSk.out.trans' (HC.2.1.mono (fun k hk => HFk.out k (.inr (.inr ⟨_, mem_of_lookup HFf.out, hk⟩))))).transNo (Step.drew _ _)
            · rintro k (rfl | hk)
              · exact .inl rfl
              · exact HFk.out k (.inr (foot_in HFf.out HC.2.2 hk))
            · refine (HRk.out.step HC.2.1 (fun k hk e => ?_)).stepNo (Step.drew _ _)
              obtain ⟨cs, hc⟩ := HRk.out.typed hk
              rcases e with rfl | e
              · rw [HFA.out.blk] at hc; cases hc
              · obtain ⟨cs', hc'⟩ := HFA.out.own.typed e
                rw [hc'] at hc; cases hc
    · obtain rfl : k = ss.length := by omega
      go_wp2
      go_end0
      refine ⟨rfl, fk, HDk.out, ?_, HSk.out, fun k hk => .inl (HFk.out k hk)⟩
      have := HVk.out
      rwa [List.take_length, HSS.out] at this
end Go.Proofs.Ytmflfimenacflaa

/- The walk of Sync. -/
import Derived.Test.YtmflfimenacflaaD8
set_option linter.unusedVariables false
set_option linter.unusedSimpArgs false
namespace Go.Proofs.Ytmflfimenacflaa
open Go.RowKit Gb
theorem DiskAt.set_file {w w' : World} {db mb : Nat} {cap : Int} {fs : Files} (h : DiskAt w db mb cap fs) {s : ByteArray} {f f' : FileG} (hf : mget fs s = some f) (hb : f'.blk = f.blk) (hs : Step (Owns f) w w') (hf' : FileAt w' f')
    (hown : ∀ k, Owns f' k → Owns f k ∨ w.heap.size ≤ k) (hl : f'.data.length ≤ f.data.length) : DiskAt w' db mb cap (mput fs s f') := by
  have hm := mem_of_lookup hf
  have hfa : FileAt w f := h.table.file _ hm
  have hu := used_mput_some h.table.map.nodup hf f'
  have hu2 : used (mput fs s f') ≤ used fs := by omega
  have hfits := h.fits
  have hroom : used fs ≤ 1073741824 := h.table.room
  have hT := h.table.set_file hf hb hs hf' hown (by omega)
  have hdb : ¬ Owns f db := by
    rintro (h1 | h1)
    · have := h.blk; rw [h1] at this; rw [show w.heap[f.blk]? = _ from hfa.blk] at this; simp at this
    · obtain ⟨cs, hc⟩ := hfa.own.typed h1
      have := h.blk; rw [hc] at this; cases this
  exact ⟨hs.keep h.blk hdb, hT, h.cap0, h.cap1, by omega⟩
/-- the same files in the same blocks, with the same slices -/
def Like (fs fs' : Files) : Prop := fs'.map (fun p => (p.1, (p.2.blk, p.2.v))) = fs.map (fun p => (p.1, (p.2.blk, p.2.v)))
theorem mget_map {κ ν μ : Type} [DecidableEq κ] (m : List (κ × ν)) (g : ν → μ) (k : κ) : mget (m.map (fun p => (p.1, g p.2))) k = (mget m k).map g := by
  induction m with
  | nil => rfl
  | cons p m ih =>
    simp only [List.map_cons, mget]
    split
    · rfl
    · exact ih
theorem Like.get {fs fs' : Files} (h : Like fs fs') {s : ByteArray} {f : FileG} (hf : mget fs s = some f) : ∃ f', mget fs' s = some f' ∧ f'.blk = f.blk ∧ f'.v = f.v := by
  have h1 := mget_map fs (fun f => (f.blk, f.v)) s
  have h2 := mget_map fs' (fun f => (f.blk, f.v)) s
  have h3 : fs'.map (fun p => (p.1, (fun f : FileG => (f.blk, f.v)) p.2)) = fs.map (fun p => (p.1, (fun f : FileG => (f.blk, f.v)) p.2)) := h
  rw [h3, h1, hf] at h2
  cases hf' : mget fs' s with
  | none => rw [hf'] at h2; cases h2
  | some f' =>
    rw [hf'] at h2
    simp only [Option.map_some, Option.some.injEq, Prod.mk.injEq] at h2
    exact ⟨f', rfl, h2.1.symm, h2.2.symm⟩
theorem Like.foot {fs fs' : Files} (h : Like fs fs') {mb : Nat} {k : Nat} (hk : FootT mb fs' k) : FootT mb fs k := by
  rcases hk with rfl | ⟨p, hp, hk⟩
  · exact .inl rfl
  · have : (p.1, (p.2.blk, p.2.v)) ∈ fs.map (fun p => (p.1, (p.2.blk, p.2.v))) := by rw [← h]; exact List.mem_map.2 ⟨p, hp, rfl⟩
    obtain ⟨q, hq, he⟩ := List.mem_map.1 this
    simp only [Prod.mk.injEq] at he
    refine .inr ⟨q, hq, ?_⟩
    rcases hk with hk | hk
    · exact .inl (hk.trans he.2.1.symm)
    · exact .inr (by rw [he.2.2]; exact hk)
theorem Like.put {fs fs' : Files} (h : Like fs fs') (hn : (fs'.map Prod.fst).Nodup) {s : ByteArray} {f f' : FileG} (hf : mget fs' s = some f) (hb : f'.blk = f.blk) (hv : f'.v = f.v) : Like fs (mput fs' s f') := by
  unfold Like
  rw [mput_some hf, List.map_map, ← h]
  refine List.map_congr_left fun p hp => ?_
  simp only [Function.comp]
  split
  · rename_i e
    have h1 := lookup_mem hn hp
    rw [e, hf] at h1; cases h1
    rw [hb, hv, e]
  · rfl
def vsync (V : View) (s : ByteArray) : View := match mget V s with | some (d, _) => mput V s (d, d.length) | none => V
def vsyncs (V : View) (ss : List ByteArray) : View := ss.foldl vsync V
theorem vsyncs_snoc (V : View) {ss : List ByteArray} {k : Nat} {s : ByteArray} (hx : ss[k]? = some s) : vsyncs V (ss.take (k + 1)) = vsync (vsyncs V (ss.take k)) s := by
  have hk : k < ss.length := (List.getElem?_eq_some_iff.1 hx).1
  have hxe : ss[k] = s := (List.getElem?_eq_some_iff.1 hx).2
  rw [List.take_succ_eq_append_getElem hk, hxe]
  simp [vsyncs, List.foldl_append]
def SyncPost (db mb : Nat) (cap : Int) (fs : Files) (ss : List ByteArray) (w : World) : Ending → World → Prop :=
  ChPost db mb cap fs w (findE fs ss) (if findE fs ss = 0 then vsyncs (view fs) ss else view fs)
theorem gs_get {fs : Files} {ss : List ByteArray} {gs : List FileG} (h : ss.map (mget fs) = gs.map some) {k : Nat} {s : ByteArray} (hx : ss[k]? = some s) : ∃ f, gs[k]? = some f ∧ mget fs s = some f := by
  have h1 := congrArg (fun l => l[k]?) h
  simp only [List.getElem?_map, hx, Option.map_some] at h1
  cases hg : gs[k]? with
  | none => rw [hg] at h1; cases h1
  | some f => rw [hg] at h1; exact ⟨f, rfl, by simpa using h1⟩
set_option maxRecDepth 100000 in
theorem f15_any (db mb : Nat) (cap : Int) (fs : Files) (nv : Value) (ss : List ByteArray) (w : World) {F : Nat → Prop} (hn : Rd Rep.str w F nv ss) (h : DiskAt w db mb cap fs) (hsz : ss.length * 8 ≤ 140737488355328) :
    Calls Try.prog 15 #[.pointer (some ⟨db, 0, none⟩), nv] w (SyncPost db mb cap fs ss w) := by
  have c0 := blk_cell h.blk 0
  simp only [List.getElem?_toArray, List.getElem?_cons_zero] at c0
  have HD := Hd.mk h
  have HN := Hd.mk hn
  clear h hn
  by_cases he : findE fs ss = 0
  · obtain ⟨gs, hg⟩ := find_gs he
    have hlen : gs.length = ss.length := by have := congrArg List.length hg; simpa using this.symm
    have HE := Hd.mk he
    have HG := Hd.mk hg
    have HL := Hd.mk hlen
    have hm := HN.out.le
    unfold maxLen at hm
    clear he hg hlen
    go_enter Try.func15, Try.ntmps15
    go_wp2_with (go_at_call 34; refine (f34_ok mb fs _ ss gs _ HN.out HD.out.table hsz HE.out HG.out).mono ?_; rintro e w1 ⟨v, rfl, hv, hfr, hs⟩; refine Stop.back ?_)
    have HS := Hd.mk hs
    have HV := Hd.mk hv
    have HF := Hd.mk hfr
    obtain ⟨A, c, rfl, _, _, _⟩ := hv.slice
    clear hs hv hfr
    refine Stop.go ?_
    go_wp2
    go_loopg [20] gs.length (fun kq i wr => ∃ (k : Nat) (fk : Files), k ≤ gs.length ∧ i = .int .i64 k ∧ Hd (kq = gs.length - k) ∧ Hd (DiskAt wr db mb cap fk) ∧ Hd (Like fs fk) ∧ Hd (view fk = vsyncs (view fs) (ss.take k)) ∧ Hd (Step (Foot db mb fs) w wr) ∧ Hd (RowAt wr 67 1 (.slice A gs.length c) gs.length (gs.map FileG.ptr)))
    case atStart => exact ⟨0, fs, Nat.zero_le _, rfl, ⟨rfl⟩, ⟨HD.out.step HS.out (fun _ _ h => h)⟩, ⟨rfl⟩, ⟨rfl⟩, ⟨HS.out.mono (fun _ h => h.elim)⟩, HV⟩
    case round =>
      obtain ⟨k, fk, hk, rfl, HK, HDk, HLk, HVk, HSk, HRk⟩ := hrel
      by_cases hlt : k < gs.length
      · have hkl : k < ss.length := by have := HL.out; omega
        obtain ⟨x, hx⟩ : ∃ x, ss[k]? = some x := ⟨_, List.getElem?_eq_getElem hkl⟩
        obtain ⟨f, hgf, hf⟩ := gs_get HG.out hx
        obtain ⟨f', hf', hb', hv'⟩ := HLk.out.get hf
        obtain ⟨g, c', he', _, hog, _, hcs⟩ := HRk.out.form (by omega)
        cases he'
        have hcell := hcs k f.ptr (by rw [List.getElem?_map, hgf]; rfl)
        have hfa : FileAt wr f' := HDk.out.table.file _ (mem_of_lookup hf')
        have hb0 := blk_cell hfa.blk 0
        have hb1 := blk_cell hfa.blk 1
        have hfz := blk_free hfa.blk 1
        simp only [List.getElem?_toArray, List.getElem?_cons_zero, List.getElem?_cons_succ] at hb0 hb1
        obtain ⟨A2, c2, hv2, _, hm2, _⟩ := hfa.own.slice
        rw [hv2] at hb0
        unfold maxLen at hm2
        have hne : ∀ k, Own f'.v k → k ≠ f'.blk := by
          rintro k hk rfl
          obtain ⟨cs, hc⟩ := hfa.own.typed hk
          rw [hfa.blk] at hc; cases hc
        have hst : Step (Owns f') wr (wr.setCell ⟨f'.blk, 1, none⟩ (.int .i64 f'.data.length)) := Step.set _ (.inl rfl) _
        have hfa2 : FileAt (wr.setCell ⟨f'.blk, 1, none⟩ (.int .i64 f'.data.length)) { f' with safe := f'.data.length } := by
          refine ⟨by simpa using blk_set hfa.blk 1 (.int .i64 f'.data.length), ?_, Nat.le_refl _⟩
          exact hfa.own.step (Step.setAt wr ⟨f'.blk, 1, none⟩ _) (fun k hk e => hne k hk e)
        have hD2 := HDk.out.set_file hf' (f' := { f' with safe := f'.data.length }) rfl hst hfa2 (fun k hk => .inl hk) (Nat.le_refl _)
        have hL2 := HLk.out.put HDk.out.table.map.nodup hf' (f' := { f' with safe := f'.data.length }) rfl rfl
        have hV2 : view (mput fk x { f' with safe := f'.data.length }) = vsyncs (view fs) (ss.take (k + 1)) := by
          rw [view_mput, vsyncs_snoc _ hx, ← HVk.out]
          unfold vsync
          rw [mget_view, hf']; rfl
        have hS2 : Step (Foot db mb fs) w (wr.setCell ⟨f'.blk, 1, none⟩ (.int .i64 f'.data.length)) := HSk.out.trans' (hst.mono (fun k hk => .inr (HLk.out.foot (.inr ⟨_, mem_of_lookup hf', hk⟩))))
        have hR2 : RowAt (wr.setCell ⟨f'.blk, 1, none⟩ (.int .i64 f'.data.length)) 67 1 (.slice (some ⟨g, 0, none⟩) gs.length c) gs.length (gs.map FileG.ptr) := by
          refine HRk.out.step (Step.setAt wr ⟨f'.blk, 1, none⟩ _) (fun k hk e => ?_)
          obtain ⟨cs, hc⟩ := HRk.out.typed hk
          have e' : k = f'.blk := e
          rw [e', hfa.blk] at hc; cases hc
        have H2 := Hd.mk (And.intro hD2 (And.intro hL2 (And.intro hV2 (And.intro hS2 hR2))))
        unfold FileG.ptr at hcell
        rw [← hb'] at hcell
        clear hx hgf hf hf' hv' hcs hfa hv2 hne hst hfa2 hD2 hL2 hV2 hS2 hR2 hb'
        go_wp2
        go_roundg (gs.length - (k + 1))
        case measure => have := HK.out; omega
        case rel => exact ⟨k + 1, _, by omega, by go_num, ⟨rfl⟩, ⟨H2.out.1⟩, ⟨H2.out.2.1⟩, ⟨H2.out.2.2.1⟩, ⟨H2.out.2.2.2.1⟩, ⟨H2.out.2.2.2.2⟩⟩
      · obtain rfl : k = gs.length := by omega
        have HV2 : Hd (view fk = vsyncs (view fs) ss) := ⟨by have := HVk.out; rwa [HL.out, List.take_length] at this⟩
        go_wp2
        go_ret
        refine ⟨by rw [HE.out]; rfl, fk, HDk.out, by rw [HE.out, if_pos rfl]; exact HV2.out, HSk.out, ?_⟩
        rintro k (rfl | hk)
        · exact .inl (.inl rfl)
        · exact .inl (.inr (HLk.out.foot hk))
  · have HE := Hd.mk he
    clear he
    obtain ⟨n, hn⟩ : ∃ n, n = findE fs ss := ⟨_, rfl⟩
    have HN2 := Hd.mk hn
    clear hn
    go_enter Try.func15, Try.ntmps15
    go_wp2_with (go_at_call 34; refine (f34_err mb fs _ ss _ HN.out HD.out.table hsz HE.out).mono ?_; rw [← HN2.out]; rintro e w' ⟨rfl, hs⟩; refine Stop.back ?_)
    have HS := Hd.mk hs
    clear hs
    refine Stop.go ?_
    go_wp2
    refine wp_loop_rounds 1 ?_
    rw [rounds_succ]
    go_wp2
    go_ret
    exact ⟨by rw [← HN2.out]; rfl, by rw [if_neg HE.out]; exact DiskPost.same HD.out HS.out⟩
end Go.Proofs.Ytmflfimenacflaa

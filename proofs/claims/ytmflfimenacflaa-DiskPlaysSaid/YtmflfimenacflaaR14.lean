/- The plain laws: the document's Remove, Sync, Rename and Crash keep the agreement with the table. -/
import Derived.Test.YtmflfimenacflaaR13
set_option linter.unusedVariables false
set_option linter.unusedSimpArgs false
namespace Go.Proofs.Ytmflfimenacflaa
open Go Go.RowKit Gb
section
variable {κ ν : Type} [DecidableEq κ]
theorem mdel_none {m : List (κ × ν)} {k : κ} (h : ∀ p ∈ m, p.1 ≠ k) : mdel m k = m := List.filter_eq_self.2 fun p hp => by simpa using h p hp
theorem mput_perm {m : List (κ × ν)} (hn : (m.map Prod.fst).Nodup) (k : κ) (v : ν) : (mput m k v).Perm ((k, v) :: mdel m k) := by
  cases hg : mget m k with
  | none =>
    rw [mput_none hg, mdel_none (lookup_none_ne hg)]
    exact List.perm_append_comm (l₁ := m) (l₂ := [(k, v)])
  | some y =>
    rw [mput_some hg]
    have hm := mem_of_lookup hg
    clear hg
    induction m with
    | nil => cases hm
    | cons p m ih =>
      simp only [List.map_cons, List.nodup_cons] at hn
      by_cases hp : p.1 = k
      · have hno : ∀ q ∈ m, q.1 ≠ k := fun q hq e => hn.1 (by rw [hp, ← e]; exact List.mem_map.2 ⟨q, hq, rfl⟩)
        have e1 : m.map (fun q => if q.1 = k then (k, v) else q) = m := by
          have : ∀ q ∈ m, (if q.1 = k then (k, v) else q) = q := fun q hq => if_neg (hno q hq)
          rw [List.map_congr_left this]; simp
        have e2 : mdel (p :: m) k = m := by
          unfold mdel
          rw [List.filter_cons_of_neg (by simp [hp])]
          exact mdel_none hno
        rw [e2, List.map_cons, e1, if_pos hp]
      · have hm' : (k, y) ∈ m := by
          rcases List.mem_cons.1 hm with h | h
          · exact absurd (by rw [← h]) hp
          · exact h
        have e2 : mdel (p :: m) k = p :: mdel m k := by
          unfold mdel
          rw [List.filter_cons_of_pos (by simpa using hp)]
        rw [e2, List.map_cons, if_neg hp]
        exact (List.Perm.cons p (ih hn.2 hm')).trans (List.Perm.swap _ _ _)
theorem mdel_perm {a b : List (κ × ν)} (h : a.Perm b) (k : κ) : (mdel a k).Perm (mdel b k) := h.filter _
theorem mput_keys {m : List (κ × ν)} (hn : (m.map Prod.fst).Nodup) (k : κ) (v : ν) : ((mput m k v).map Prod.fst).Nodup := by
  refine ((mput_perm hn k v).map Prod.fst).nodup_iff.2 ?_
  simp only [List.map_cons, List.nodup_cons]
  refine ⟨fun h => ?_, mdel_nodup hn k⟩
  obtain ⟨p, hp, e⟩ := List.mem_map.1 h
  have := (List.mem_filter.1 hp).2
  simp at this
  exact this e
theorem mdel_not (m : List (κ × ν)) (k : κ) : ∀ p ∈ mdel m k, p.1 ≠ k := fun p hp => by have := (List.mem_filter.1 hp).2; simpa using this
end
theorem rview_names (rs : List RF) : (rview rs).map Prod.fst = rs.map RF.name := by simp [rview, List.map_map, Function.comp_def]
theorem Cpl.nodup {rs : List RF} {V : View} (h : Cpl rs V) (hn : (V.map Prod.fst).Nodup) : ((rview rs).map Prod.fst).Nodup := (h.perm.map _).nodup_iff.2 hn
theorem rview_del {rs : List RF} (hn : ((rview rs).map Prod.fst).Nodup) (s : ByteArray) : rview (rdel rs s) = mdel (rview rs) s := by
  unfold rdel
  induction rs with
  | nil => rfl
  | cons r rs ih =>
    have hc : rview (r :: rs) = (r.name, (r.data, r.safe)) :: rview rs := rfl
    rw [hc] at hn ⊢
    simp only [List.map_cons, List.nodup_cons] at hn
    unfold rplace at *
    rw [List.findIdx_cons]
    by_cases h : r.name = s
    · simp only [h, decide_true, cond_true, List.eraseIdx_cons_zero]
      unfold mdel
      rw [List.filter_cons_of_neg (by simp)]
      symm
      refine mdel_none fun p hp e => hn.1 ?_
      rw [h, ← e]; exact List.mem_map.2 ⟨p, hp, rfl⟩
    · simp only [h, decide_false, cond_false, List.eraseIdx_cons_succ]
      have e2 : mdel ((r.name, (r.data, r.safe)) :: rview rs) s = (r.name, (r.data, r.safe)) :: mdel (rview rs) s := by
        unfold mdel
        rw [List.filter_cons_of_pos (by simpa using h)]
      rw [e2, ← ih hn.2]; rfl
theorem Cpl.del {rs : List RF} {V : View} (h : Cpl rs V) (hn : (V.map Prod.fst).Nodup) (s : ByteArray) : Cpl (rdel rs s) (mdel V s) :=
  ⟨by rw [rview_del (h.nodup hn)]; exact mdel_perm h.perm s, h.sorted.sublist (rdel_sub rs s)⟩
theorem Cpl.dels {rs : List RF} {V : View} (h : Cpl rs V) (hn : (V.map Prod.fst).Nodup) (ss : List ByteArray) : Cpl (rdels rs ss) (vdels V ss) := by
  unfold rdels vdels
  induction ss generalizing rs V with
  | nil => exact h
  | cons s ss ih => exact ih (h.del hn s) (mdel_nodup hn s)
theorem sorted_names {rs rs' : List RF} (h : rs.Pairwise (fun a b => bs a.name < bs b.name)) (e : rs'.map RF.name = rs.map RF.name) : rs'.Pairwise (fun a b => bs a.name < bs b.name) := by
  have hs2 : (rs.map RF.name).Pairwise (fun a b => bs a < bs b) := List.pairwise_map.2 h
  rw [← e] at hs2
  exact (List.pairwise_map (f := RF.name) (R := fun a b => bs a < bs b)).1 hs2
theorem Cpl.upd {rs : List RF} {V : View} (h : Cpl rs V) (hn : (V.map Prod.fst).Nodup) {s : ByteArray} {r r' : RF} (hr : rs[rplace rs s]? = some r) (hr' : r'.name = s) : Cpl (rs.set (rplace rs s) r') (mput V s (r'.data, r'.safe)) := by
  have hname := rplace_name hr
  obtain ⟨hlt, hre⟩ := List.getElem?_eq_some_iff.1 hr
  have hg : mget V s = some (r.data, r.safe) := by rw [h.get hn, hr]; rfl
  rw [mput_some hg]
  have hnr := h.nodup hn
  have hlt' : rplace rs s < (rview rs).length := by simpa [rview] using hlt
  have hk : (rview rs)[rplace rs s].1 = s := by simp [rview, hre, hname]
  have hset := set_map hnr hlt' (r'.data, r'.safe)
  rw [hk] at hset
  refine ⟨?_, ?_⟩
  · have e : rview (rs.set (rplace rs s) r') = (rview rs).set (rplace rs s) (s, (r'.data, r'.safe)) := by
      simp [rview, List.map_set, hr']
    rw [e, hset]
    exact h.perm.map _
  · exact sorted_names h.sorted (names_set hlt (by rw [hr', hre, hname]))
theorem Cpl.sync {rs : List RF} {V : View} (h : Cpl rs V) (hn : (V.map Prod.fst).Nodup) (s : ByteArray) : Cpl (rsync rs s) (vsync V s) := by
  unfold rsync vsync
  rw [h.get hn]
  cases hr : rs[rplace rs s]? with
  | none => exact h
  | some r => exact h.upd hn hr (r' := ⟨r.name, r.b, r.data, r.data.length⟩) (show r.name = s from rplace_name hr)
theorem vsync_keys {V : View} (hn : (V.map Prod.fst).Nodup) (s : ByteArray) : ((vsync V s).map Prod.fst).Nodup := by
  unfold vsync
  split
  · exact mput_keys hn _ _
  · exact hn
theorem Cpl.syncs {rs : List RF} {V : View} (h : Cpl rs V) (hn : (V.map Prod.fst).Nodup) (ss : List ByteArray) : Cpl (rsyncs rs ss) (vsyncs V ss) := by
  unfold rsyncs vsyncs
  induction ss generalizing rs V with
  | nil => exact h
  | cons s ss ih => exact ih (h.sync hn s) (vsync_keys hn s)
theorem Cpl.lay {rs : List RF} {V : View} (h : Cpl rs V) {f : RF} (hf : ∀ p ∈ V, p.1 ≠ f.name) : Cpl (rlay rs f) ((f.name, (f.data, f.safe)) :: V) := by
  refine ⟨?_, ?_⟩
  · have h1 := (rlay_perm rs f).map (fun r => (r.name, (r.data, r.safe)))
    exact h1.trans (List.Perm.cons _ h.perm)
  · rw [rlay_ins]
    refine insF_sorted h.sorted (fun r hr e => ?_)
    exact hf _ (h.perm.mem_iff.1 (List.mem_map.2 ⟨r, hr, rfl⟩)) e.symm
theorem Cpl.perm' {rs : List RF} {V V' : View} (h : Cpl rs V) (hp : V.Perm V') : Cpl rs V' := ⟨h.perm.trans hp, h.sorted⟩
theorem Cpl.ren {rs : List RF} {V : View} (h : Cpl rs V) (hn : (V.map Prod.fst).Nodup) {a b : ByteArray} (hi : rplace rs a < rs.length) : Cpl (rren rs a b) (vren V a b) := by
  unfold rren vren
  rw [List.getElem?_eq_getElem hi]
  have hg : vget V a = (rs[rplace rs a].data, rs[rplace rs a].safe) := by
    unfold vget
    rw [h.get hn, List.getElem?_eq_getElem hi]; rfl
  rw [hg]
  have hna := mdel_nodup hn a
  have h2 := (h.del hn a).del hna b
  exact (h2.lay (f := ⟨b, rs[rplace rs a].b, rs[rplace rs a].data, rs[rplace rs a].safe⟩) (mdel_not _ _)).perm' (mput_perm hna b _).symm
theorem has_same {rs : List RF} {V : View} (h : Cpl rs V) (hn : (V.map Prod.fst).Nodup) (s : ByteArray) : rhas rs s = (mget V s).isSome := by
  rw [h.get hn]
  unfold rhas
  by_cases hl : rplace rs s < rs.length
  · rw [decide_eq_true hl, List.getElem?_eq_getElem hl]; rfl
  · rw [decide_eq_false hl, List.getElem?_eq_none (by omega)]; rfl
theorem all_same {rs : List RF} {V : View} (h : Cpl rs V) (hn : (V.map Prod.fst).Nodup) (l : List ByteArray) : rallE rs l = vfindE V l := by
  unfold rallE vfindE
  rw [show rhas rs = fun s => (mget V s).isSome from funext fun s => has_same h hn s]
theorem ren_same {rs : List RF} {V : View} (h : Cpl rs V) (hn : (V.map Prod.fst).Nodup) (a b : ByteArray) : rrenE rs a b = renE V a b := by
  unfold rrenE renE
  rw [has_same h hn]
theorem names_same {rs : List RF} {V : View} (h : Cpl rs V) (hok : VOk V) : snames V = rs.map RF.name := by
  refine List.Perm.eq_of_pairwise (le := fun a b => bs a < bs b) (fun a b _ _ h1 h2 => absurd (List.lt_trans h1 h2) (List.lt_irrefl _)) (snames_lt hok) (List.pairwise_map.2 h.sorted) ?_
  refine (snames_perm V).trans ?_
  rw [← rview_names]
  exact (h.perm.map _).symm
/-- what a crash leaves, row by row -/
def ccr : View → List Int → View
  | [], _ => []
  | p :: V, cuts => if p.2.1.length - p.2.2 = 0 then p :: ccr V cuts else (p.1, (p.2.1.take (p.2.2 + vkeep cuts (p.2.1.length - p.2.2)), p.2.2 + vkeep cuts (p.2.1.length - p.2.2))) :: ccr V cuts.tail
theorem ccr_keys (V : View) (cuts : List Int) : (ccr V cuts).map Prod.fst = V.map Prod.fst := by
  induction V generalizing cuts with
  | nil => rfl
  | cons p V ih =>
    unfold ccr
    split
    · simp [ih]
    · simp [ih]
theorem vcrs_ccr (L W D : View) (cuts : List Int) (hn : (W.map Prod.fst).Nodup) (hp : W.Perm (D ++ L)) : (vcrs W cuts (L.map Prod.fst)).1.Perm (D ++ ccr L cuts) := by
  unfold vcrs
  induction L generalizing W D cuts with
  | nil => simpa [ccr] using hp
  | cons p L ih =>
    have hm : p ∈ W := hp.mem_iff.2 (by simp)
    have hg : mget W p.1 = some (p.2.1, p.2.2) := lookup_mem hn hm
    rw [List.map_cons, List.foldl_cons]
    unfold ccr
    by_cases h0 : p.2.1.length - p.2.2 = 0
    · have e : vcr (W, cuts) p.1 = (W, cuts) := by
        unfold vcr
        simp only [hg]
        rw [if_pos h0]
      rw [e, if_pos h0]
      have := ih W (D ++ [p]) cuts hn (by simpa using hp)
      simpa using this
    · have e : vcr (W, cuts) p.1 = (mput W p.1 (p.2.1.take (p.2.2 + vkeep cuts (p.2.1.length - p.2.2)), p.2.2 + vkeep cuts (p.2.1.length - p.2.2)), cuts.tail) := by
        unfold vcr
        simp only [hg]
        rw [if_neg h0]
      rw [e, if_neg h0]
      generalize (p.2.1.take (p.2.2 + vkeep cuts (p.2.1.length - p.2.2)), p.2.2 + vkeep cuts (p.2.1.length - p.2.2)) = x
      have hnl : ((D ++ p :: L).map Prod.fst).Nodup := (hp.map _).nodup_iff.1 hn
      have hdl : mdel (D ++ p :: L) p.1 = D ++ L := by
        rw [List.map_append, List.nodup_append] at hnl
        obtain ⟨_, h2, h3⟩ := hnl
        simp only [List.map_cons, List.nodup_cons] at h2
        unfold mdel
        rw [List.filter_append, List.filter_cons_of_neg (by simp)]
        congr 1
        · exact mdel_none fun q hq e => h3 q.1 (List.mem_map.2 ⟨q, hq, rfl⟩) p.1 (by simp) e
        · exact mdel_none fun q hq e => h2.1 (e ▸ List.mem_map.2 ⟨q, hq, rfl⟩)
      have hpx : (mput W p.1 x).Perm ((D ++ [(p.1, x)]) ++ L) := by
        refine (mput_perm hn p.1 x).trans ?_
        have h1 := mdel_perm hp p.1
        rw [hdl] at h1
        refine (List.Perm.cons _ h1).trans ?_
        rw [List.append_assoc]
        exact List.perm_middle.symm
      have := ih (mput W p.1 x) (D ++ [(p.1, x)]) cuts.tail (mput_keys hn _ _) hpx
      simpa using this
theorem Cpl.crash {rs rs' : List RF} {V : View} (h : Cpl rs V) (hok : VOk V) (cuts : List Int) (hr : rview rs' = ccr (rview rs) cuts) : Cpl rs' (vcrs V cuts (snames V)).1 := by
  refine ⟨?_, ?_⟩
  · rw [hr, names_same h hok, ← rview_names]
    have := vcrs_ccr (rview rs) V [] cuts hok.2 (by simpa using h.perm.symm)
    simpa using this.symm
  · refine sorted_names h.sorted ?_
    have := congrArg (List.map Prod.fst) hr
    rw [ccr_keys, rview_names, rview_names] at this
    exact this
end Go.Proofs.Ytmflfimenacflaa

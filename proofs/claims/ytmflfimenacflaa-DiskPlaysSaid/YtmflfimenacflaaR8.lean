/- The plain laws: the document's Append keeps the agreement with the table. -/
import Derived.Test.YtmflfimenacflaaR7
set_option linter.unusedVariables false
set_option linter.unusedSimpArgs false
namespace Go.Proofs.Ytmflfimenacflaa
open Go.RowKit Gb
theorem mget_rview (rs : List RF) (s : ByteArray) : mget (rview rs) s = (rs[rplace rs s]?).map (fun r => (r.data, r.safe)) := by
  induction rs with
  | nil => rfl
  | cons r rs ih =>
    unfold rplace at *
    rw [List.findIdx_cons]
    by_cases h : r.name = s
    · simp [rview, mget, h]
    · have hd : decide (r.name = s) = false := decide_eq_false h
      simp only [rview, List.map_cons, mget, h, if_false, hd, cond_false, List.getElem?_cons_succ]
      exact ih
theorem rplace_name {rs : List RF} {s : ByteArray} {r : RF} (h : rs[rplace rs s]? = some r) : r.name = s := by
  obtain ⟨hlt, rfl⟩ := List.getElem?_eq_some_iff.1 h
  have := List.findIdx_getElem (w := hlt)
  exact of_decide_eq_true this
def insF (f : RF) : List RF → List RF
  | [] => [f]
  | r :: l => if Op.bytesLess f.name.toList r.name.toList then f :: r :: l else r :: insF f l
theorem layS_true (f : RF) (l o : List RF) : l.foldl (layS f) (o, true) = (o ++ l, true) := by
  induction l generalizing o with
  | nil => simp
  | cons r l ih =>
    rw [List.foldl_cons]
    have : layS f (o, true) r = (o ++ [r], true) := by simp [layS]
    rw [this, ih]; simp
theorem layS_ins (f : RF) (l o : List RF) : layE f (l.foldl (layS f) (o, false)) = o ++ insF f l := by
  induction l generalizing o with
  | nil => rfl
  | cons r l ih =>
    rw [List.foldl_cons]
    cases hb : Op.bytesLess f.name.toList r.name.toList
    · have : layS f (o, false) r = (o ++ [r], false) := by simp [layS, hb]
      rw [this, ih]
      simp [insF, hb]
    · have : layS f (o, false) r = (o ++ [f, r], true) := by simp [layS, hb]
      rw [this, layS_true]
      simp [insF, hb, layE]
theorem rlay_ins (rs : List RF) (f : RF) : rlay rs f = insF f rs := by
  have := layS_ins f rs []
  rw [List.nil_append] at this
  exact this
theorem insF_mem {f r : RF} {l : List RF} (h : r ∈ insF f l) : r = f ∨ r ∈ l := by
  induction l with
  | nil => simp [insF] at h; exact .inl h
  | cons a l ih =>
    unfold insF at h
    split at h
    · rcases List.mem_cons.1 h with h | h
      · exact .inl h
      · exact .inr h
    · rcases List.mem_cons.1 h with h | h
      · exact .inr (h ▸ List.mem_cons_self)
      · rcases ih h with h | h
        · exact .inl h
        · exact .inr (List.mem_cons_of_mem _ h)
theorem less_iff (a b : ByteArray) : Op.bytesLess a.toList b.toList = decide (bs a < bs b) := by
  rw [Go.Proofs.bytesLess_eq, ByteArray.toList_eq, ByteArray.toList_eq]; rfl
theorem bs_total {a b : ByteArray} (h : ¬ bs a < bs b) (hne : a ≠ b) : bs b < bs a := by
  rcases List.le_iff_lt_or_eq.1 (List.not_lt.1 h) with h | h
  · exact h
  · exact absurd (bs_inj h).symm hne
theorem insF_sorted {f : RF} {l : List RF} (h : l.Pairwise (fun a b => bs a.name < bs b.name)) (hn : ∀ r ∈ l, f.name ≠ r.name) : (insF f l).Pairwise (fun a b => bs a.name < bs b.name) := by
  induction l with
  | nil => simp [insF]
  | cons a l ih =>
    have h1 := List.pairwise_cons.1 h
    unfold insF
    split
    · rename_i hb
      rw [less_iff] at hb
      have hlt := of_decide_eq_true hb
      refine List.pairwise_cons.2 ⟨fun r hr => ?_, h⟩
      rcases List.mem_cons.1 hr with rfl | hr
      · exact hlt
      · exact List.lt_trans hlt (h1.1 r hr)
    · rename_i hb
      rw [less_iff] at hb
      have hlt : ¬ bs f.name < bs a.name := fun h => hb (decide_eq_true h)
      refine List.pairwise_cons.2 ⟨fun r hr => ?_, ih h1.2 (fun r hr => hn r (List.mem_cons_of_mem _ hr))⟩
      rcases insF_mem hr with rfl | hr
      · exact bs_total hlt (hn a List.mem_cons_self)
      · exact h1.1 r hr
theorem Cpl.get {rs : List RF} {V : View} (h : Cpl rs V) (hn : (V.map Prod.fst).Nodup) (s : ByteArray) : mget V s = (rs[rplace rs s]?).map (fun r => (r.data, r.safe)) := by
  rw [← mget_perm h.perm hn, mget_rview]
theorem set_map {κ ν : Type} [DecidableEq κ] {L : List (κ × ν)} (hn : (L.map Prod.fst).Nodup) {p : Nat} (hp : p < L.length) (x : ν) : L.set p (L[p].1, x) = L.map (fun q => if q.1 = L[p].1 then (L[p].1, x) else q) := by
  apply List.ext_getElem (by simp)
  intro i h1 h2
  rw [List.getElem_map, List.getElem_set]
  have hi : i < L.length := by simpa using h1
  by_cases hip : p = i
  · subst hip; simp
  · have : L[i].1 ≠ L[p].1 := by
      intro e
      have hh := List.pairwise_iff_getElem.1 hn
      rcases Nat.lt_or_gt_of_ne hip with hlt | hlt
      · have := hh p i (by simpa using hp) (by simpa using hi) hlt
        simp at this; exact this e.symm
      · have := hh i p (by simpa using hi) (by simpa using hp) hlt
        simp at this; exact this e
    simp [hip, this]
theorem Cpl.app {rs rs' : List RF} {V : View} (h : Cpl rs V) (hn : (V.map Prod.fst).Nodup) {s : ByteArray} {l : List UInt8} (ha : RApp rs s l rs') : Cpl rs' (vapp V s l) := by
  rcases ha with ⟨hp, v', rfl⟩ | ⟨r, v', hr, rfl⟩
  · have hg : mget V s = none := by
      rw [h.get hn, hp]; simp
    have hv : vapp V s l = V ++ [(s, (l, 0))] := by
      unfold vapp vget
      rw [mput_none (by exact hg), hg]; rfl
    rw [hv]
    refine ⟨?_, ?_⟩
    · have h1 := (rlay_perm rs ⟨s, v', l, 0⟩).map (fun r => (r.name, (r.data, r.safe)))
      refine h1.trans ?_
      simp only [List.map_cons]
      refine (List.Perm.cons _ h.perm).trans ?_
      exact (List.perm_append_comm (l₁ := [(s, (l, 0))]) (l₂ := V))
    · rw [rlay_ins]
      refine insF_sorted h.sorted (fun r hr e => ?_)
      have hm : (r.name, (r.data, r.safe)) ∈ V := h.perm.mem_iff.1 (List.mem_map.2 ⟨r, hr, rfl⟩)
      exact lookup_none_ne hg _ hm e.symm
  · have hname := rplace_name hr
    obtain ⟨hlt, hre⟩ := List.getElem?_eq_some_iff.1 hr
    have hg : mget V s = some (r.data, r.safe) := by rw [h.get hn, hr]; rfl
    have hv : vapp V s l = V.map (fun q => if q.1 = s then (s, (r.data ++ l, r.safe)) else q) := by
      unfold vapp vget
      rw [mput_some hg, hg]; rfl
    rw [hv]
    have hnr : ((rview rs).map Prod.fst).Nodup := (h.perm.map _).nodup_iff.2 hn
    have hlt' : rplace rs s < (rview rs).length := by simpa [rview] using hlt
    have hk : (rview rs)[rplace rs s].1 = s := by simp [rview, hre, hname]
    have hset := set_map hnr hlt' (r.data ++ l, r.safe)
    rw [hk] at hset
    refine ⟨?_, ?_⟩
    · have e : rview (rs.set (rplace rs s) ⟨r.name, v', r.data ++ l, r.safe⟩) = (rview rs).set (rplace rs s) (s, (r.data ++ l, r.safe)) := by
        simp [rview, List.map_set, hname]
      rw [e, hset]
      exact h.perm.map _
    · have e : (rs.set (rplace rs s) ⟨r.name, v', r.data ++ l, r.safe⟩).map RF.name = rs.map RF.name := by
        rw [List.map_set]
        have : (rs.map RF.name)[rplace rs s]? = some r.name := by rw [List.getElem?_map, hr]; rfl
        obtain ⟨h1, h2⟩ := List.getElem?_eq_some_iff.1 this
        show (rs.map RF.name).set (rplace rs s) r.name = _
        have h3 := List.set_getElem_self h1
        rw [h2] at h3
        exact h3
      have hs2 : (rs.map RF.name).Pairwise (fun a b => bs a < bs b) := List.pairwise_map.2 h.sorted
      rw [← e] at hs2
      exact (List.pairwise_map (f := RF.name) (R := fun a b => bs a < bs b)).1 hs2
end Go.Proofs.Ytmflfimenacflaa

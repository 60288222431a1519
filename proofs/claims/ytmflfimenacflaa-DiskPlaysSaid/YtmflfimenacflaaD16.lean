/- The plain laws on what a disk reads as. -/
import Derived.Test.YtmflfimenacflaaD12
import Derived.Sort.Walk0
set_option linter.unusedVariables false
set_option linter.unusedSimpArgs false
namespace Go.Proofs.Ytmflfimenacflaa
open Go.RowKit Gb Go.Sort
/-! plain laws on the disk's state -/
def VOk (V : View) : Prop := (∀ p ∈ V, okName p.1 = true) ∧ (V.map Prod.fst).Nodup
theorem fst_mput {κ ν : Type} [DecidableEq κ] {m : List (κ × ν)} {k : κ} {v : ν} : (mput m k v).map Prod.fst = if (mget m k).isSome then m.map Prod.fst else m.map Prod.fst ++ [k] := by
  cases h : mget m k with
  | none => rw [mput_none h]; simp
  | some y =>
    rw [mput_some h, List.map_map]
    simp only [Option.isSome_some, if_true]
    refine List.map_congr_left fun p _ => ?_
    simp only [Function.comp]
    split
    · rename_i e; exact e.symm
    · rfl
theorem VOk.put {V : View} (h : VOk V) {s : ByteArray} (hs : okName s = true) (x : List UInt8 × Nat) : VOk (mput V s x) := by
  refine ⟨fun p hp => ?_, ?_⟩
  · rcases mem_mput hp with rfl | ⟨hp, _⟩
    · exact hs
    · exact h.1 p hp
  · rw [fst_mput]
    split
    · exact h.2
    · rename_i hn
      have hg : mget V s = none := by cases hm : mget V s with | none => rfl | some y => rw [hm] at hn; exact absurd rfl hn
      rw [List.nodup_append]
      refine ⟨h.2, by simp, fun a ha b hb => ?_⟩
      rw [List.mem_singleton.1 hb]
      obtain ⟨p, hp, rfl⟩ := List.mem_map.1 ha
      exact lookup_none_ne hg p hp
theorem VOk.del {V : View} (h : VOk V) (s : ByteArray) : VOk (mdel V s) := ⟨fun p hp => h.1 p ((mdel_sub V s).subset hp), mdel_nodup h.2 s⟩
theorem VOk.dels {V : View} (h : VOk V) (ss : List ByteArray) : VOk (vdels V ss) := by
  induction ss generalizing V with
  | nil => exact h
  | cons s ss ih => exact ih (h.del s)
theorem VOk.get {V : View} (h : VOk V) {s : ByteArray} {x : List UInt8 × Nat} (hs : mget V s = some x) : okName s = true := h.1 _ (mem_of_lookup hs)
theorem VOk.sync {V : View} (h : VOk V) (s : ByteArray) : VOk (vsync V s) := by
  unfold vsync
  split
  · rename_i hs; exact h.put (h.get hs) _
  · exact h
theorem VOk.syncs {V : View} (h : VOk V) (ss : List ByteArray) : VOk (vsyncs V ss) := by
  induction ss generalizing V with
  | nil => exact h
  | cons s ss ih => exact ih (h.sync s)
theorem VOk.crs {V : View} (h : VOk V) (cuts : List Int) (ss : List ByteArray) : VOk (vcrs V cuts ss).1 := by
  unfold vcrs
  suffices hh : ∀ st : View × List Int, VOk st.1 → VOk (ss.foldl vcr st).1 from hh (V, cuts) h
  clear h
  induction ss with
  | nil => intro st h; exact h
  | cons s ss ih =>
    intro st h
    refine ih _ ?_
    unfold vcr
    split
    · exact h
    · rename_i hs
      split
      · exact h
      · exact h.put (h.get hs) _
theorem VOk.app {V : View} (h : VOk V) {s : ByteArray} (hs : okName s = true) (l : List UInt8) : VOk (vapp V s l) := h.put hs _
theorem VOk.ren {V : View} (h : VOk V) {a b : ByteArray} (hs : okName b = true) : VOk (vren V a b) := (h.del a).put hs _
theorem appE_ok {V : View} {cap : Int} {name : ByteArray} {n : Nat} (h : appE V cap name n = 0) : okName name = true := by
  unfold appE at h; split at h
  · assumption
  · cases h
theorem renE_ok {V : View} {a b : ByteArray} (h : renE V a b = 0) : okName b = true := by
  unfold renE at h; split at h
  · rename_i h1; exact (Bool.and_eq_true _ _ ▸ h1).2
  · cases h
/-! the names, sorted -/
theorem snames_perm (V : View) : (snames V).Perm (V.map Prod.fst) := by
  unfold snames
  have h := (List.mergeSort_perm (V.map (fun p => bs p.1)) leB).map mk
  refine h.trans ?_
  rw [List.map_map]
  have : (mk ∘ fun p : ByteArray × (List UInt8 × Nat) => bs p.1) = Prod.fst := by funext p; simp [mk_bs]
  rw [this]
theorem snames_length (V : View) : (snames V).length = V.length := by have := (snames_perm V).length_eq; simpa using this
theorem snames_mem {V : View} (h : VOk V) {s : ByteArray} (hs : s ∈ snames V) : ∃ x, mget V s = some x ∧ okName s = true := by
  have h1 := (snames_perm V).mem_iff.1 hs
  obtain ⟨p, hp, rfl⟩ := List.mem_map.1 h1
  exact ⟨p.2, lookup_mem h.2 hp, h.1 p hp⟩
theorem readE_in {V : View} (h : VOk V) {s : ByteArray} (hs : s ∈ snames V) : readE V s = 0 := by
  obtain ⟨x, hx, ho⟩ := snames_mem h hs
  simp [readE, ho, hx]
theorem bs_inj {a b : ByteArray} (h : bs a = bs b) : a = b := by rw [← mk_bs a, ← mk_bs b, h]
theorem snames_lt {V : View} (h : VOk V) : (snames V).Pairwise (fun a b => bs a < bs b) := by
  have hnd : (snames V).Nodup := (snames_perm V).nodup_iff.2 h.2
  have hs : ((V.map (fun p => bs p.1)).mergeSort leB).Pairwise (fun a b => leB a b = true) :=
    List.pairwise_mergeSort (fun a b c h1 h2 => by simp only [leB, decide_eq_true_eq] at *; exact List.le_trans h1 h2) (fun a b => by simp only [leB, Bool.or_eq_true, decide_eq_true_eq]; exact List.le_total a b) _
  have h2 : (snames V).Pairwise (fun a b => bs a ≤ bs b) := by
    unfold snames
    rw [List.pairwise_map]
    refine hs.imp ?_
    intro a b hab
    simp only [leB, decide_eq_true_eq] at hab
    rw [bs_mk, bs_mk]; exact hab
  refine (h2.and hnd).imp ?_
  intro a b ⟨h3, h4⟩
  rcases List.le_iff_lt_or_eq.1 h3 with h5 | h5
  · exact h5
  · exact absurd (bs_inj h5) h4
def lens (V : View) (l : List ByteArray) : Nat := (l.map (fun s => (vget V s).1.length)).sum
theorem lens_snames {V : View} (h : VOk V) : lens V (snames V) = vused V := by
  unfold lens vused
  have hp := (snames_perm V).map (fun s => (vget V s).1.length)
  rw [hp.sum_nat, List.map_map]
  congr 1
  refine List.map_congr_left fun p hp => ?_
  simp only [Function.comp, vget]
  rw [lookup_mem h.2 hp]; rfl
end Go.Proofs.Ytmflfimenacflaa

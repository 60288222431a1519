/- slices.SortFunc over rows of structs, in the words of the base. -/
import Derived.Test.YtngganllammcpaaGbPut
import Derived.Shelf.SlSortCmp.NoneTotal
set_option linter.unusedVariables false
set_option linter.unusedSimpArgs false
set_option linter.unusedVariables false
set_option linter.unusedSimpArgs false
namespace Gb
open Go Go.RowKit Go.Proofs Go.Shelf Go.Lib Go.Sort
section
variable {α : Type} [Inhabited α] {enc : α → List Value} {sz : Nat}
theorem SRow.holdsK (hl : ∀ x, (enc x).length = sz) (hsz : 0 < sz) {w : World} {e : TypeId} {g n c : Nat} {xs : List α} (h : SRow enc sz w e (.slice (some ⟨g, 0, none⟩) n c) xs) : HoldsK enc sz w g 0 xs.toArray := by
  intro j hj
  have hj' : j < xs.length * sz := by simpa using hj
  have hk : j / sz < xs.length := Nat.div_lt_of_lt_mul (by rw [Nat.mul_comm]; exact hj')
  have hm : j % sz < sz := Nat.mod_lt _ hsz
  obtain ⟨g', he, ho, hf, hc⟩ := h.at hl hk
  cases he
  rw [get_flatK enc sz xs.toArray j (by simpa using hj')]
  refine ⟨?_, hf _⟩
  have hc' := hc (j % sz) ((enc xs[j / sz])[j % sz]'(by rw [hl]; exact hm)) (by simp)
  have e1 : j / sz * sz + j % sz = 0 + j := by rw [Nat.zero_add, Nat.mul_comm]; exact Nat.div_add_mod j sz
  rw [e1] at hc'
  rw [hc']
  have e2 : xs.toArray[j / sz]! = xs[j / sz] := by simp [getElem!_pos, hk]
  rw [e2]
  simp [getElem!_pos, hl, hm]
theorem putRow_row {w : World} {g size n c : Nat} {e : TypeId} {xs : List Value} (h : RowAt w e size (.slice (some ⟨g, 0, none⟩) n c) n xs) (F : Array Value) (hF : F.size = n * size) :
    RowAt (putRow id w g 0 F) e size (.slice (some ⟨g, 0, none⟩) n c) n F.toList ∧ Step (At g) w (putRow id w g 0 F) := by
  rcases h.2 with ⟨h0, _⟩ | ⟨g', cap, cur, hv, hg, hnc, hcm, hcs, htake⟩
  · cases h0
  · cases hv
    have hsz : n * size ≤ cur.size := Nat.le_trans (Nat.mul_le_mul_right _ hnc) hcs
    refine ⟨⟨by simpa using hF, .inr ⟨g, c, putCells id 0 F cur, rfl, ?_, hnc, hcm, by simpa [putCells] using hcs, ?_⟩⟩, ⟨rfl, rfl, rfl, by simp [putRow, mapBlock], fun k _ hn => ?_⟩⟩
    · simp [putRow, mapBlock, Array.getElem?_modify, hg, onCells]
    · apply List.ext_getElem?
      intro j
      rw [List.getElem?_take, Array.getElem?_toList]
      by_cases hj : j < n * size
      · have hjc : j < cur.size := by omega
        simp only [if_pos hj, putCells, Array.getElem?_mapIdx, Array.getElem?_eq_getElem hjc, Option.map_some]
        rw [if_pos (by omega)]
        have : j < F.size := by omega
        simp [getElem!_pos, this]
      · rw [if_neg hj]
        have : F.toList.length ≤ j := by simp; omega
        rw [List.getElem?_eq_none this]
    · have hne : g ≠ k := fun e => hn e.symm
      simp [putRow, mapBlock, Array.getElem?_modify, hne]
theorem flatK_list (hl : ∀ x, (enc x).length = sz) (hsz : 0 < sz) (d : Array α) : (flatK enc sz d).toList = d.toList.flatMap enc := by
  apply List.ext_getElem?
  intro j
  by_cases hj : j < d.size * sz
  · have hk : j / sz < d.toList.length := by rw [Array.length_toList]; exact Nat.div_lt_of_lt_mul (by rw [Nat.mul_comm]; exact hj)
    have hm : j % sz < sz := Nat.mod_lt _ hsz
    have e1 : j / sz * sz + j % sz = j := by rw [Nat.mul_comm]; exact Nat.div_add_mod j sz
    have h1 := flat_at hl d.toList hk (j % sz) hm
    rw [e1] at h1
    rw [h1, Array.getElem?_toList]
    have h2 := get_flatK enc sz d j hj
    have hjs : j < (flatK enc sz d).size := by simpa using hj
    rw [getElem!_pos _ j hjs] at h2
    rw [Array.getElem?_eq_getElem hjs, h2]
    have hkd : j / sz < d.size := by simpa using hk
    have e2 : d[j / sz]! = d.toList[j / sz] := by simp [getElem!_pos, hkd]
    rw [e2]
    have hme : j % sz < (enc d.toList[j / sz]).length := by rw [hl]; exact hm
    rw [getElem!_pos (enc d.toList[j / sz]) (j % sz) hme, List.getElem?_eq_getElem hme]
  · have n1 : (flatK enc sz d).toList.length ≤ j := by have := size_flatK enc sz d; rw [Array.length_toList]; omega
    have n2 : (d.toList.flatMap enc).length ≤ j := by have := flat_len hl d.toList; have h2 : d.toList.length = d.size := Array.length_toList; rw [this, h2]; omega
    rw [List.getElem?_eq_none n1, List.getElem?_eq_none n2]
theorem step_grow (S : Nat → Prop) (w : World) (os : Array Obj) : Step S w (grow w os) :=
  ⟨rfl, rfl, rfl, by simp [grow], fun k hk _ => by simp [grow, Array.getElem?_append, hk]⟩
theorem step_ahead (S : Nat → Prop) (w : World) (n : Nat) : Step S w (Sort.ahead w n) := ⟨rfl, rfl, rfl, Nat.le_refl _, fun _ _ _ => rfl⟩
/-- behind the sort the row holds d' -/
theorem SRow.sorted (hl : ∀ x, (enc x).length = sz) (hsz : 0 < sz) {w : World} {e : TypeId} {g n c : Nat} {xs : List α} (h : SRow enc sz w e (.slice (some ⟨g, 0, none⟩) n c) xs) (d' : Array α) (hd : d'.size = xs.length) (m : Nat) (os : Array Obj) :
    SRow enc sz (sortWorldK enc sz w g 0 m d' os) e (.slice (some ⟨g, 0, none⟩) n c) d'.toList ∧ Step (At g) w (sortWorldK enc sz w g 0 m d' os) := by
  obtain ⟨A, c', hv, _⟩ := h.slice
  cases hv
  have h1 : RowAt (Sort.ahead w m) e sz (.slice (some ⟨g, 0, none⟩) xs.length c) xs.length (xs.flatMap enc) := RowAt.stepNo h (step_ahead _ _ _)
  obtain ⟨h2, h3⟩ := putRow_row h1 (flatK enc sz d') (by rw [size_flatK, hd])
  rw [flatK_list hl hsz] at h2
  refine ⟨?_, ((step_ahead (At g) w m).trans' h3).trans' (step_grow (At g) _ os)⟩
  have e9 : d'.toList.length = xs.length := by simpa using hd
  unfold SRow
  rw [e9]
  exact RowAt.stepNo h2 (step_grow No _ os)
/-- slices.SortFunc -/
theorem sortFunc_row {P : Program} {ρ : Ren} (L : SlLaysF0.n6 P ρ) (aE : ∀ w, (isAgg (ρ.t 24)).run P w = .ok true w) (zE : ∀ w, (Go.sizeOf (ρ.t 24)).run P w = .ok sz w) (hl : ∀ x, (enc x).length = sz) (hsz : 0 < sz) (h1 : ∀ x, ∀ v ∈ enc x, v.oneCell' = true) (cf : α → α → Int) (hO : SWO (ltOf cf)) (g : Nat) (cb : Array Value)
    (eg : ∀ args w, (callFunc g args).run P w = .ok (.enter g args) w) {e : TypeId} {v : Value} {xs : List α} {w : World} (h : SRow enc sz w e v xs) (hx : xs.length < 4611686018427387904)
    (hcmp : ∀ x y W, Step (Own v) w W → Calls P g (#[.agg (enc x).toArray, .agg (enc y).toArray] ++ cb) W fun e w' => e = .returned (.int .i64 (cf x y)) ∧ ∃ q os', w' = grow (W.drewN q) os') :
    Calls P (ρ.f 6) #[v, .func (.func g) #[] cb] w fun r w' => r = .returned (.tuple #[]) ∧ ∃ ys : List α, ys.Perm xs ∧ ys.Pairwise (fun a b => ltOf cf b a = false) ∧ SRow enc sz w' e v ys ∧ Step (Own v) w w' := by
  obtain ⟨A, c, rfl, hc, hcm, hA⟩ := h.slice
  by_cases hn : xs.length = 0
  · have hxs : xs = [] := List.eq_nil_of_length_eq_zero hn
    subst hxs
    refine (AnyF.slices_SortFunc_none L A c (.func (.func g) #[] cb) w).mono ?_
    rintro r w' ⟨rfl, rfl⟩
    exact ⟨rfl, [], List.Perm.nil, List.Pairwise.nil, h, Step.refl _ _⟩
  · obtain ⟨gb, rfl, ho, _, _⟩ := h.at hl (k := 0) (by omega)
    have hblk : gb < w.heap.size := RowAt.lt h ho
    refine (AnyQ.slices_SortFunc L sz aE zE enc hl h1 cf hO g cb gb 0 c xs.toArray w eg ?_ (h.holdsK hl hsz) hblk (by simpa using hx)).mono ?_
    · intro m os dk hdk x y
      refine hcmp x y _ ?_
      exact (SRow.sorted hl hsz h dk (by simpa using hdk) m os).2.mono (fun k hk => by cases hk; exact ho)
    · rintro r w' ⟨rfl, d', n, os, hp, hs, rfl⟩
      have hps : d'.size = xs.length := by simpa using hp.1
      obtain ⟨r1, r2⟩ := SRow.sorted hl hsz h d' hps n os
      refine ⟨rfl, d'.toList, ?_, ?_, r1, r2.mono (fun k hk => by cases hk; exact ho)⟩
      · have h3 := hp.2.2
        have e1 : d'.extract 0 xs.toArray.size = d' := by rw [List.size_toArray, ← hps, Array.extract_size]
        have e2 : xs.toArray.extract 0 xs.toArray.size = xs.toArray := Array.extract_size
        rw [e1, e2] at h3
        simpa using h3
      · rw [List.pairwise_iff_getElem]
        intro i j hi hj hij
        have := hs i j (Nat.zero_le _) hij (by simp at hj ⊢; omega)
        have hi' : i < d'.size := by simpa using hi
        have hj' : j < d'.size := by simpa using hj
        rw [getElem!_pos d' j hj', getElem!_pos d' i hi'] at this
        simpa using this
end
end Gb

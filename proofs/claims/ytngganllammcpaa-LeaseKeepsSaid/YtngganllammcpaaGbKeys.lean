/- From a map as an association list to the library's words on a map, for the contracts on its sorted keys. -/
import Derived.Test.YtngganllammcpaaGbMaps
import Derived.Sort.KeysCollected
set_option linter.unusedVariables false
set_option linter.unusedSimpArgs false
namespace Gb
open Go Go.RowKit Go.Maps Go.WideElems Go.Sort
def anyR (_ : Value) : Option (DataW Unit × List MemPlace) := some (.nil, [])
def bs (s : ByteArray) : List UInt8 := s.data.toList
theorem bs_length (s : ByteArray) : (bs s).length = s.size := by unfold bs; rw [Array.length_toList]; rfl
theorem MapAt.owns {ν : Type} {P : Program} {k : TypeId} {vv : ν → Value} {w : World} {b : Nat} {m : List (ByteArray × ν)} (hk : P.underlying k = some .string) (h : MapAt P k Value.string vv w b m) (hm : m.length ≤ maxLen) :
    ∃ D, w.ownsMap P k anyR b m.length D ∧ Maps.size D = m.length ∧ (strKeys D).Perm (m.map (fun p => bs p.1)) := by
  obtain ⟨es, clock, hb, h1, h2, h3⟩ := h
  have hl : es.toList.length = m.length := by have := congrArg List.length h1; simpa using this
  have hrd : ∀ e ∈ es.toList, ∃ l, keyOf P k e.key = some l ∧ rd P k anyR e = some (l, .nil) := by
    intro e he
    obtain ⟨l, hl⟩ := h2 e he
    exact ⟨l, hl, by simp [rd, hl, anyR]⟩
  refine ⟨_, ⟨es, clock, hb, ⟨by rw [← Array.length_toList, hl]; exact hm, h3, fun e he => ?_⟩, by simpa using Nat.le_of_eq hl, rfl⟩, ?_, ?_⟩
  · obtain ⟨l, _, h⟩ := hrd e he; exact ⟨_, h⟩
  · simp [Maps.size, length_sorted, ← hl]
  · have hp := (Go.WideShapes.sorted_perm (es.toList.map (rg P k (anyR)))).map (fun p => strOf p.1)
    refine hp.trans ?_
    have : (es.toList.map (rg P k anyR)).map (fun p => strOf p.1) = m.map (fun p => bs p.1) := by
      have h4 : es.toList.map (fun e => e.key) = m.map (fun p => Value.string p.1) := by
        have := congrArg (List.map Prod.fst) h1
        simpa [List.map_map, Function.comp_def] using this
      have h5 : (es.toList.map (rg P k anyR)).map (fun p => strOf p.1) = es.toList.map (fun e => match e.key with | .string s => bs s | _ => []) := by
        rw [List.map_map]
        refine List.map_congr_left fun e he => ?_
        obtain ⟨l, hl1, hl2⟩ := hrd e he
        simp only [Function.comp, rg_of hl2]
        have hek : ∃ p ∈ m, e.key = Value.string p.1 := by
          have : e.key ∈ es.toList.map (fun e => e.key) := List.mem_map.2 ⟨e, he, rfl⟩
          rw [h4] at this
          obtain ⟨p, hp, h⟩ := List.mem_map.1 this
          exact ⟨p, hp, h.symm⟩
        obtain ⟨p, _, hpe⟩ := hek
        rw [hpe] at hl1 ⊢
        have : l = .string p.1.data.toList := by
          simp [keyOf, hk, mapKey] at hl1
          exact hl1.2.symm
        rw [this]; rfl
      rw [h5]
      have h6 := congrArg (List.map (fun v => match v with | Value.string s => bs s | _ => [])) h4
      simpa [List.map_map, Function.comp_def] using h6
    rw [this]
end Gb

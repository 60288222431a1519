/- What values say: a representation tells of a list of cells which datum they hold, in which world, and within which blocks it is read. Plain cells, pairs, slices; reading an element; rows of the call's own. -/
import Derived.Test.YtngganllammcpaaGbRow
import Derived.Laws.BytesArg
set_option linter.unusedVariables false
set_option linter.unusedSimpArgs false
namespace Gb
open Go Go.RowKit

structure Rep (α : Type) where
  sz : Nat
  K : World → (Nat → Prop) → α → List Value → Prop
  len : ∀ {w F x cs}, K w F x cs → cs.length = sz
  one : ∀ {w F x cs}, K w F x cs → ∀ u ∈ cs, u.oneCell' = true
  mono : ∀ {w F F' x cs}, K w F x cs → (∀ k, F k → F' k) → K w F' x cs
  move : ∀ {w w' : World} {F x cs}, K w F x cs → (∀ k, F k → k < w.heap.size → w'.heap[k]? = w.heap[k]?) → K w' F x cs

theorem Rep.step {α : Type} (d : Rep α) {w w' : World} {F S : Nat → Prop} {x : α} {cs : List Value} (h : d.K w F x cs) (hs : Step S w w') (hd : ∀ k, F k → ¬ S k) : d.K w' F x cs :=
  d.move h (fun k hk hlt => hs.block k hlt (hd k hk))

/-- plain cells -/
def Rep.plain {α : Type} (sz : Nat) (enc : α → List Value) (hl : ∀ x, (enc x).length = sz) (ho : ∀ x, ∀ u ∈ enc x, u.oneCell' = true) : Rep α where
  sz := sz
  K _ _ x cs := cs = enc x
  len h := by rw [h]; exact hl _
  one h := by rw [h]; exact ho _
  mono h _ := h
  move h _ := h
/-- one plain cell, of a value that is in order -/
def Rep.cell {α : Type} (enc : α → Value) (ok : α → Prop) (ho : ∀ x, (enc x).oneCell' = true) : Rep α where
  sz := 1
  K _ _ x cs := cs = [enc x] ∧ ok x
  len h := by rw [h.1]; rfl
  one h := by intro u hu; rw [h.1] at hu; rw [List.mem_singleton.1 hu]; exact ho _
  mono h _ := h
  move h _ := h
def u8 (b : UInt8) : Value := .int .u8 b.toNat
/-- within an int's range -/
def I64 (x : Int) : Prop := -9223372036854775808 ≤ x ∧ x ≤ 9223372036854775807
def StrOk (s : ByteArray) : Prop := s.size ≤ 9223372036854775807
def Yes {α : Type} (_ : α) : Prop := True
def Rep.u8 : Rep UInt8 := Rep.cell Gb.u8 Yes (fun _ => rfl)
def Rep.int : Rep Int := Rep.cell (Value.int .i64) I64 (fun _ => rfl)
def Rep.str : Rep ByteArray := Rep.cell Value.string StrOk (fun _ => rfl)
def Rep.bool : Rep Bool := Rep.cell Value.bool Yes (fun _ => rfl)

def Rep.pair {α β : Type} (a : Rep α) (b : Rep β) : Rep (α × β) where
  sz := a.sz + b.sz
  K w F x cs := ∃ c1 c2, cs = c1 ++ c2 ∧ a.K w F x.1 c1 ∧ b.K w F x.2 c2
  len h := by obtain ⟨c1, c2, rfl, h1, h2⟩ := h; simp [a.len h1, b.len h2]
  one h := by
    obtain ⟨c1, c2, rfl, h1, h2⟩ := h
    intro u hu
    rcases List.mem_append.1 hu with hu | hu
    · exact a.one h1 u hu
    · exact b.one h2 u hu
  mono h hF := by obtain ⟨c1, c2, rfl, h1, h2⟩ := h; exact ⟨c1, c2, rfl, a.mono h1 hF, b.mono h2 hF⟩
  move h hw := by obtain ⟨c1, c2, rfl, h1, h2⟩ := h; exact ⟨c1, c2, rfl, a.move h1 hw, b.move h2 hw⟩
def Rep.iso {α β : Type} (a : Rep α) (f : β → α) : Rep β where
  sz := a.sz
  K w F x cs := a.K w F (f x) cs
  len h := a.len h
  one h := a.one h
  mono h hF := a.mono h hF
  move h hw := a.move h hw

/-- a slice whose elements are read -/
def Rep.slice {α : Type} (d : Rep α) : Rep (List α) where
  sz := 1
  K w F xs cs := ∃ A c, cs = [.slice A xs.length c] ∧ xs.length ≤ c ∧ c ≤ maxLen ∧ (A = none → c = 0) ∧
    ∀ i x, xs[i]? = some x → ∃ ad es, A = some ad ∧ F ad.block ∧ d.K w F x es ∧ ∀ j u, es[j]? = some u → w.cell? (ad.add (i * d.sz + j)) = some u
  len h := by obtain ⟨A, c, rfl, _⟩ := h; rfl
  one h := by obtain ⟨A, c, rfl, _⟩ := h; intro u hu; rw [List.mem_singleton.1 hu]; rfl
  mono h hF := by
    obtain ⟨A, c, rfl, h1, h2, h3, h4⟩ := h
    refine ⟨A, c, rfl, h1, h2, h3, fun i x hx => ?_⟩
    obtain ⟨ad, es, e1, e2, e3, e4⟩ := h4 i x hx
    exact ⟨ad, es, e1, hF _ e2, d.mono e3 hF, e4⟩
  move {w w' F x cs} h hw := by
    obtain ⟨A, c, rfl, h1, h2, h3, h4⟩ := h
    refine ⟨A, c, rfl, h1, h2, h3, fun i x hx => ?_⟩
    obtain ⟨ad, es, e1, e2, e3, e4⟩ := h4 i x hx
    refine ⟨ad, es, e1, e2, d.move e3 hw, fun j u hu => ?_⟩
    have hc := e4 j u hu
    refine (World.cell?_of_block (w := w) ?_).trans hc
    have hlt := World.block_lt_of_cell? w _ hc
    rw [add_block] at hlt ⊢
    exact hw _ e2 hlt

/-- v is a slice that reads as the list, within F -/
def Rd {α : Type} (d : Rep α) (w : World) (F : Nat → Prop) (v : Value) (xs : List α) : Prop := d.slice.K w F xs [v]

section
variable {α : Type} {d : Rep α} {w w' : World} {F F' S : Nat → Prop} {v : Value} {xs : List α}
theorem Rd.step (h : Rd d w F v xs) (hs : Step S w w') (hd : ∀ k, F k → ¬ S k) : Rd d w' F v xs := d.slice.step h hs hd
theorem Rd.stepNo (h : Rd d w F v xs) (hs : Step No w w') : Rd d w' F v xs := d.slice.step h hs (fun _ _ h => h)
theorem Rd.mono (h : Rd d w F v xs) (hF : ∀ k, F k → F' k) : Rd d w F' v xs := d.slice.mono h hF
theorem Rd.slice (h : Rd d w F v xs) : ∃ A c, v = .slice A xs.length c ∧ xs.length ≤ c ∧ c ≤ maxLen ∧ (A = none → c = 0) := by
  obtain ⟨A, c, hv, h1, h2, h3, _⟩ := h
  exact ⟨A, c, by simpa using hv, h1, h2, h3⟩
theorem Rd.le (h : Rd d w F v xs) : xs.length ≤ maxLen := by
  obtain ⟨A, c, hv, h1, h2, _⟩ := h
  exact Nat.le_trans h1 h2
/-- the shape, and the elements' cells -/
theorem Rd.open (h : Rd d w F v xs) : ∃ A c, v = .slice A xs.length c ∧ xs.length ≤ c ∧ c ≤ maxLen ∧ (A = none → c = 0) ∧
    ∀ i x, xs[i]? = some x → ∃ ad es, A = some ad ∧ F ad.block ∧ d.K w F x es ∧ ∀ j u, es[j]? = some u → w.cell? (ad.add (i * d.sz + j)) = some u := by
  obtain ⟨A, c, hv, h1, h2, h3, h4⟩ := h
  exact ⟨A, c, by simpa using hv, h1, h2, h3, h4⟩
theorem Rd.nilc {A : Option Addr} {n c : Nat} (h : Rd d w F (.slice A n c) xs) : A = none → c = 0 ∧ n = 0 := by
  obtain ⟨A', c', hv, h1, _, h3, _⟩ := h.open
  cases hv
  intro hA
  have := h3 hA
  omega
theorem Rd.nil (d : Rep α) (w : World) (F : Nat → Prop) : Rd d w F (.slice none 0 0) [] := ⟨none, 0, rfl, Nat.le_refl _, Nat.zero_le _, fun _ => rfl, fun i x h => by simp at h⟩
end

/-- elements of one plain cell: the cell at index i -/
theorem Rd.at {α : Type} {enc : α → Value} {ok : α → Prop} {ho : ∀ x, (enc x).oneCell' = true} {w : World} {F : Nat → Prop} {A : Option Addr} {n c : Nat} {xs : List α} (h : Rd (Rep.cell enc ok ho) w F (.slice A n c) xs) {i : Nat} (hi : i < xs.length) :
    ∃ ad, A = some ad ∧ F ad.block ∧ w.cell? (ad.add i) = some (enc xs[i]) ∧ ok xs[i] := by
  obtain ⟨A', c', hv, h1, h2, h3, h4⟩ := h.open
  cases hv
  obtain ⟨ad, es, e1, e2, e3, e4⟩ := h4 i xs[i] (by simp [hi])
  refine ⟨ad, e1, e2, ?_, e3.2⟩
  have he : es = [enc xs[i]] := e3.1
  have := e4 0 (enc xs[i]) (by rw [he]; rfl)
  simpa [Rep.cell] using this
/-- elements that are slices: the slice at index i -/
theorem Rd.atSlice {α : Type} {d : Rep α} {w : World} {F : Nat → Prop} {A : Option Addr} {n c : Nat} {xs : List (List α)} (h : Rd d.slice w F (.slice A n c) xs) {i : Nat} (hi : i < xs.length) :
    ∃ ad v, A = some ad ∧ F ad.block ∧ w.cell? (ad.add i) = some v ∧ Rd d w F v xs[i] := by
  obtain ⟨A', c', hv, h1, h2, h3, h4⟩ := h.open
  cases hv
  obtain ⟨ad, es, e1, e2, e3, e4⟩ := h4 i xs[i] (by simp [hi])
  obtain ⟨A2, c2, he, _⟩ := id e3
  refine ⟨ad, .slice A2 xs[i].length c2, e1, e2, ?_, by rw [he] at e3; exact e3⟩
  have := e4 0 _ (by rw [he]; rfl)
  simpa [Rep.slice] using this
theorem Rd.all {α : Type} {enc : α → Value} {ok : α → Prop} {ho : ∀ x, (enc x).oneCell' = true} {w : World} {F : Nat → Prop} {v : Value} {xs : List α} (h : Rd (Rep.cell enc ok ho) w F v xs) : ∀ x ∈ xs, ok x := by
  intro x hx
  obtain ⟨i, hi, rfl⟩ := List.getElem_of_mem hx
  obtain ⟨A, c, rfl, _⟩ := h.slice
  obtain ⟨_, _, _, _, h4⟩ := h.at hi
  exact h4

theorem Rd.cells {α : Type} {enc : α → Value} {ok : α → Prop} {ho : ∀ x, (enc x).oneCell' = true} {w : World} {F : Nat → Prop} {A : Option Addr} {n c : Nat} {xs : List α} (h : Rd (Rep.cell enc ok ho) w F (.slice A n c) xs) :
    ∀ ad, A = some ad → ∀ j u, (xs.map enc)[j]? = some u → w.cell? (ad.add j) = some u := by
  intro ad hA j u hu
  have hj : j < xs.length := by have := (List.getElem?_eq_some_iff.1 hu).1; simpa using this
  obtain ⟨ad', h1, _, h2, _⟩ := h.at hj
  rw [hA] at h1; cases h1
  rw [h2]
  rw [List.getElem?_map, List.getElem?_eq_getElem hj] at hu
  exact hu
/-- cells of a list of elements laid out one behind the other -/
def flat {α : Type} (enc : α → List Value) (xs : List α) : List Value := xs.flatMap enc

/-- a row of the call's own whose elements are plain reads as them -/
theorem Rd.of_row {α : Type} {enc : α → Value} {ok : α → Prop} {ho : ∀ x, (enc x).oneCell' = true} {w : World} {e : TypeId} {v : Value} {xs : List α} {F : Nat → Prop} (h : RowAt w e 1 v xs.length (xs.map enc))
    (hF : ∀ k, Own v k → F k) (hok : ∀ x ∈ xs, ok x) : Rd (Rep.cell enc ok ho) w F v xs := by
  obtain ⟨A, c, hv, h1, h2, h3⟩ := h.slice
  refine ⟨A, c, by rw [hv], h1, h2, h3, fun i x hx => ?_⟩
  have hi : i < xs.length := (List.getElem?_eq_some_iff.1 hx).1
  obtain ⟨g, c', hv', _, hg, _, hc⟩ := h.form (by omega)
  rw [hv] at hv'; cases hv'
  refine ⟨⟨g, 0, none⟩, [enc x], rfl, hF g (by rw [hv]; rfl), ⟨rfl, hok x (List.mem_of_getElem? hx)⟩, fun j u hu => ?_⟩
  have hj : j = 0 ∧ u = enc x := by
    cases j with
    | zero => simp at hu; exact ⟨rfl, hu.symm⟩
    | succ j => simp at hu
  obtain ⟨rfl, rfl⟩ := hj
  have := hc i (enc x) (by rw [List.getElem?_map, hx]; rfl)
  rw [add_plain]
  simpa [Rep.cell] using this
/-- the cells of element i of a slice of structs, written as the walk writes them -/
theorem Rd.cellsAt {α : Type} {d : Rep α} {w : World} {F : Nat → Prop} {A : Option Addr} {n c : Nat} {xs : List α} (h : Rd d w F (.slice A n c) xs) {i : Nat} (hi : i < xs.length) (hsz : 0 < d.sz) :
    ∃ ad b off cs, A = some ad ∧ F b ∧ ad.add (i * d.sz) = ⟨b, off, none⟩ ∧ d.K w F xs[i] cs ∧ ∀ j u, cs[j]? = some u → w.cell? ⟨b, off + j, none⟩ = some u := by
  obtain ⟨A', c', hv, h1, h2, h3, h4⟩ := h.open
  cases hv
  obtain ⟨ad, es, e1, e2, e3, e4⟩ := h4 i xs[i] (by simp [hi])
  have hl := d.len e3
  have h0 := e4 0 es[0] (by simp [hl, hsz])
  have hsp : (ad.add (i * d.sz)).spot = none := by
    rw [Nat.add_zero] at h0
    unfold World.cell? at h0
    split at h0
    · split at h0
      · cases h0
      · rename_i hn; simpa using hn
    · cases h0
  obtain ⟨b, off, spot, hp⟩ : ∃ b off spot, ad.add (i * d.sz) = ⟨b, off, spot⟩ := ⟨_, _, _, rfl⟩
  rw [hp] at hsp
  simp only at hsp
  subst hsp
  refine ⟨ad, b, off, es, e1, ?_, hp, e3, fun j u hu => ?_⟩
  · have := add_block ad (i * d.sz)
    rw [hp] at this
    simp only at this
    rw [this]; exact e2
  · have := e4 j u hu
    rw [← add_add, hp] at this
    have ha : (⟨b, off, none⟩ : Addr).add j = ⟨b, off + j, none⟩ := by unfold Addr.add; split <;> simp_all
    rwa [ha] at this
/-- xs[m:] of what is read, without a case on the capacity -/
theorem Rd.cut {P : Program} {α : Type} {d : Rep α} {w : World} {F : Nat → Prop} (t e : TypeId) (kl : IntKind) {i : TypeInfo} (ht : P.underlying t = some (.slice e)) (hi : P.info? e = some i) (hsz : i.size = d.sz) {A : Option Addr} {n c : Nat} {xs : List α}
    (h : Rd d w F (.slice A n c) xs) (m : Nat) (hm : m ≤ n) :
    ∃ A' : Option Addr, (∀ W : World, (Instr.slice t (.slice A n c) (some (.int kl (m : Int))) none none).run P W = .ok (.slice A' (n - m) (c - m)) W) ∧ Rd d w F (.slice A' (n - m) (c - m)) (xs.drop m) := by
  obtain ⟨A', c', hv, h1, h2, h3, h4⟩ := h.open
  cases hv
  refine ⟨if c = m then A else A.map (·.add (m * d.sz)), fun W => ?_, ?_⟩
  · have hel : P.elem t = e := by simp [Program.elem, ht]
    have hu : P.underlying t = some (.slice (P.elem t)) := by rw [hel]; exact ht
    rw [run_slice_l W t A xs.length c hu kl (m : Int) (Int.natCast_nonneg _) (by omega), hel]
    simp [Go.sizeOf, typeInfo, hi, hsz, sliced, Result.andThen]
  · refine ⟨_, c - m, by rw [List.length_drop], by rw [List.length_drop]; omega, by omega, fun hA => ?_, fun i x hx => ?_⟩
    · split at hA
      · omega
      · cases A with
        | none => have := h3 rfl; omega
        | some a => simp at hA
    · rw [List.getElem?_drop] at hx
      obtain ⟨ad, es, e1, e2, e3, e4⟩ := h4 (m + i) x hx
      have hlt : m + i < xs.length := (List.getElem?_eq_some_iff.1 hx).1
      rw [if_neg (by omega), e1]
      refine ⟨ad.add (m * d.sz), es, rfl, by rw [add_block]; exact e2, e3, fun j u hu => ?_⟩
      rw [add_add, ← Nat.add_assoc, ← Nat.add_mul]
      exact e4 j u hu
def mk (l : List UInt8) : ByteArray := ⟨l.toArray⟩
/-- string(b) -/
theorem Rd.string {P : Program} {src dst e : TypeId} {w : World} {F : Nat → Prop} {v : Value} {l : List UInt8} (h : Rd Rep.u8 w F v l) (hs : P.underlying src = some (.slice e)) (he : P.underlying e = some (.int .u8)) (hd : P.underlying dst = some .string) :
    (convert src dst v).run P w = .ok (.string (mk l)) w := by
  obtain ⟨A, c, rfl, h1, h2, h3⟩ := h.slice
  have hnum : strOfNums (l.map (fun b => (b.toNat : Int))) = mk l := by
    simp [strOfNums, mk, List.map_map, Function.comp_def]
  cases A with
  | none =>
    have := h3 rfl
    have hl : l = [] := List.eq_nil_of_length_eq_zero (by omega)
    subst hl
    exact run_convert_bytes_nil w src e hs he _ _ dst hd
  | some ad =>
    by_cases hl : l.length = 0
    · have hl' : l = [] := List.eq_nil_of_length_eq_zero hl
      subst hl'
      rw [run_convert_bytes_string w src dst e _ _ c hs he hd]
      simp [Conv.bytesToString, loadCells, loadCellsFrom, mk]
      rfl
    · have hsp : ad.spot = none := by
        obtain ⟨ad', e1, _, hc, _⟩ := h.at (i := 0) (by omega)
        cases e1
        simp only [Addr.add, if_pos] at hc
        unfold World.cell? at hc
        split at hc
        · split at hc
          · cases hc
          · rename_i hn; simpa using hn
        · cases hc
      obtain ⟨b, off, spot⟩ := ad
      simp only at hsp
      subst hsp
      rw [← hnum]
      refine run_convert_bytes_arg w src e hs he b off l.length c _ (by simp) (fun i hi => ?_) dst hd
      obtain ⟨ad', e1, _, hc, _⟩ := h.at hi
      cases e1
      have ha : (⟨b, off, none⟩ : Addr).add i = ⟨b, off + i, none⟩ := by unfold Addr.add; split <;> simp_all
      rw [ha] at hc
      rw [hc]
      simp [u8, List.getD_eq_getElem?_getD, hi]
end Gb

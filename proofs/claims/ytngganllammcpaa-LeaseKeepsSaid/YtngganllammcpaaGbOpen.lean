/- From a row's reading of an argument ('trod', with its weights) to a representation (Rep): what the walks take. For bools, ints, bytes, strings, structs of these, slices of these. -/
import Derived.Test.YtngganllammcpaaGbRep
import Derived.SizedLaws
import Derived.Deep.Slices
set_option linter.unusedVariables false
set_option linter.unusedSimpArgs false
namespace Gb
open Go Go.RowKit

structure Opens (P : Program) (t : TypeId) {α : Type} (d : Rep α) (Sz : α → Prop) : Prop where
  cells : P.cellsOf t = d.sz
  get : ∀ {H : Type} {enc : TypeId × Value → H} {W : World} {base : Nat} {sp : Nat → Bool} {held : Bool} {fuel : Nat} {cs : List Value} {D : DataW H} {ps : List MemPlace},
    DataW.trod enc P W base sp held fuel t cs = some (D, ps) → (∀ n ∈ D.weights P t, n ≤ reachBytes) → ∃ x, d.K W (fun k => k < W.heap.size) x cs ∧ Sz x

section
variable {H : Type} {enc : TypeId × Value → H} {P : Program} {W : World} {base : Nat} {sp : Nat → Bool} {held : Bool} {fuel : Nat} {cs : List Value} {x : DataW H × List MemPlace} {t : TypeId}
theorem leaf_bool (hu : P.underlying t = some .bool) (h : DataW.trod enc P W base sp held fuel t cs = some x) : ∃ b, cs = [.bool b] := by
  cases fuel with
  | zero => simp [DataW.trod] at h
  | succ n =>
    unfold DataW.trod at h
    rw [hu] at h
    split at h <;> simp_all
theorem leaf_int {k : IntKind} (hu : P.underlying t = some (.int k)) (h : DataW.trod enc P W base sp held fuel t cs = some x) : ∃ m, cs = [.int k m] ∧ (Lit.int k m).wf = true := by
  cases fuel with
  | zero => simp [DataW.trod] at h
  | succ n =>
    unfold DataW.trod at h
    rw [hu] at h
    split at h <;> simp_all
theorem leaf_str (hu : P.underlying t = some .string) (h : DataW.trod enc P W base sp held fuel t cs = some x) : ∃ s, cs = [.string s] ∧ s.size ≤ maxLen ∧ x.1 = .lit (.string s.data.toList) := by
  cases fuel with
  | zero => simp [DataW.trod] at h
  | succ n =>
    unfold DataW.trod at h
    rw [hu] at h
    split at h <;> simp_all
    rw [← h.2]
end
theorem Opens.bool {P : Program} {t : TypeId} (hu : P.underlying t = some .bool) (hc : P.cellsOf t = 1) : Opens P t Rep.bool (fun _ => True) := by
  refine ⟨hc, ?_⟩
  intro H enc W base sp held fuel cs D ps h _
  obtain ⟨b, rfl⟩ := leaf_bool hu h
  exact ⟨b, ⟨rfl, trivial⟩, trivial⟩
theorem Opens.int {P : Program} {t : TypeId} (hu : P.underlying t = some (.int .i64)) (hc : P.cellsOf t = 1) : Opens P t Rep.int (fun x => I64 x) := by
  refine ⟨hc, ?_⟩
  intro H enc W base sp held fuel cs D ps h _
  obtain ⟨m, rfl, hm⟩ := leaf_int hu h
  have hx : I64 m := by simpa [Lit.wf, IntKind.min, IntKind.max, IntKind.signed, IntKind.bits, I64] using hm
  exact ⟨m, ⟨rfl, hx⟩, hx⟩
theorem Opens.u8 {P : Program} {t : TypeId} (hu : P.underlying t = some (.int .u8)) (hc : P.cellsOf t = 1) : Opens P t Rep.u8 (fun _ => True) := by
  refine ⟨hc, ?_⟩
  intro H enc W base sp held fuel cs D ps h _
  obtain ⟨m, rfl, hm⟩ := leaf_int hu h
  have hx : 0 ≤ m ∧ m ≤ 255 := by simpa [Lit.wf, IntKind.min, IntKind.max, IntKind.signed, IntKind.bits] using hm
  refine ⟨UInt8.ofNat m.toNat, ⟨?_, trivial⟩, trivial⟩
  have : ((UInt8.ofNat m.toNat).toNat : Int) = m := by
    rw [UInt8.toNat_ofNat']
    omega
  show [Value.int .u8 m] = [Gb.u8 _]
  unfold Gb.u8
  rw [this]
theorem Opens.str {P : Program} {t : TypeId} (hu : P.underlying t = some .string) (hc : P.cellsOf t = 1) : Opens P t Rep.str (fun s => s.size ≤ 140737488351232) := by
  refine ⟨hc, ?_⟩
  intro H enc W base sp held fuel cs D ps h hw
  obtain ⟨s, rfl, _, hD⟩ := leaf_str hu h
  have h1 : s.size ≤ 140737488351232 := by
    have hD' : D = .lit (.string s.data.toList) := hD
    have := hw s.data.toList.length (by rw [hD']; simp [DataW.weights])
    rw [Array.length_toList] at this
    exact this
  exact ⟨s, ⟨rfl, by unfold StrOk; omega⟩, h1⟩
theorem weightsAll_mem {H : Type} {P : Program} {e : TypeId} {l : List (DataW H)} {i : Nat} {D : DataW H} (h : l[i]? = some D) {n : Nat} (hn : n ∈ D.weights P e) : n ∈ DataW.weightsAll P e l := by
  induction l generalizing i with
  | nil => simp at h
  | cons a l ih =>
    simp only [DataW.weightsAll, List.mem_append]
    cases i with
    | zero => simp at h; subst h; exact .inl hn
    | succ i => exact .inr (ih (by simpa using h))
theorem Opens.slice {P : Program} {t e : TypeId} {α : Type} {d : Rep α} {Sz : α → Prop} (b : Nat) (ho : Opens P e d Sz) (hu : P.underlying t = some (.slice e)) (hb : P.bytesOf e = b) (hc : P.cellsOf t = 1) (hd : 0 < d.sz) :
    Opens P t d.slice (fun l => l.length * b ≤ 140737488351232 ∧ ∀ x ∈ l, Sz x) := by
  refine ⟨hc, ?_⟩
  intro H enc W base sp held fuel cs D ps h hw
  rcases Go.Deep.open_slice hu h with ⟨rfl, hx⟩ | ⟨a, len, cap, m, n, Df, Pl, rfl, hb', hl, hm, hmm, hx, hcell⟩
  · exact ⟨[], ⟨none, 0, rfl, Nat.le_refl _, Nat.zero_le _, fun _ => rfl, fun i x hx => by simp at hx⟩, by simp, by simp⟩
  · have hDx : D = .slice ((List.range len).map Df) ((List.range (m - len)).map fun j => Df (len + j)) := by
      have := congrArg Prod.fst hx; simpa using this
    have hlm : len ≤ m := by rw [hmm]; split <;> omega
    have key : ∀ i, i < len → ∃ x : α, (∃ es, W.cells? base (a.add (i * P.cellsOf e)) (P.cellsOf e) = some es ∧ d.K W (fun k => k < W.heap.size) x es) ∧ Sz x := by
      intro i hi
      obtain ⟨es, h1, h2⟩ := hcell i (by omega)
      obtain ⟨x, hx1, hx2⟩ := ho.get h2 (fun k hk => hw k (by
        rw [hDx]
        simp only [DataW.weights, hu, List.mem_cons, List.mem_append]
        exact .inr (.inl (weightsAll_mem (i := i) (by simp [hi]) hk))))
      exact ⟨x, ⟨es, h1, hx1⟩, hx2⟩
    obtain ⟨xs, hlen, hxs⟩ : ∃ xs : List α, xs.length = len ∧ ∀ i x, xs[i]? = some x → (∃ es, W.cells? base (a.add (i * P.cellsOf e)) (P.cellsOf e) = some es ∧ d.K W (fun k => k < W.heap.size) x es) ∧ Sz x := by
      clear hcell hx hDx hlm hmm hl hm h hw hb'
      induction len with
      | zero => exact ⟨[], rfl, fun i x hx => by simp at hx⟩
      | succ k ih =>
        obtain ⟨xs, h1, h2⟩ := ih (fun i hi => key i (by omega))
        obtain ⟨x, hx⟩ := key k (by omega)
        refine ⟨xs ++ [x], by simp [h1], fun i y hy => ?_⟩
        by_cases hi : i < xs.length
        · rw [List.getElem?_append_left hi] at hy; exact h2 i y hy
        · have hlt := (List.getElem?_eq_some_iff.1 hy).1
          have hik : i = xs.length := by simp at hlt; omega
          subst hik
          simp at hy
          subst hy
          rw [h1]; exact hx
    refine ⟨xs, ⟨some a, cap, by rw [hlen], by omega, hm, (fun h => by cases h), (fun i x hx' => ?_)⟩, ?_, (fun x hx' => ?_)⟩
    · obtain ⟨⟨es, h1, h2⟩, _⟩ := hxs i x hx'
      obtain ⟨_, h3, h4⟩ := World.cells?_some h1
      have hsz := d.len h2
      have hcells : ∀ j u, es[j]? = some u → W.cell? (a.add (i * d.sz + j)) = some u := by
        intro j u hu'
        have hj : j < P.cellsOf e := by rw [← h3]; exact (List.getElem?_eq_some_iff.1 hu').1
        have := h4 j hj
        rw [add_add, ho.cells] at this
        rw [this]; exact hu'
      have h0 : 0 < es.length := by omega
      have hc0 := hcells 0 es[0] (by simp [h0])
      have hlt := World.block_lt_of_cell? W _ hc0
      rw [add_block] at hlt
      exact ⟨a, es, rfl, hlt, h2, hcells⟩
    · have := hw (((List.range len).map Df).length + ((List.range (m - len)).map fun j => Df (len + j)).length) |> fun _ => hw ((((List.range len).map Df).length + ((List.range (m - len)).map fun j => Df (len + j)).length) * P.bytesOf e) (by rw [hDx]; simp [DataW.weights, hu])
      rw [hb] at this
      simp only [List.length_map, List.length_range] at this
      rw [hlen]
      refine Nat.le_trans (Nat.mul_le_mul_right b (show len ≤ len + (m - len) by omega)) ?_
      exact this
    · obtain ⟨i, hi, rfl⟩ := List.getElem_of_mem hx'
      exact (hxs i _ (by simp [hi])).2
structure FOpens (P : Program) (off : Nat) (fs : List Field) {α : Type} (d : Rep α) (Sz : α → Prop) : Prop where
  get : ∀ {H : Type} {enc : TypeId × Value → H} {W : World} {base : Nat} {sp : Nat → Bool} {held : Bool} {n : Nat} {cs : List Value} {xs : List (DataW H × List MemPlace)},
    cs.length = off + d.sz → xs.length = fs.length → (∀ (i : Nat) (f : Field), fs[i]? = some f → DataW.trod enc P W base sp held n f.type ((cs.drop f.offset).take (P.cellsOf f.type)) = xs[i]?) →
    (∀ m ∈ DataW.weightsEach P (fs.map (·.type)) (xs.map (·.1)), m ≤ reachBytes) → ∃ x, d.K W (fun k => k < W.heap.size) x (cs.drop off) ∧ Sz x
theorem FOpens.last {P : Program} {off : Nat} {f : Field} {α : Type} {d : Rep α} {Sz : α → Prop} (ho : Opens P f.type d Sz) (hf : f.offset = off) : FOpens P off [f] d Sz := by
  refine ⟨?_⟩
  intro H enc W base sp held n cs xs hl hx hg hw
  obtain ⟨y, rfl⟩ : ∃ y, xs = [y] := by
    match xs, hx with
    | [y], _ => exact ⟨y, rfl⟩
  have h := hg 0 f rfl
  rw [hf, ho.cells] at h
  rw [List.take_of_length_le (by simp; omega)] at h
  exact ho.get (D := y.1) (ps := y.2) (by simpa using h) (fun m hm => hw m (by simpa [DataW.weightsEach] using hm))
theorem FOpens.cons {P : Program} {off : Nat} {f : Field} {fs : List Field} {α β : Type} {d1 : Rep α} {d2 : Rep β} {S1 : α → Prop} {S2 : β → Prop} (ho : Opens P f.type d1 S1) (hf : f.offset = off) (hr : FOpens P (off + d1.sz) fs d2 S2) : FOpens P off (f :: fs) (d1.pair d2) (fun x => S1 x.1 ∧ S2 x.2) := by
  refine ⟨?_⟩
  intro H enc W base sp held n cs xs hl hx hg hw
  obtain ⟨y, ys, rfl⟩ : ∃ y ys, xs = y :: ys := by
    match xs, hx with
    | y :: ys, _ => exact ⟨y, ys, rfl⟩
  have hsz : (d1.pair d2).sz = d1.sz + d2.sz := rfl
  have h := hg 0 f rfl
  rw [hf, ho.cells] at h
  obtain ⟨a, ha1, ha2⟩ := ho.get (D := y.1) (ps := y.2) (by simpa using h) (fun m hm => hw m (by simp only [List.map_cons, DataW.weightsEach, List.mem_append]; exact .inl hm))
  obtain ⟨b, hb1, hb2⟩ := hr.get (enc := enc) (W := W) (base := base) (sp := sp) (held := held) (n := n) (cs := cs) (xs := ys) (by omega) (by simpa using hx) (fun i g hgi => by simpa using hg (i + 1) g (by simpa using hgi)) (fun m hm => hw m (by simp only [List.map_cons, DataW.weightsEach, List.mem_append]; exact .inr hm))
  refine ⟨(a, b), ⟨_, _, ?_, ha1, hb1⟩, ha2, hb2⟩
  rw [← List.drop_drop, List.take_append_drop]
theorem Opens.struct {P : Program} {t : TypeId} {fs : Array Field} {α : Type} {d : Rep α} {Sz : α → Prop} (hu : P.underlying t = some (.struct fs)) (hf : FOpens P 0 fs.toList d Sz) (hc : P.cellsOf t = d.sz) : Opens P t d Sz := by
  refine ⟨hc, ?_⟩
  intro H enc W base sp held fuel cs D ps h hw
  obtain ⟨xs, n, _, hx, hl, hlen, hg⟩ := DataW.trod_struct hu h
  have hD : D = .agg (xs.map (·.1)) := by have := congrArg Prod.fst hx; simpa using this
  have := hf.get (enc := enc) (W := W) (base := base) (sp := sp) (held := held) (n := n) (cs := cs) (xs := xs) (by omega) (by simpa using hlen) (fun i f hfi => hg i f (by simpa using hfi)) (fun m hm => hw m (by rw [hD]; simp only [DataW.weights, hu]; exact hm))
  simpa using this
theorem Opens.iso {P : Program} {t : TypeId} {α β : Type} {d : Rep α} {Sz : α → Prop} (ho : Opens P t d Sz) (f : β → α) (g : α → β) (hfg : ∀ a, f (g a) = a) : Opens P t (d.iso f) (fun b => Sz (f b)) := by
  refine ⟨ho.cells, ?_⟩
  intro H enc W base sp held fuel cs D ps h hw
  obtain ⟨x, h1, h2⟩ := ho.get h hw
  refine ⟨g x, ?_, by rw [hfg]; exact h2⟩
  show d.K W _ (f (g x)) cs
  rw [hfg]; exact h1
theorem Opens.weaken {P : Program} {t : TypeId} {α : Type} {d : Rep α} {Sz Sz' : α → Prop} (ho : Opens P t d Sz) (h : ∀ x, Sz x → Sz' x) : Opens P t d Sz' := by
  refine ⟨ho.cells, ?_⟩
  intro H enc W base sp held fuel cs D ps h1 hw
  obtain ⟨x, h2, h3⟩ := ho.get h1 hw
  exact ⟨x, h2, h _ h3⟩
/-- an argument's weights, out of all -/
theorem weights_at {H : Type} {P : Program} {ts : List TypeId} {ds : List (DataW H)} (h : (DataW.weightsEach P ts ds).all (· ≤ reachBytes) = true) {j : Nat} {t : TypeId} {D : DataW H} (ht : ts[j]? = some t) (hd : ds[j]? = some D) : ∀ n ∈ D.weights P t, n ≤ reachBytes := by
  intro n hn
  have := List.all_eq_true.1 h _ (DataW.weights_mem_each ht hd n hn)
  simpa using this
/-- a slice argument: reads, with its sizes -/
theorem Opens.arg {P : Program} {t : TypeId} {α : Type} {d : Rep α} {Sz : α → Prop} (ho : Opens P t d Sz) {H : Type} {enc : TypeId × Value → H} {W : World} {base : Nat} {sp : Nat → Bool} {held : Bool} {v : Value} {D : DataW H} {ps : List MemPlace}
    (h : DataW.Trod enc P W base sp held t v D ps) (hw : ∀ n ∈ D.weights P t, n ≤ reachBytes) : ∃ x, d.K W (fun k => k < W.heap.size) x v.cells.toList ∧ Sz x := by
  obtain ⟨fuel, hf⟩ := h
  exact ho.get hf hw
end Gb

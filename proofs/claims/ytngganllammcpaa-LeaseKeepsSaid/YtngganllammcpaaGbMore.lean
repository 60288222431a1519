/- General lemmas behind the base: maps as lists, rows, copies, slices cut, rows of structs. -/
import Derived.Test.YtngganllammcpaaGbMaps
import Derived.Test.YtngganllammcpaaGbRep
import Derived.Test.YtngganllammcpaaGbKeys
import Derived.Laws.CopyOwn
import Derived.Laws.MakeOwn
set_option linter.unusedVariables false
set_option linter.unusedSimpArgs false
set_option linter.unusedVariables false
set_option linter.unusedSimpArgs false
namespace Gb
open Go Go.RowKit
theorem ret_int {k : IntKind} {a b : Int} (h : a = b) : Ending.returned (.int k a) = .returned (.int k b) := by rw [h]

theorem ret_bool {a b : Bool} (h : a = b) : Ending.returned (.bool a) = .returned (.bool b) := by rw [h]

theorem idx_found {α : Type} {p : α → Bool} {xs : List α} {k : Nat} {x : α} (hx : xs[k]? = some x) (hall : (xs.take k).all (fun b => !p b) = true) (hp : p x = true) : xs.findIdx? p = some k := by
  have hk : k < xs.length := (List.getElem?_eq_some_iff.1 hx).1
  have hxe : xs[k] = x := (List.getElem?_eq_some_iff.1 hx).2
  rw [List.findIdx?_eq_some_iff_getElem]
  refine ⟨hk, by rw [hxe]; exact hp, fun j hj => ?_⟩
  have := List.all_eq_true.1 hall (xs[j]'(by omega)) (List.mem_take_iff_getElem.2 ⟨j, by omega, rfl⟩)
  simpa using this

theorem all_snoc {α : Type} {p : α → Bool} {xs : List α} {k : Nat} {x : α} (hx : xs[k]? = some x) (hall : (xs.take k).all p = true) (hp : p x = true) : (xs.take (k + 1)).all p = true := by
  have hk : k < xs.length := (List.getElem?_eq_some_iff.1 hx).1
  have hxe : xs[k] = x := (List.getElem?_eq_some_iff.1 hx).2
  rw [List.take_succ_eq_append_getElem hk, List.all_append, hall, hxe]
  simp [hp]

/-- a predicate's closure at bytes -/
def idx {α : Type} (p : α → Bool) (xs : List α) : Int := match xs.findIdx? p with | some i => (i : Int) | none => -1

theorem idx_nonneg {α : Type} (p : α → Bool) (xs : List α) : (decide (0 ≤ idx p xs)) = xs.any p := by
  unfold idx
  cases h : xs.findIdx? p with
  | none =>
    have := List.findIdx?_eq_none_iff.1 h
    have h2 : xs.any p = false := List.any_eq_false.2 (fun x hx => by simpa using this x hx)
    rw [h2]; rfl
  | some i =>
    obtain ⟨hi, h1, _⟩ := List.findIdx?_eq_some_iff_getElem.1 h
    have h2 : xs.any p = true := List.any_eq_true.2 ⟨_, List.getElem_mem hi, h1⟩
    rw [h2]; simp

theorem mput_some {κ ν : Type} [DecidableEq κ] {m : List (κ × ν)} {k : κ} {y : ν} (h : mget m k = some y) (v : ν) : mput m k v = m.map (fun p => if p.1 = k then (k, v) else p) := by
  unfold mput; rw [h]; rfl

theorem mput_none {κ ν : Type} [DecidableEq κ] {m : List (κ × ν)} {k : κ} (h : mget m k = none) (v : ν) : mput m k v = m ++ [(k, v)] := by
  unfold mput; rw [h]; rfl

theorem mem_mput {κ ν : Type} [DecidableEq κ] {m : List (κ × ν)} {k : κ} {v : ν} {p : κ × ν} (h : p ∈ mput m k v) : p = (k, v) ∨ (p ∈ m ∧ p.1 ≠ k) := by
  cases hg : mget m k with
  | none =>
    rw [mput_none hg] at h
    rcases List.mem_append.1 h with h | h
    · exact .inr ⟨h, lookup_none_ne hg p h⟩
    · exact .inl (List.mem_singleton.1 h)
  | some y =>
    rw [mput_some hg] at h
    obtain ⟨q, hq, rfl⟩ := List.mem_map.1 h
    split
    · exact .inl rfl
    · rename_i hne; exact .inr ⟨hq, hne⟩

theorem u8_one (l : List UInt8) : ∀ u ∈ l.map u8, u.oneCell' = true := by
  intro u hu
  obtain ⟨b, _, rfl⟩ := List.mem_map.1 hu
  rfl

theorem len_mput_le {κ ν : Type} [DecidableEq κ] (m : List (κ × ν)) (k : κ) (v : ν) : (mput m k v).length ≤ m.length + 1 := by
  cases h : mget m k with
  | none => rw [mput_none h]; simp
  | some y => rw [mput_some h]; simp

theorem len_mput_some {κ ν : Type} [DecidableEq κ] {m : List (κ × ν)} {k : κ} {y : ν} (h : mget m k = some y) (v : ν) : (mput m k v).length = m.length := by rw [mput_some h]; simp

theorem mk_bs (s : ByteArray) : mk (bs s) = s := by unfold mk bs; cases s; simp
theorem bs_mk (l : List UInt8) : bs (mk l) = l := by unfold mk bs; simp
theorem bs_inj {a b : ByteArray} (h : bs a = bs b) : a = b := by rw [← mk_bs a, ← mk_bs b, h]

theorem tl_eq {a b : ByteArray} (h : a = b) : (a.toList == b.toList) = true := by rw [h]; exact beq_self_eq_true _

theorem tl_ne {a b : ByteArray} (h : a ≠ b) : (a.toList == b.toList) = false := by
  rw [beq_eq_false_iff_ne]
  intro e
  rw [ByteArray.toList_eq, ByteArray.toList_eq] at e
  exact h (bs_inj e)

theorem mget_perm {κ ν : Type} [DecidableEq κ] {a b : List (κ × ν)} (h : a.Perm b) (hn : (b.map Prod.fst).Nodup) (k : κ) : mget a k = mget b k := by
  have hna : (a.map Prod.fst).Nodup := (h.map _).nodup_iff.2 hn
  cases hb : mget b k with
  | none =>
    cases ha : mget a k with
    | none => rfl
    | some x =>
      have := h.mem_iff.1 (mem_of_lookup ha)
      exact absurd rfl (lookup_none_ne hb _ this)
  | some x =>
    have := h.mem_iff.2 (mem_of_lookup hb)
    exact lookup_mem hna this

/-- xs[m:] of a row, without a case on the capacity -/
theorem RowAt.cutL {P : Program} {w : World} {e : TypeId} {size n c : Nat} {A : Option Addr} {xs : List Value} {i : TypeInfo} (t : TypeId) (kl : IntKind) (h : RowAt w e size (.slice A n c) n xs) (ht : P.underlying t = some (.slice e)) (hi : P.info? e = some i) (hsz : i.size = size) (m : Nat) (hm : m ≤ n) :
    ∃ A' : Option Addr, (∀ W : World, (Instr.slice t (.slice A n c) (some (.int kl (m : Int))) none none).run P W = .ok (.slice A' (n - m) (c - m)) W) ∧ (A' = none → c - m = 0 ∧ n - m = 0) ∧ ∀ ad, A' = some ad → ∀ j u, (xs.drop (m * size))[j]? = some u → w.cell? (ad.add j) = some u := by
  obtain ⟨A', c', hv, h1, h2, h3⟩ := h.slice
  cases hv
  refine ⟨if c = m then A else A.map (·.add (m * size)), fun W => ?_, fun hA => ?_, fun ad hA j u hu => ?_⟩
  · have hel : P.elem t = e := by simp [Program.elem, ht]
    have hu : P.underlying t = some (.slice (P.elem t)) := by rw [hel]; exact ht
    rw [run_slice_l W t A n c hu kl (m : Int) (Int.natCast_nonneg _) (by omega), hel]
    simp [Go.sizeOf, typeInfo, hi, hsz, sliced, Result.andThen]
  · split at hA
    · omega
    · cases A with
      | none => have := h3 rfl; omega
      | some a => simp at hA
  · have hj : m * size + j < n * size := by
      have := (List.getElem?_eq_some_iff.1 hu).1
      rw [List.length_drop, h.1] at this; omega
    have hmn : m < n := by
      rcases Nat.lt_or_ge m n with hlt | hge
      · exact hlt
      · have := Nat.mul_le_mul_right size hge; omega
    obtain ⟨g, c', hv, _, _, _, hc⟩ := h.form (by omega)
    cases hv
    rw [if_neg (by omega)] at hA
    simp only [Option.map_some, Option.some.injEq] at hA
    subst hA
    rw [add_add, add_plain]
    rw [List.getElem?_drop] at hu
    exact hc _ _ hu

theorem mdel_none {κ ν : Type} [DecidableEq κ] {m : List (κ × ν)} {k : κ} (h : ∀ p ∈ m, p.1 ≠ k) : mdel m k = m := List.filter_eq_self.2 fun p hp => by simpa using h p hp

theorem mput_perm {κ ν : Type} [DecidableEq κ] {m : List (κ × ν)} (hn : (m.map Prod.fst).Nodup) (k : κ) (v : ν) : (mput m k v).Perm ((k, v) :: mdel m k) := by
  cases hg : mget m k with
  | none =>
    rw [mput_none hg, mdel_none (lookup_none_ne hg)]
    exact List.perm_append_comm (l₁ := m) (l₂ := [(k, v)])
  | some y =>
    rw [mput_some hg]
    have hm := mem_of_lookup hg
    clear hg
    induction m with
    | nil => cases hm
    | cons p m ih =>
      simp only [List.map_cons, List.nodup_cons] at hn
      by_cases hp : p.1 = k
      · have hno : ∀ q ∈ m, q.1 ≠ k := fun q hq e => hn.1 (by rw [hp, ← e]; exact List.mem_map.2 ⟨q, hq, rfl⟩)
        have e1 : m.map (fun q => if q.1 = k then (k, v) else q) = m := by
          have : ∀ q ∈ m, (if q.1 = k then (k, v) else q) = q := fun q hq => if_neg (hno q hq)
          rw [List.map_congr_left this]; simp
        have e2 : mdel (p :: m) k = m := by
          unfold mdel
          rw [List.filter_cons_of_neg (by simp [hp])]
          exact mdel_none hno
        rw [e2, List.map_cons, e1, if_pos hp]
      · have hm' : (k, y) ∈ m := by
          rcases List.mem_cons.1 hm with h | h
          · exact absurd (by rw [← h]) hp
          · exact h
        have e2 : mdel (p :: m) k = p :: mdel m k := by
          unfold mdel
          rw [List.filter_cons_of_pos (by simpa using hp)]
        rw [e2, List.map_cons, if_neg hp]
        exact (List.Perm.cons p (ih hn.2 hm')).trans (List.Perm.swap _ _ _)

theorem mdel_perm {κ ν : Type} [DecidableEq κ] {a b : List (κ × ν)} (h : a.Perm b) (k : κ) : (mdel a k).Perm (mdel b k) := h.filter _

theorem mput_keys {κ ν : Type} [DecidableEq κ] {m : List (κ × ν)} (hn : (m.map Prod.fst).Nodup) (k : κ) (v : ν) : ((mput m k v).map Prod.fst).Nodup := by
  refine ((mput_perm hn k v).map Prod.fst).nodup_iff.2 ?_
  simp only [List.map_cons, List.nodup_cons]
  refine ⟨fun h => ?_, mdel_nodup hn k⟩
  obtain ⟨p, hp, e⟩ := List.mem_map.1 h
  have := (List.mem_filter.1 hp).2
  simp at this
  exact this e

theorem mdel_not {κ ν : Type} [DecidableEq κ] (m : List (κ × ν)) (k : κ) : ∀ p ∈ mdel m k, p.1 ≠ k := fun p hp => by have := (List.mem_filter.1 hp).2; simpa using this

theorem run_cutR {P : Program} {t e : TypeId} {i : TypeInfo} (ht : P.underlying t = some (.slice e)) (hi : P.info? e = some i) (A : Option Addr) (n c : Nat) (kl : IntKind) {h : Int} {m : Nat} (he : h = m) (hm : m ≤ c) (W : World) :
    (Instr.slice t (.slice A n c) none (some (.int kl h)) none).run P W = .ok (.slice A m c) W := by
  subst he
  have hel : P.elem t = e := by simp [Program.elem, ht]
  have hu : P.underlying t = some (.slice (P.elem t)) := by rw [hel]; exact ht
  rw [run_slice_h W t A n c hu kl (m : Int) (Int.natCast_nonneg _) (by omega), hel]
  simp [Go.sizeOf, typeInfo, hi, sliced, Result.andThen]
  intro _
  cases A with
  | none => rfl
  | some a => simp [Addr.add]

/-- copy into a row, elements of one cell -/
theorem wp_copy {P : Program} {w : World} {ops : Array Oper} {rest : List Oper} {o : Oper} {a : Act} {Q : Exit → Act → World → Prop} (hgd : o.guard = none) (d s : Operand) (dT sT e : TypeId)
    (ho : o.op = .call { callee := .builtin .copy, args := #[d, s], argTypes := #[dT, sT] }) (hu : P.underlying dT = some (.slice e)) (hsz : (P.info? e).map (·.size) = some 1)
    (v : Value) (n : Nat) (xs : List Value) (hd : a.eval d = v) (hown : RowAt w e 1 v n xs) (A : Option Addr) (m c : Nat) (hs : a.eval s = .slice A m c) (cs : List Value) (hl : cs.length = Nat.min m n)
    (hA : A = none → m = 0) (hc : ∀ ad, A = some ad → ∀ j u, cs[j]? = some u → w.cell? (ad.add j) = some u) (h1 : ∀ u ∈ cs, u.oneCell' = true)
    (h : ∀ w', RowAt w' e 1 v n (cs ++ xs.drop cs.length) → Step (Own v) w w' → w'.heap.size = w.heap.size → Stop (wpList P ops Q rest (a.put o.dst (.int .i64 (cs.length : Int))) w')) : wpList P ops Q (o :: rest) a w := by
  by_cases h0 : cs.length = 0
  · have hcs : cs = [] := List.eq_nil_of_length_eq_zero h0
    subst hcs
    obtain ⟨A2, c2, rfl, _⟩ := hown.slice
    refine wpList_copy_nothing hgd d s dT sT ho e hu hsz A2 A n c2 m c hd hs (by simpa using hl.symm) ?_
    exact h w (by simpa using hown) (Step.refl _ _) rfl
  · have hmin : Nat.min m n ≤ m ∧ Nat.min m n ≤ n := ⟨Nat.min_le_left _ _, Nat.min_le_right _ _⟩
    cases A with
    | none => have := hA rfl; omega
    | some ad =>
      rcases hown.2 with ⟨_, hn⟩ | ⟨g, cap, cur, rfl, hg, hnc, hcm, hcs, htake⟩
      · omega
      · have hsize : cs.length ≤ cur.size := by omega
        have hxl := hown.1
        refine wpList_copy_own hgd d s dT sT ho e hu hsz g 0 n cap ad m c hd hs cur e hg cs hl (hc ad rfl) (by omega) h1 ?_
        refine h _ ⟨?_, .inr ⟨g, cap, _, rfl, setRow_heap w g cur _ e _ hg, hnc, hcm, ?_, ?_⟩⟩ ⟨rfl, rfl, rfl, by simp [World.setRow], fun k _ hk => setRow_other w g k _ (fun e => hk (by simp [Own, Value.ownBlock, e]))⟩ (by simp [World.setRow])
        · simp only [List.length_append, List.length_drop, hxl]; omega
        · simp only [List.size_toArray, List.length_append, List.length_take, List.length_drop, Array.length_toList]; omega
        · simp only [List.take_zero, List.nil_append, Nat.zero_add]
          rw [List.take_append, List.take_of_length_le (by omega), ← htake, List.drop_take]

/-- make([]T, n), elements of one cell -/
theorem run_make_row {P : Program} (t e : TypeId) (ht : P.underlying t = some (.slice e)) (z : Value) (bytes : Nat) (hi : (P.info? e).map (fun i => (i.zero, i.size, i.bytes)) = some (some z, 1, bytes)) (hz : z.cells = #[z]) (n : Nat) (hb : n * bytes ≤ 281474976710656) (hm : n ≤ maxLen) (W : World) :
    (Instr.makeSlice t (.int .i64 (n : Int)) (.int .i64 (n : Int))).run P W = .ok (.slice (some ⟨W.heap.size, 0, none⟩) n n) (W.alloc (.cells (madeCells #[z] n) e)) := by
  obtain ⟨i, hi', hz0, hz1, hz2⟩ := info_open hi
  have hb' : (i.bytes : Int) * (n : Int) ≤ 281474976710656 := by
    rw [hz2]
    have : ((bytes * n : Nat) : Int) ≤ 281474976710656 := by rw [Nat.mul_comm]; omega
    simpa using this
  have h := run_make (P := P) W t e i z ht hi' hz0 .i64 .i64 (n : Int) (n : Int) (by omega) (Int.le_refl _) hb' (by unfold maxLen at hm; omega)
  simpa [hz1, hz] using h

theorem int_one (l : List Int) : ∀ u ∈ l.map (Value.int .i64), u.oneCell' = true := by
  intro u hu
  obtain ⟨b, _, rfl⟩ := List.mem_map.1 hu
  rfl

theorem RangeAt.it {κ ν : Type} {P : Program} {k : TypeId} {kv : κ → Value} {vv : ν → Value} {w : World} {b r : Nat} {m left : List (κ × ν)} {last : Option (κ × ν)} (h : RangeAt P k kv vv w b r m left last) : ∃ x y z u, w.heap[r]? = some (.mapIter x y z u) := by
  obtain ⟨_, _, _, _, _, _, _, hr, _⟩ := h
  exact ⟨_, _, _, _, hr⟩

theorem RowAt.same {w w' : World} {e : TypeId} {size n : Nat} {v : Value} {xs : List Value} (h : RowAt w e size v n xs) (hb : ∀ k, Own v k → w'.heap[k]? = w.heap[k]?) : RowAt w' e size v n xs := by
  refine ⟨h.1, ?_⟩
  rcases h.2 with h0 | ⟨g, cap, cur, rfl, hh, r⟩
  · exact .inl h0
  · exact .inr ⟨g, cap, cur, rfl, (hb g rfl).trans hh, r⟩

theorem RowAt.ne {w : World} {xb k : Nat} {cs : Array Value} {T e : TypeId} {size n : Nat} {v : Value} {xs : List Value} (hb : w.heap[xb]? = some (.cells cs T (0, 0))) (hv : RowAt w e size v n xs) (hk : Own v k) (hne : T ≠ e) : k ≠ xb := by
  obtain ⟨cells, hc⟩ := hv.typed hk
  exact fun h => ne_of_types hb hc hne h.symm

theorem all_no {α : Type} {p : α → Bool} {l : List α} {k : Nat} (hk : k < l.length) (h : p l[k] = false) : l.all p = false := by
  rw [List.all_eq_false]
  exact ⟨_, List.getElem_mem hk, by rw [h]; simp⟩

theorem all_yes {α : Type} {p : α → Bool} {l : List α} (h : ∀ j (hj : j < l.length), p l[j] = true) : l.all p = true := by
  rw [List.all_eq_true]
  intro x hx
  obtain ⟨j, hj, rfl⟩ := List.getElem_of_mem hx
  exact h j hj

/-! ### rows of structs -/
section
variable {α : Type} {enc : α → List Value} {sz : Nat}
theorem flat_len (hl : ∀ x, (enc x).length = sz) (xs : List α) : (xs.flatMap enc).length = xs.length * sz := by
  induction xs with
  | nil => simp
  | cons x xs ih => simp only [List.flatMap_cons, List.length_append, List.length_cons, hl, ih, Nat.add_mul]; omega
theorem flat_at (hl : ∀ x, (enc x).length = sz) (xs : List α) {k : Nat} (hk : k < xs.length) (j : Nat) (hj : j < sz) : (xs.flatMap enc)[k * sz + j]? = (enc xs[k])[j]? := by
  induction xs generalizing k with
  | nil => simp at hk
  | cons x xs ih =>
    rw [List.flatMap_cons]
    cases k with
    | zero =>
      rw [List.getElem?_append_left (by rw [hl]; omega)]
      simp
    | succ k =>
      rw [List.getElem?_append_right (by rw [hl, Nat.succ_mul]; omega)]
      have := ih (k := k) (by simpa using hk)
      rw [List.getElem_cons_succ, ← this]
      congr 1
      rw [hl, Nat.succ_mul]; omega
theorem flat_drop (hl : ∀ x, (enc x).length = sz) (xs : List α) (m : Nat) : (xs.flatMap enc).drop (m * sz) = (xs.drop m).flatMap enc := by
  induction xs generalizing m with
  | nil => simp
  | cons x xs ih =>
    cases m with
    | zero => simp
    | succ m =>
      rw [List.drop_succ_cons, ← ih m, List.flatMap_cons, List.drop_append, List.drop_eq_nil_of_le (by rw [hl, Nat.succ_mul]; omega), List.nil_append]
      congr 1
      rw [hl, Nat.succ_mul]; omega
theorem flat_take (hl : ∀ x, (enc x).length = sz) (xs : List α) (m : Nat) (hm : m ≤ xs.length) : (xs.flatMap enc).take (m * sz) = (xs.take m).flatMap enc := by
  have h1 : xs.flatMap enc = (xs.take m).flatMap enc ++ (xs.drop m).flatMap enc := by rw [← List.flatMap_append, List.take_append_drop]
  have h2 : ((xs.take m).flatMap enc).length = m * sz := by rw [flat_len hl, List.length_take, Nat.min_eq_left hm]
  rw [h1, List.take_append_of_le_length (by omega), List.take_of_length_le (by omega)]
theorem flat_setc (hl : ∀ x, (enc x).length = sz) (xs : List α) {k : Nat} (hk : k < xs.length) (j : Nat) (hj : j < sz) (u : Value) (x' : α) (h : enc x' = (enc xs[k]).set j u) : (xs.flatMap enc).set (k * sz + j) u = (xs.set k x').flatMap enc := by
  induction xs generalizing k with
  | nil => simp at hk
  | cons x xs ih =>
    cases k with
    | zero =>
      simp only [List.set_cons_zero, List.flatMap_cons, List.getElem_cons_zero] at *
      rw [h, List.set_append_left _ _ (by rw [hl]; omega)]
      simp
    | succ k =>
      have := ih (k := k) (by simpa using hk) (by simpa using h)
      simp only [List.set_cons_succ, List.flatMap_cons]
      rw [← this, List.set_append_right _ _ (by rw [hl, Nat.succ_mul]; omega)]
      congr 1
      rw [hl, Nat.succ_mul]
      congr 1
      omega
/-- v is a row of structs -/
def SRow (enc : α → List Value) (sz : Nat) (w : World) (e : TypeId) (v : Value) (xs : List α) : Prop := RowAt w e sz v xs.length (xs.flatMap enc)
variable {w w' : World} {e : TypeId} {v : Value} {xs : List α}
theorem SRow.nil (enc : α → List Value) (sz : Nat) (w : World) (e : TypeId) : SRow enc sz w e (.slice none 0 0) [] := RowAt.nil w e sz
theorem SRow.step {S : Nat → Prop} (h : SRow enc sz w e v xs) (hs : Step S w w') (hn : ∀ k, Own v k → ¬ S k) : SRow enc sz w' e v xs := RowAt.step h hs hn
theorem SRow.stepNo (h : SRow enc sz w e v xs) (hs : Step No w w') : SRow enc sz w' e v xs := RowAt.stepNo h hs
theorem SRow.slice (h : SRow enc sz w e v xs) : ∃ A c, v = .slice A xs.length c ∧ xs.length ≤ c ∧ c ≤ maxLen ∧ (A = none → c = 0) := RowAt.slice h
/-- element k: where it lies, and its cells -/
theorem SRow.at {A : Option Addr} {n c : Nat} (h : SRow enc sz w e (.slice A n c) xs) (hl : ∀ x, (enc x).length = sz) {k : Nat} (hk : k < xs.length) :
    ∃ g, A = some ⟨g, 0, none⟩ ∧ Own (.slice A n c) g ∧ (∀ j, w.frozen? ⟨g, j, none⟩ = false) ∧ ∀ j u, (enc xs[k])[j]? = some u → w.cell? ⟨g, k * sz + j, none⟩ = some u := by
  obtain ⟨g, c', hv, _, ho, hf, hc⟩ := RowAt.form h (by omega)
  cases hv
  refine ⟨g, rfl, rfl, hf, fun j u hu => hc _ _ ?_⟩
  have hj : j < sz := by have := (List.getElem?_eq_some_iff.1 hu).1; rw [hl] at this; exact this
  rw [flat_at hl xs hk j hj]; exact hu
theorem flat_snoc (xs : List α) (x : α) : (xs ++ [x]).flatMap enc = xs.flatMap enc ++ enc x := by simp
end
end Gb

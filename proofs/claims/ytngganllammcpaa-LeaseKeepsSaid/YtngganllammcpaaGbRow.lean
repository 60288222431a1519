/- Rows of the call's own: a slice that begins at its block's first cell and may be cut short of the block's end; what is read of it, what append makes of it. -/
import Derived.Test.YtngganllammcpaaGbStep
import Derived.Maps.AppendAt
import Derived.Laws.AppendOwnNone
set_option linter.unusedVariables false
set_option linter.unusedSimpArgs false
namespace Gb
open Go Go.RowKit

theorem add_block (a : Addr) (n : Nat) : (a.add n).block = a.block := by unfold Addr.add; split <;> rfl
theorem add_add (a : Addr) (m n : Nat) : (a.add m).add n = a.add (m + n) := by
  unfold Addr.add
  by_cases h1 : m = 0 <;> by_cases h2 : n = 0 <;> simp [h1, h2, Nat.add_assoc]
theorem add_plain (b i : Nat) : (⟨b, 0, none⟩ : Addr).add i = ⟨b, i, none⟩ := by unfold Addr.add; split <;> simp_all

/-- the slice value v, of n elements of type e (size cells each), begins at the head of an unfrozen block whose first cells are xs; or it is nil -/
def RowAt (w : World) (e : TypeId) (size : Nat) (v : Value) (n : Nat) (xs : List Value) : Prop :=
  xs.length = n * size ∧
  ((v = .slice none 0 0 ∧ n = 0) ∨
   ∃ g cap cur, v = .slice (some ⟨g, 0, none⟩) n cap ∧ w.heap[g]? = some (.cells cur e (0, 0)) ∧ n ≤ cap ∧ cap ≤ maxLen ∧ cap * size ≤ cur.size ∧ cur.toList.take (n * size) = xs)
/-- the block of a slice's row -/
def Own (v : Value) (k : Nat) : Prop := v.ownBlock = some k
/-- v's row is no block of w -/
def Fresh (w : World) (v : Value) : Prop := ∀ k, Own v k → w.heap.size ≤ k

section
variable {w w' : World} {e : TypeId} {size n : Nat} {v : Value} {xs : List Value} {S : Nat → Prop} {k : Nat}
theorem RowAt.nil (w : World) (e : TypeId) (size : Nat) : RowAt w e size (.slice none 0 0) 0 [] := ⟨by simp, .inl ⟨rfl, rfl⟩⟩
theorem RowAt.lit (w : World) (cs : Array Value) (e : TypeId) (n : Nat) (hn : cs.size = n * size) (hm : n ≤ maxLen) : RowAt (w.alloc (.cells cs e)) e size (.slice (some ⟨w.heap.size, 0, none⟩) n n) n cs.toList :=
  ⟨by simpa using hn, .inr ⟨w.heap.size, n, cs, rfl, blk_new w _, Nat.le_refl _, hm, Nat.le_of_eq hn.symm, by rw [List.take_of_length_le (by simp [hn])]⟩⟩
theorem RowAt.of_own {base : Nat} (h : w.ownsRow base e size v n xs) : RowAt w e size v n xs := by
  refine ⟨h.1, ?_⟩
  rcases h.2 with h0 | ⟨g, cap, cur, rfl, _, hh, h1, h2, h3, h4⟩
  · exact .inl h0
  · exact .inr ⟨g, cap, cur, rfl, hh, h1, h2, Nat.le_of_eq h3.symm, h4⟩
theorem fresh_of_own {w0 : World} (h : w.ownsRow w0.heap.size e size v n xs) : Fresh w0 v := fun k hk => (h.lt k hk).1
theorem Fresh.nil (w : World) : Fresh w (.slice none 0 0) := fun k hk => by cases hk
theorem Fresh.step {w1 : World} (h : Fresh w1 v) (hs : w.heap.size ≤ w1.heap.size) : Fresh w v := fun k hk => Nat.le_trans hs (h k hk)
theorem RowAt.lt (h : RowAt w e size v n xs) (hk : Own v k) : k < w.heap.size := by
  rcases h.2 with ⟨rfl, _⟩ | ⟨g, cap, cur, rfl, hh, _⟩
  · cases hk
  · cases hk; exact lt_of_blk hh
theorem RowAt.typed (h : RowAt w e size v n xs) (hk : Own v k) : ∃ cells, w.heap[k]? = some (.cells cells e (0, 0)) := by
  rcases h.2 with ⟨rfl, _⟩ | ⟨g, cap, cur, rfl, hh, _⟩
  · cases hk
  · cases hk; exact ⟨cur, hh⟩
theorem RowAt.step (h : RowAt w e size v n xs) (hs : Step S w w') (hn : ∀ k, Own v k → ¬ S k) : RowAt w' e size v n xs := by
  refine ⟨h.1, ?_⟩
  rcases h.2 with h0 | ⟨g, cap, cur, rfl, hh, r⟩
  · exact .inl h0
  · exact .inr ⟨g, cap, cur, rfl, hs.keep hh (hn g rfl), r⟩
theorem RowAt.stepNo (h : RowAt w e size v n xs) (hs : Step No w w') : RowAt w' e size v n xs := h.step hs (fun _ _ h => h)
theorem RowAt.slice (h : RowAt w e size v n xs) : ∃ A c, v = .slice A n c ∧ n ≤ c ∧ c ≤ maxLen ∧ (A = none → c = 0) := by
  rcases h.2 with ⟨rfl, rfl⟩ | ⟨g, cap, cur, rfl, _, h1, h2, _⟩
  · exact ⟨_, _, rfl, Nat.le_refl _, Nat.zero_le _, fun _ => rfl⟩
  · exact ⟨_, _, rfl, h1, h2, by intro h; cases h⟩
/-- the shape of a row that has an element, and its cells -/
theorem RowAt.form (h : RowAt w e size v n xs) (hn : 0 < n) :
    ∃ g c, v = .slice (some ⟨g, 0, none⟩) n c ∧ n ≤ c ∧ Own v g ∧ (∀ j, w.frozen? ⟨g, j, none⟩ = false) ∧ ∀ j u, xs[j]? = some u → w.cell? ⟨g, j, none⟩ = some u := by
  rcases h.2 with ⟨_, rfl⟩ | ⟨g, cap, cur, rfl, hh, h1, h2, h3, h4⟩
  · omega
  · refine ⟨g, cap, rfl, h1, rfl, fun j => blk_free hh j, fun j u hu => ?_⟩
    rw [blk_cell hh]
    rw [← h4] at hu
    have hj : j < n * size := by
      have := (List.getElem?_eq_some_iff.1 hu).1
      simp only [List.length_take] at this; omega
    rw [List.getElem?_take, if_pos hj] at hu
    simpa using hu
/-- a row cut at its beginning -/
theorem RowAt.cut (h : RowAt w e size v n xs) {g c : Nat} (hv : v = .slice (some ⟨g, 0, none⟩) n c) (m c' : Nat) (hm : m ≤ n) (hmc : m ≤ c') (hc : c' ≤ c) : RowAt w e size (.slice (some ⟨g, 0, none⟩) m c') m (xs.take (m * size)) := by
  subst hv
  rcases h.2 with ⟨h0, _⟩ | ⟨g', cap, cur, hv, hh, h1, h2, h3, h4⟩
  · cases h0
  · cases hv
    have hms : m * size ≤ n * size := Nat.mul_le_mul_right _ hm
    refine ⟨by rw [List.length_take, h.1]; omega, .inr ⟨g, c', cur, rfl, hh, hmc, by omega, Nat.le_trans (Nat.mul_le_mul_right _ hc) h3, ?_⟩⟩
    rw [← h4, List.take_take]
    congr 1; omega
/-- a cell stored -/
theorem RowAt.set {g c : Nat} (h : RowAt w e size (.slice (some ⟨g, 0, none⟩) n c) n xs) (j : Nat) (u : Value) : RowAt (w.setCell ⟨g, j, none⟩ u) e size (.slice (some ⟨g, 0, none⟩) n c) n (xs.set j u) := by
  rcases h.2 with ⟨h0, _⟩ | ⟨g', cap, cur, hv, hh, h1, h2, h3, h4⟩
  · cases h0
  · cases hv
    refine ⟨by rw [List.length_set]; exact h.1, .inr ⟨g, c, _, rfl, blk_set hh j u, h1, h2, by simpa using h3, ?_⟩⟩
    rw [Array.toList_setIfInBounds, List.take_set, h4]
end

section
variable {P : Program} {w : World}
/-- append: what it makes of a row -/
theorem run_append_row (t ty e : TypeId) (i : TypeInfo) (z : Value) (size bytes : Nat) (ht : P.underlying t = some (.slice e)) (hi : P.info? e = some i) (hz : i.zero = some z)
    (hsize : i.size = size) (hby : i.bytes = bytes) (hzs : z.cells.size = size) (hsz : 0 < size)
    (v : Value) (n : Nat) (xs : List Value) (hown : RowAt w e size v n xs)
    (a : Addr) (m c : Nat) (news : List Value) (hl : news.length = m * size) (hnews : ∀ j u, news[j]? = some u → w.cell? (a.add j) = some u) (h1 : ∀ u ∈ news, u.oneCell' = true)
    (h63 : n + m ≤ maxLen) (hbytes : (n + m) * bytes ≤ 140737488355328) :
    ∃ v' w', (Builtin.append_ #[t, t] ty #[v, .slice (some a) m c]).run P w = .ok v' w' ∧ RowAt w' e size v' (n + m) (xs ++ news) ∧ Step (Own v) w w' ∧
      (v' = .slice none 0 0 ↔ v = .slice none 0 0 ∧ m = 0) ∧ (∀ k, Own v' k → Own v k ∨ w.heap.size ≤ k) := by
  subst hsize
  subst hby
  have hsmall : n + m ≤ 9223372036854775807 := by simp only [maxLen] at h63; omega
  have hlen : (xs ++ news).length = (n + m) * i.size := by rw [List.length_append, hown.1, hl, Nat.add_mul]
  have grown : ∀ (old : Nat), old < n + m →
      RowAt (w.drew.alloc (.cells (xs.toArray ++ news.toArray ++ Builtin.zeroCells z.cells (grownCap w (n + m) old e - (n + m))) e)) e i.size
        (.slice (some ⟨w.heap.size, 0, none⟩) (n + m) (grownCap w (n + m) old e)) (n + m) (xs ++ news) := by
    intro old ho
    have hge := grownCap_ge w (n + m) old e
    have hcm : grownCap w (n + m) old e ≤ maxLen := grownCap_le_maxLen w (n + m) old e h63
    refine ⟨hlen, .inr ⟨w.heap.size, _, _, rfl, heap_alloc_new w.drew _, hge, hcm, ?_, ?_⟩⟩
    · simp only [Array.size_append, List.size_toArray, size_zeroCells, hzs, hown.1, hl, ← Nat.add_mul]
      refine Nat.le_of_eq ?_
      congr 1
      omega
    · simp only [Array.toList_append, List.append_assoc]
      rw [← List.append_assoc, ← hlen]
      exact List.take_left
  have hst : ∀ o, Step (Own v) w (w.drew.alloc o) := fun o => (Step.drew _ w).trans' (Step.alloc _ _ o)
  rcases hown.2 with ⟨rfl, rfl⟩ | ⟨g, cap, cur, rfl, hg, hnc, hcm, hcs, htake⟩
  · have hx : xs = [] := List.eq_nil_of_length_eq_zero (by simpa using hown.1)
    subst hx
    by_cases hm : m = 0
    · subst hm
      have hn : news = [] := List.eq_nil_of_length_eq_zero (by simpa using hl)
      subst hn
      refine ⟨.slice none 0 0, w, ?_, RowAt.nil w e i.size, Step.refl _ _, by simp, fun k hk => .inl hk⟩
      simp [Builtin.append_, run_underlying ht, Go.sizeOf, typeInfo, hi, Builtin.lenOf, Builtin.firstCells, loadCells, loadCellsFrom]
    · have hr := run_append_nil (P := P) w t ty e i z ht hi hz a m c news hl hnews (by omega) (by omega) (by have hb := hbytes; simp only [Nat.zero_add] at hb; omega)
      have hgr := grown 0 (by omega)
      simp only [Nat.zero_add, List.nil_append, Array.empty_append] at hgr ⊢
      exact ⟨_, _, hr, hgr, hst _, by simp [hm], fun k hk => by cases hk; exact .inr (Nat.le_refl _)⟩
  · by_cases hroom : n + m ≤ cap
    · have hfit : n * i.size + news.length ≤ cur.size := by
        rw [hl, ← Nat.add_mul]; exact Nat.le_trans (Nat.mul_le_mul_right _ hroom) hcs
      have hr := run_append_room (P := P) w t ty e i ht hi g n cap cur hg a m c news hl hnews h1 hroom hfit
      refine ⟨_, _, hr, ⟨hlen, .inr ⟨g, cap, _, rfl, setRow_heap w g cur _ e _ hg, hroom, hcm, ?_, ?_⟩⟩, ⟨rfl, rfl, rfl, by simp, fun k _ hk => setRow_other w g k _ (fun e => hk (by simp [Own, Value.ownBlock, e]))⟩, by simp, fun k hk => .inl hk⟩
      · simp only [List.size_toArray, List.length_append, List.length_take, List.length_drop, Array.length_toList]
        omega
      · rw [htake, ← hlen]
        exact List.take_left
    · have holds : ∀ j u, xs[j]? = some u → w.cell? ((⟨g, 0, none⟩ : Addr).add j) = some u := by
        intro j u hu
        have hn0 : 0 < n := by
          have := (List.getElem?_eq_some_iff.1 hu).1
          rw [hown.1] at this
          exact Nat.pos_of_mul_pos_right (Nat.lt_of_le_of_lt (Nat.zero_le _) this)
        obtain ⟨g', c', hv, _, _, _, hc⟩ := hown.form hn0
        cases hv
        rw [add_plain]; exact hc j u hu
      have hr := run_append_grow (P := P) w t ty e i z ht hi hz ⟨g, 0, none⟩ n cap xs hown.1 holds a m c news hl hnews (by omega) (by omega) (growslice_fits (by omega) hbytes)
      exact ⟨_, _, hr, grown cap (by omega), hst _, by simp, fun k hk => by cases hk; exact .inr (Nat.le_refl _)⟩

variable {ops : Array Oper} {rest : List Oper} {o : Oper} {a : Act} {Q : Exit → Act → World → Prop}
theorem info_open {e : TypeId} {z : Value} {size bytes : Nat} (hi : (P.info? e).map (fun i => (i.zero, i.size, i.bytes)) = some (some z, size, bytes)) : ∃ i, P.info? e = some i ∧ i.zero = some z ∧ i.size = size ∧ i.bytes = bytes := by
  cases hp : P.info? e with
  | none => rw [hp] at hi; cases hi
  | some i =>
    rw [hp] at hi
    simp only [Option.map_some, Option.some.injEq, Prod.mk.injEq] at hi
    exact ⟨i, rfl, hi⟩
theorem run_append_none (t ty e : TypeId) (i : TypeInfo) (size : Nat) (ht : P.underlying t = some (.slice e)) (hi : P.info? e = some i) (hsize : i.size = size) (v : Value) (n : Nat) (xs : List Value) (hown : RowAt w e size v n xs) :
    (Builtin.append_ #[t, t] ty #[v, .slice none 0 0]).run P w = .ok v w := by
  subst hsize
  rcases hown.2 with ⟨rfl, rfl⟩ | ⟨g, cap, cur, rfl, hg, hnc, hcm, hcs, htake⟩
  · simp [Builtin.append_, run_underlying ht, Go.sizeOf, typeInfo, hi, Builtin.lenOf, Builtin.firstCells, loadCells, loadCellsFrom]
  · simp [Builtin.append_, run_underlying ht, Go.sizeOf, typeInfo, hi, Builtin.lenOf, Builtin.firstCells, loadCells, loadCellsFrom, storeCells, hnc]
/-- append(s, x...) where s is a row and x is whatever can be read -/
theorem wp_append (hgd : o.guard = none) (s x : Operand) (t e : TypeId)
    (ho : o.op = .call { callee := .builtin .append, args := #[s, x], argTypes := #[t, t] })
    (z : Value) (size bytes : Nat) (ht : P.underlying t = some (.slice e)) (hi : (P.info? e).map (fun i => (i.zero, i.size, i.bytes)) = some (some z, size, bytes))
    (hzs : z.cells.size = size) (hsz : 0 < size)
    (v : Value) (n : Nat) (xs : List Value) (hs : a.eval s = v) (hown : RowAt w e size v n xs)
    (A : Option Addr) (m c : Nat) (news : List Value) (hx : a.eval x = .slice A m c) (hl : news.length = m * size) (hc : A = none → c = 0 ∧ m = 0)
    (hnews : ∀ ad, A = some ad → ∀ j u, news[j]? = some u → w.cell? (ad.add j) = some u) (h1 : ∀ u ∈ news, u.oneCell' = true)
    (h63 : n + m ≤ maxLen) (hbytes : (n + m) * bytes ≤ 140737488355328)
    (h : ∀ v' w', RowAt w' e size v' (n + m) (xs ++ news) → Step (Own v) w w' → (v' = .slice none 0 0 ↔ v = .slice none 0 0 ∧ m = 0) → (∀ k, Own v' k → Own v k ∨ w.heap.size ≤ k) → Stop (wpList P ops Q rest (a.put o.dst v') w')) :
    wpList P ops Q (o :: rest) a w := by
  obtain ⟨i, hi', hz0, hz1, hz2⟩ := info_open hi
  refine wpList_plain hgd fun K hK => ?_
  cases A with
  | none =>
    obtain ⟨rfl, rfl⟩ := hc rfl
    have : news = [] := List.eq_nil_of_length_eq_zero (by simpa using hl)
    subst this
    have hr := run_append_none (P := P) t o.type e i size ht hi' hz1 v n xs hown
    unfold Oper.wp execOp
    simp only [ho, resolve, invoke, builtin, Sem.run_bind, Sem.run_pure, Result.andThen_ok, List.map_toArray, List.map_cons, List.map_nil, hs, hx, hr]
    exact hK _ _ (h v w (by simpa using hown) (Step.refl _ _) (by simp) (fun k hk => .inl hk)).back
  | some ad =>
    obtain ⟨v', w', hr, h2, h3, h4, h5⟩ := run_append_row (P := P) t o.type e i z size bytes ht hi' hz0 hz1 hz2 hzs hsz v n xs hown ad m c news hl (hnews ad rfl) h1 h63 hbytes
    unfold Oper.wp execOp
    simp only [ho, resolve, invoke, builtin, Sem.run_bind, Sem.run_pure, Result.andThen_ok, List.map_toArray, List.map_cons, List.map_nil, hs, hx, hr]
    exact hK _ _ (h v' w' h2 h3 h4 h5).back
/-- append(s, x): one element, out of the block that the translation lays for it -/
theorem wp_append1 {w0 : World} {cs : Array Value} {T : TypeId} (hgd : o.guard = none) (s x : Operand) (t e : TypeId)
    (ho : o.op = .call { callee := .builtin .append, args := #[s, x], argTypes := #[t, t] })
    (z : Value) (size bytes : Nat) (ht : P.underlying t = some (.slice e)) (hi : (P.info? e).map (fun i => (i.zero, i.size, i.bytes)) = some (some z, size, bytes))
    (hzs : z.cells.size = size) (hsz : 0 < size)
    (v : Value) (n : Nat) (xs : List Value) (hs : a.eval s = v) (hown : RowAt w0 e size v n xs)
    (hx : a.eval x = .slice (some ⟨w0.heap.size, 0, none⟩) 1 1) (hl : cs.size = size) (h1 : ∀ u ∈ cs.toList, u.oneCell' = true)
    (hbytes : (n + 1) * bytes ≤ 140737488355328) (hby : 0 < bytes)
    (h : ∀ v' w', RowAt w' e size v' (n + 1) (xs ++ cs.toList) → Step (Own v) w0 w' → v' ≠ .slice none 0 0 → (∀ k, Own v' k → Own v k ∨ w0.heap.size ≤ k) → Stop (wpList P ops Q rest (a.put o.dst v') w')) :
    wpList P ops Q (o :: rest) a (w0.alloc (.cells cs T)) := by
  refine wp_append hgd s x t e ho z size bytes ht hi hzs hsz v n xs hs (hown.stepNo (Step.alloc _ _ _)) _ 1 1 cs.toList hx (by simp [hl]) (by intro h; cases h) ?_ h1 ?_ hbytes ?_
  · intro ad had j u hu
    cases had
    rw [add_plain, blk_cell (blk_new w0 _)]
    simpa using hu
  · have := Nat.le_mul_of_pos_right (n + 1) hby
    unfold maxLen; omega
  · intro v' w' k1 k2 k3 k4
    refine h v' w' k1 ((Step.alloc (Own v) w0 _).trans' k2) (fun e => ?_) (fun k hk => ?_)
    · have := (k3.1 e).2; simp at this
    · rcases k4 k hk with h | h
      · exact .inl h
      · simp at h; exact .inr (by omega)
end
end Gb

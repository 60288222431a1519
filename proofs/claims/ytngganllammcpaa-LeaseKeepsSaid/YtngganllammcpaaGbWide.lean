/- append to a row, where the row may be as wide as half of the address space: the wider bound. -/
import Derived.Test.YtngganllammcpaaGbRow
import Derived.Deep.DeepAppendWide
set_option linter.unusedVariables false
set_option linter.unusedSimpArgs false
set_option linter.unusedVariables false
set_option linter.unusedSimpArgs false
namespace Gb
open Go Go.RowKit
section
variable {P : Program} {w : World}
theorem run_append_rowW (t ty e : TypeId) (i : TypeInfo) (z : Value) (size bytes : Nat) (ht : P.underlying t = some (.slice e)) (hi : P.info? e = some i) (hz : i.zero = some z)
    (hsize : i.size = size) (hby : i.bytes = bytes) (hzs : z.cells.size = size) (hsz : 0 < size)
    (v : Value) (n : Nat) (xs : List Value) (hown : RowAt w e size v n xs)
    (a : Addr) (m c : Nat) (news : List Value) (hl : news.length = m * size) (hnews : ∀ j u, news[j]? = some u → w.cell? (a.add j) = some u) (h1 : ∀ u ∈ news, u.oneCell' = true)
    (h63 : n + m ≤ maxLen) (hbytes : ((n + m) + (n + m) / 4 + 192) * bytes ≤ 281474976710656) :
    ∃ v' w', (Builtin.append_ #[t, t] ty #[v, .slice (some a) m c]).run P w = .ok v' w' ∧ RowAt w' e size v' (n + m) (xs ++ news) ∧ Step (Own v) w w' ∧
      (v' = .slice none 0 0 ↔ v = .slice none 0 0 ∧ m = 0) ∧ (∀ k, Own v' k → Own v k ∨ w.heap.size ≤ k) := by
  subst hsize
  subst hby
  have hsmall : n + m ≤ 9223372036854775807 := by simp only [maxLen] at h63; omega
  have hlen : (xs ++ news).length = (n + m) * i.size := by rw [List.length_append, hown.1, hl, Nat.add_mul]
  have grown : ∀ (old : Nat), old < n + m →
      RowAt (w.drew.alloc (.cells (xs.toArray ++ news.toArray ++ Builtin.zeroCells z.cells (grownCap w (n + m) old e - (n + m))) e)) e i.size
        (.slice (some ⟨w.heap.size, 0, none⟩) (n + m) (grownCap w (n + m) old e)) (n + m) (xs ++ news) := by
    intro old ho
    have hge := grownCap_ge w (n + m) old e
    have hcm : grownCap w (n + m) old e ≤ maxLen := grownCap_le_maxLen w (n + m) old e h63
    refine ⟨hlen, .inr ⟨w.heap.size, _, _, rfl, heap_alloc_new w.drew _, hge, hcm, ?_, ?_⟩⟩
    · simp only [Array.size_append, List.size_toArray, size_zeroCells, hzs, hown.1, hl, ← Nat.add_mul]
      refine Nat.le_of_eq ?_
      congr 1
      omega
    · simp only [Array.toList_append, List.append_assoc]
      rw [← List.append_assoc, ← hlen]
      exact List.take_left
  have hst : ∀ o, Step (Own v) w (w.drew.alloc o) := fun o => (Step.drew _ w).trans' (Step.alloc _ _ o)
  rcases hown.2 with ⟨rfl, rfl⟩ | ⟨g, cap, cur, rfl, hg, hnc, hcm, hcs, htake⟩
  · have hx : xs = [] := List.eq_nil_of_length_eq_zero (by simpa using hown.1)
    subst hx
    by_cases hm : m = 0
    · subst hm
      have hn : news = [] := List.eq_nil_of_length_eq_zero (by simpa using hl)
      subst hn
      refine ⟨.slice none 0 0, w, ?_, RowAt.nil w e i.size, Step.refl _ _, by simp, fun k hk => .inl hk⟩
      simp [Builtin.append_, run_underlying ht, Go.sizeOf, typeInfo, hi, Builtin.lenOf, Builtin.firstCells, loadCells, loadCellsFrom]
    · have hr := run_append_nil (P := P) w t ty e i z ht hi hz a m c news hl hnews (by omega) (by omega) (by have hb := hbytes; simp only [Nat.zero_add] at hb; exact Nat.le_trans (Nat.mul_le_mul_right _ (by omega)) hb)
      have hgr := grown 0 (by omega)
      simp only [Nat.zero_add, List.nil_append, Array.empty_append] at hgr ⊢
      exact ⟨_, _, hr, hgr, hst _, by simp [hm], fun k hk => by cases hk; exact .inr (Nat.le_refl _)⟩
  · by_cases hroom : n + m ≤ cap
    · have hfit : n * i.size + news.length ≤ cur.size := by
        rw [hl, ← Nat.add_mul]; exact Nat.le_trans (Nat.mul_le_mul_right _ hroom) hcs
      have hr := run_append_room (P := P) w t ty e i ht hi g n cap cur hg a m c news hl hnews h1 hroom hfit
      refine ⟨_, _, hr, ⟨hlen, .inr ⟨g, cap, _, rfl, setRow_heap w g cur _ e _ hg, hroom, hcm, ?_, ?_⟩⟩, ⟨rfl, rfl, rfl, by simp, fun k _ hk => setRow_other w g k _ (fun e => hk (by simp [Own, Value.ownBlock, e]))⟩, by simp, fun k hk => .inl hk⟩
      · simp only [List.size_toArray, List.length_append, List.length_take, List.length_drop, Array.length_toList]
        omega
      · rw [htake, ← hlen]
        exact List.take_left
    · have holds : ∀ j u, xs[j]? = some u → w.cell? ((⟨g, 0, none⟩ : Addr).add j) = some u := by
        intro j u hu
        have hn0 : 0 < n := by
          have := (List.getElem?_eq_some_iff.1 hu).1
          rw [hown.1] at this
          exact Nat.pos_of_mul_pos_right (Nat.lt_of_le_of_lt (Nat.zero_le _) this)
        obtain ⟨g', c', hv, _, _, _, hc⟩ := hown.form hn0
        cases hv
        rw [add_plain]; exact hc j u hu
      have hr := run_append_grow (P := P) w t ty e i z ht hi hz ⟨g, 0, none⟩ n cap xs hown.1 holds a m c news hl hnews (by omega) (by omega) (growslice_fits_wide (by omega) hbytes)
      exact ⟨_, _, hr, grown cap (by omega), hst _, by simp, fun k hk => by cases hk; exact .inr (Nat.le_refl _)⟩

variable {ops : Array Oper} {rest : List Oper} {o : Oper} {a : Act} {Q : Exit → Act → World → Prop}
/-- append(s, x...) where s is a row and x is whatever can be read -/
theorem wp_appendW (hgd : o.guard = none) (s x : Operand) (t e : TypeId)
    (ho : o.op = .call { callee := .builtin .append, args := #[s, x], argTypes := #[t, t] })
    (z : Value) (size bytes : Nat) (ht : P.underlying t = some (.slice e)) (hi : (P.info? e).map (fun i => (i.zero, i.size, i.bytes)) = some (some z, size, bytes))
    (hzs : z.cells.size = size) (hsz : 0 < size)
    (v : Value) (n : Nat) (xs : List Value) (hs : a.eval s = v) (hown : RowAt w e size v n xs)
    (A : Option Addr) (m c : Nat) (news : List Value) (hx : a.eval x = .slice A m c) (hl : news.length = m * size) (hc : A = none → c = 0 ∧ m = 0)
    (hnews : ∀ ad, A = some ad → ∀ j u, news[j]? = some u → w.cell? (ad.add j) = some u) (h1 : ∀ u ∈ news, u.oneCell' = true)
    (h63 : n + m ≤ maxLen) (hbytes : ((n + m) + (n + m) / 4 + 192) * bytes ≤ 281474976710656)
    (h : ∀ v' w', RowAt w' e size v' (n + m) (xs ++ news) → Step (Own v) w w' → (v' = .slice none 0 0 ↔ v = .slice none 0 0 ∧ m = 0) → (∀ k, Own v' k → Own v k ∨ w.heap.size ≤ k) → Stop (wpList P ops Q rest (a.put o.dst v') w')) :
    wpList P ops Q (o :: rest) a w := by
  obtain ⟨i, hi', hz0, hz1, hz2⟩ := info_open hi
  refine wpList_plain hgd fun K hK => ?_
  cases A with
  | none =>
    obtain ⟨rfl, rfl⟩ := hc rfl
    have : news = [] := List.eq_nil_of_length_eq_zero (by simpa using hl)
    subst this
    have hr := run_append_none (P := P) t o.type e i size ht hi' hz1 v n xs hown
    unfold Oper.wp execOp
    simp only [ho, resolve, invoke, builtin, Sem.run_bind, Sem.run_pure, Result.andThen_ok, List.map_toArray, List.map_cons, List.map_nil, hs, hx, hr]
    exact hK _ _ (h v w (by simpa using hown) (Step.refl _ _) (by simp) (fun k hk => .inl hk)).back
  | some ad =>
    obtain ⟨v', w', hr, h2, h3, h4, h5⟩ := run_append_rowW (P := P) t o.type e i z size bytes ht hi' hz0 hz1 hz2 hzs hsz v n xs hown ad m c news hl (hnews ad rfl) h1 h63 hbytes
    unfold Oper.wp execOp
    simp only [ho, resolve, invoke, builtin, Sem.run_bind, Sem.run_pure, Result.andThen_ok, List.map_toArray, List.map_cons, List.map_nil, hs, hx, hr]
    exact hK _ _ (h v' w' h2 h3 h4 h5).back
/-- append(s, x): one element, out of the block that the translation lays for it -/
theorem wp_append1W {w0 : World} {cs : Array Value} {T : TypeId} (hgd : o.guard = none) (s x : Operand) (t e : TypeId)
    (ho : o.op = .call { callee := .builtin .append, args := #[s, x], argTypes := #[t, t] })
    (z : Value) (size bytes : Nat) (ht : P.underlying t = some (.slice e)) (hi : (P.info? e).map (fun i => (i.zero, i.size, i.bytes)) = some (some z, size, bytes))
    (hzs : z.cells.size = size) (hsz : 0 < size)
    (v : Value) (n : Nat) (xs : List Value) (hs : a.eval s = v) (hown : RowAt w0 e size v n xs)
    (hx : a.eval x = .slice (some ⟨w0.heap.size, 0, none⟩) 1 1) (hl : cs.size = size) (h1 : ∀ u ∈ cs.toList, u.oneCell' = true)
    (hbytes : ((n + 1) + (n + 1) / 4 + 192) * bytes ≤ 281474976710656) (hby : 0 < bytes)
    (h : ∀ v' w', RowAt w' e size v' (n + 1) (xs ++ cs.toList) → Step (Own v) w0 w' → v' ≠ .slice none 0 0 → (∀ k, Own v' k → Own v k ∨ w0.heap.size ≤ k) → Stop (wpList P ops Q rest (a.put o.dst v') w')) :
    wpList P ops Q (o :: rest) a (w0.alloc (.cells cs T)) := by
  refine wp_appendW hgd s x t e ho z size bytes ht hi hzs hsz v n xs hs (hown.stepNo (Step.alloc _ _ _)) _ 1 1 cs.toList hx (by simp [hl]) (by intro h; cases h) ?_ h1 ?_ hbytes ?_
  · intro ad had j u hu
    cases had
    rw [add_plain, blk_cell (blk_new w0 _)]
    simpa using hu
  · have h8 : (n + 1) * bytes ≤ ((n + 1) + (n + 1) / 4 + 192) * bytes := Nat.mul_le_mul_right _ (by omega)
    have := Nat.le_mul_of_pos_right (n + 1) hby
    unfold maxLen; omega
  · intro v' w' k1 k2 k3 k4
    refine h v' w' k1 ((Step.alloc (Own v) w0 _).trans' k2) (fun e => ?_) (fun k hk => ?_)
    · have := (k3.1 e).2; simp at this
    · rcases k4 k hk with h | h
      · exact .inl h
      · simp at h; exact .inr (by omega)
end
end Gb

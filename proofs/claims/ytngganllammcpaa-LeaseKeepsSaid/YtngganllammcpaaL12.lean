/- What the law holds from note to note; a copied list of sessions reads as the list did; the two Notes as a pair. -/
import Derived.Test.YtngganllammcpaaL11
set_option linter.unusedVariables false
set_option linter.unusedSimpArgs false
set_option linter.unusedVariables false
set_option linter.unusedSimpArgs false
namespace Go.Proofs.Ytngganllammcpaa
open Go Go.RowKit Gb
/-- a note as it is told -/
structure NR where
  now : Int
  ask : Int
  list : List SR
def Rep.note : Rep NR := Rep.iso (Rep.pair Rep.int (Rep.pair Rep.int Rep.ses.slice)) (fun n => (n.now, n.ask, n.list))
theorem Rep.note_open {w : World} {F : Nat → Prop} {n : NR} {cs : List Value} (h : Rep.note.K w F n cs) : ∃ v, cs = [.int .i64 n.now, .int .i64 n.ask, v] ∧ Rd Rep.ses w F v n.list := by
  obtain ⟨c0, r0, rfl, ⟨rfl, h0⟩, c1, c2, rfl, ⟨rfl, h1⟩, h2⟩ := h
  obtain ⟨A2, n2, e2, _⟩ := id h2
  subst e2
  exact ⟨_, rfl, h2⟩
theorem f5_any (w : World) : Calls Try.prog 5 #[] w fun e w' => ∃ kb, e = .returned (.pointer (some ⟨kb, 0, none⟩)) ∧ KAt w' kb 0 (.slice none 0 0) [] ∧ Step No w w' ∧ w.heap.size ≤ kb := by
  go_enter Try.func5, Try.ntmps5
  go_wp2
  go_ret
  exact ⟨_, rfl, ⟨blk_new _ _, SRow.nil _ _ _ _⟩, Step.alloc _ _ _, Nat.le_refl _⟩
/-! ### a copied list -/
abbrev Sized (sz : Nat) := { l : List Value // l.length = sz }
theorem Rd.flat {α : Type} {d : Rep α} {w : World} {F : Nat → Prop} {A : Option Addr} {n c : Nat} {xs : List α} (h : Rd d w F (.slice A n c) xs) (hsz : 0 < d.sz) :
    ∃ ess : List (Sized d.sz), ess.length = xs.length ∧ (∀ i (hi : i < ess.length) (hx : i < xs.length), d.K w F xs[i] ess[i].1) ∧ (∀ ad, A = some ad → ∀ j u, (ess.flatMap Subtype.val)[j]? = some u → w.cell? (ad.add j) = some u) ∧ ∀ u ∈ ess.flatMap Subtype.val, u.oneCell' = true := by
  obtain ⟨A', c', hv, h1, h2, h3, h4⟩ := h.open
  cases hv
  have hch : ∀ i : Fin xs.length, ∃ es : Sized d.sz, d.K w F xs[i] es.1 ∧ ∀ ad, A = some ad → ∀ j u, es.1[j]? = some u → w.cell? (ad.add (i.1 * d.sz + j)) = some u := fun i => by
    obtain ⟨ad, es, e1, e2, e3, e4⟩ := h4 i.1 xs[i] (by simp)
    refine ⟨⟨es, d.len e3⟩, e3, fun ad' ha j u hu => ?_⟩
    rw [e1] at ha
    cases ha
    exact e4 j u hu
  refine ⟨List.ofFn (fun i => Classical.choose (hch i)), by simp, fun i hi hx => ?_, fun ad ha j u hu => ?_, fun u hu => ?_⟩
  · rw [List.getElem_ofFn]
    exact (Classical.choose_spec (hch ⟨i, hx⟩)).1
  · have hlen : (List.ofFn (fun i => Classical.choose (hch i))).length = xs.length := by simp
    have hj : j < xs.length * d.sz := by
      have := (List.getElem?_eq_some_iff.1 hu).1
      rw [flat_len (fun x : Sized d.sz => x.2), hlen] at this
      exact this
    have hk : j / d.sz < xs.length := (Nat.div_lt_iff_lt_mul hsz).2 hj
    have hdm : j / d.sz * d.sz + j % d.sz = j := by rw [Nat.mul_comm]; exact Nat.div_add_mod _ _
    have hfa := flat_at (enc := fun x : Sized d.sz => x.1) (fun x => x.2) (List.ofFn (fun i => Classical.choose (hch i))) (k := j / d.sz) (by rw [hlen]; exact hk) (j % d.sz) (Nat.mod_lt _ hsz)
    rw [hdm] at hfa
    have hu2 := hfa.symm.trans hu
    rw [List.getElem_ofFn] at hu2
    have := (Classical.choose_spec (hch ⟨j / d.sz, hk⟩)).2 ad ha (j % d.sz) u hu2
    rw [hdm] at this
    exact this
  · obtain ⟨es, he, hu⟩ := List.mem_flatMap.1 hu
    obtain ⟨i, hi, rfl⟩ := List.getElem_of_mem he
    rw [List.getElem_ofFn] at hu
    exact d.one (Classical.choose_spec (hch _)).1 u hu
theorem Rd.of_srow {α : Type} {d : Rep α} {w : World} {F : Nat → Prop} {e : TypeId} {v : Value} {xs : List α} {ess : List (Sized d.sz)} (h : SRow Subtype.val d.sz w e v ess) (hl : ess.length = xs.length)
    (hk : ∀ i (hi : i < ess.length) (hx : i < xs.length), d.K w F xs[i] ess[i].1) (hF : ∀ k, Own v k → F k) : Rd d w F v xs := by
  obtain ⟨A, c, rfl, h1, h2, h3⟩ := h.slice
  refine ⟨A, c, by rw [hl], by omega, h2, h3, fun i x hx => ?_⟩
  have hi : i < xs.length := (List.getElem?_eq_some_iff.1 hx).1
  have hxi : xs[i] = x := (List.getElem?_eq_some_iff.1 hx).2
  obtain ⟨g, rfl, ho, _, hc⟩ := h.at (fun x : Sized d.sz => x.2) (k := i) (by omega)
  refine ⟨⟨g, 0, none⟩, ess[i].1, rfl, hF g ho, by rw [← hxi]; exact hk i (by omega) hi, fun j u hu => ?_⟩
  rw [add_plain]
  exact hc j u hu
/-! ### what holds from note to note -/
structure KS (w W : World) (kb rb : Nat) (now : Int) (v v2 : Value) (ks : List KR) : Prop where
  ka : KAt W kb now v ks
  ra : RAt W rb now v2 (ks.map KR.rr)
  ok : ∀ k ∈ ks, KR.Ok k
  few : ks.length * 80 ≤ 140737488351232
  st : Step No w W
  ownk : ∀ k, Own v k → w.heap.size ≤ k
  ownr : ∀ k, Own v2 k → w.heap.size ≤ k
  kb1 : w.heap.size ≤ kb
  rb1 : w.heap.size ≤ rb
def SKb (kb rb : Nat) (k : Nat) : Prop := k = kb ∨ k = rb
theorem KS.ne {w W : World} {kb rb : Nat} {now : Int} {v v2 : Value} {ks : List KR} (h : KS w W kb rb now v v2 ks) : kb ≠ rb := fun e => by
  have h1 := h.ka.blk
  have h2 := h.ra.blk
  rw [e, h2] at h1
  cases h1
/-- draws and blocks of one's own: nothing is lost -/
theorem KS.stepNo {w W W' : World} {kb rb : Nat} {now : Int} {v v2 : Value} {ks : List KR} (h : KS w W kb rb now v v2 ks) (hs : Step No W W') : KS w W' kb rb now v v2 ks :=
  { h with ka := h.ka.stepNo hs, ra := h.ra.stepNo hs, st := h.st.trans' hs }
/-- a block of another type may be written -/
theorem KS.far {w W W' : World} {kb rb : Nat} {now : Int} {v v2 : Value} {ks : List KR} (h : KS w W kb rb now v v2 ks) {g : Nat} {cs : Array Value} {T : TypeId} (hg : W.heap[g]? = some (.cells cs T (0, 0))) (h1 : T ≠ 68) (h2 : T ≠ 28) (h3 : T ≠ 80) (h4 : T ≠ 46) (hw : w.heap.size ≤ g) (hs : Step (At g) W W') : KS w W' kb rb now v v2 ks :=
  { h with
    ka := h.ka.step' hs (fun k hk e => by
      have e1 : k = g := hk
      rw [e1] at e
      have h5 := h.ka.blk
      rw [← e, hg] at h5
      cases h5; exact h1 rfl) (fun k hk e => RowAt.ne hg h.ka.row hk h3 e)
    ra := h.ra.step' hs (fun k hk e => by
      have e1 : k = g := hk
      rw [e1] at e
      have h5 := h.ra.blk
      rw [← e, hg] at h5
      cases h5; exact h2 rfl) (fun k hk e => RowAt.ne hg h.ra.row hk h4 e)
    st := h.st.trans hs (fun k hk hl => by have e1 : k = g := hk; omega) }
/-- behind the keeper's Note -/
def M7 (w W0 : World) (kb rb : Nat) (now now0 : Int) (v v2 : Value) (ks : List KR) (ss : List SR) (ev : Int) (W : World) : Prop :=
  Step (At kb) W0 W ∧ ((ev = 63 ∧ (tm now = false ∨ now < now0) ∧ KAt W kb now0 v ks) ∨ (ev = 0 ∧ tm now = true ∧ ¬ now < now0 ∧ ∃ v' ys, KAt W kb now v' ys ∧ ys.Perm (noteL now ks ss) ∧ ys.Pairwise (fun a b => ¬ KLt b.home b.n a.home a.n) ∧ ∀ k, Own v' k → W0.heap.size ≤ k))
/-- behind both -/
def M8 (w W0 : World) (kb rb : Nat) (W : World) : Prop := Step (SKb kb rb) W0 W ∧ ∃ now v v2 ks, KS w W kb rb now v v2 ks
theorem pair_note {w W0 : World} {kb rb : Nat} {now0 now : Int} {v v2 : Value} {ks : List KR} (h : KS w W0 kb rb now0 v v2 ks) {sv lv : Value} {ss : List SR} {F : Nat → Prop} (hr : Rd Rep.ses W0 F sv ss) (hF : ∀ k, F k → k ≠ kb) (hl : Rd Rep.ses w (fun k => k < w.heap.size) lv ss)
    (hok : ∀ s ∈ ss, 1 ≤ s.lease ∧ s.lease ≤ 1048576) (hlen : ss.length * 80 ≤ 140737488351232) :
    ∃ ev, (∀ W, Step No W0 W → Calls Try.prog 7 #[.pointer (some ⟨kb, 0, none⟩), .int .i64 now, sv] W fun e w' => e = .returned (.int .i64 ev) ∧ M7 w W0 kb rb now now0 v v2 ks ss ev w') ∧
      (∀ W, Step (SKb kb rb) W0 W → Calls Try.prog 9 #[lv] W (RowPost RR.cells 5 46 (ss.map SR.rr) W)) ∧
      (∀ W w7 qv, M7 w W0 kb rb now now0 v v2 ks ss ev w7 → Step No w7 W → SRow RR.cells 5 W 46 qv (ss.map SR.rr) → Calls Try.prog 8 #[.pointer (some ⟨rb, 0, none⟩), .int .i64 now, qv] W fun e w' => e = .returned (.int .i64 ev) ∧ M8 w W0 kb rb w') := by
  have h9 : ∀ W, Step (SKb kb rb) W0 W → Calls Try.prog 9 #[lv] W (RowPost RR.cells 5 46 (ss.map SR.rr) W) := fun W hs =>
    f9_any lv ss W (hl.stepNo (h.st.trans hs (fun k hk hlt => by have := h.kb1; have := h.rb1; rcases hk with e | e <;> omega))) hlen
  by_cases hb : tm now = false ∨ now < now0
  · refine ⟨63, fun W hs => (f7_bad kb now0 now v ks sv W (h.ka.stepNo hs) hb).mono ?_, h9, fun W w7 qv hm hs hq => ?_⟩
    · rintro e w' ⟨rfl, rfl⟩
      exact ⟨rfl, hs.mono (fun _ h => h.elim), .inl ⟨rfl, hb, h.ka.stepNo hs⟩⟩
    · obtain ⟨m1, ⟨-, -, m2⟩ | ⟨m2, -⟩⟩ := hm
      · have hra : RAt W rb now0 v2 (ks.map KR.rr) := (h.ra.step' m1 (fun k hk e => h.ne (by have e1 : k = kb := hk; omega)) (fun k hk e => RowAt.ne h.ka.blk h.ra.row hk (by decide) e)).stepNo hs
        refine (f8_bad rb now0 now v2 _ qv W hra hb).mono ?_
        rintro e w' ⟨rfl, rfl⟩
        refine ⟨rfl, (m1.transNo hs).mono (fun k hk => .inl hk), now0, v, v2, ks, { h with ka := m2.stepNo hs, ra := hra, st := (h.st.trans m1 (fun k hk hl => by have e1 : k = kb := hk; have := h.kb1; omega)).trans' hs }⟩
      · cases m2
  · have hb1 : tm now = true := by cases hx : tm now <;> simp_all
    have hb2 : ¬ now < now0 := fun hx => hb (.inr hx)
    refine ⟨0, fun W hs => (f7_good kb now0 now v ks sv ss W (h.ka.stepNo hs) (hr.stepNo hs) hF hb1 hb2 hlen).mono ?_, h9, fun W w7 qv hm hs hq => ?_⟩
    · rintro e w' ⟨rfl, v', ys, k1, k2, k3, k4, k5⟩
      exact ⟨rfl, Step.noTrans hs k4, .inr ⟨rfl, hb1, hb2, v', ys, k1, k2, k3, fun k hk => Nat.le_trans hs.size (k5 k hk)⟩⟩
    · obtain ⟨m1, ⟨m2, -⟩ | ⟨-, -, -, v', ys, k1, k2, k3, k5⟩⟩ := hm
      · cases m2
      · have hra : RAt W rb now0 v2 (ks.map KR.rr) := (h.ra.step' m1 (fun k hk e => h.ne (by have e1 : k = kb := hk; omega)) (fun k hk e => RowAt.ne h.ka.blk h.ra.row hk (by decide) e)).stepNo hs
        refine (f8_good rb now0 now v2 _ qv _ W hra hq hb1 hb2 (by rw [List.length_map]; exact hlen)).mono ?_
        rintro e w' ⟨rfl, v3, r1, r2, r3⟩
        rw [note_eq now ks ss k2 k3] at r1
        have hne := h.ne
        have hys : ys.length ≤ ss.length := by rw [k2.length_eq]; exact noteL_len now ks ss
        have hw := h.st.size
        have hw2 := m1.size
        have hw3 := hs.size
        refine ⟨rfl, ((m1.transNo hs).mono (fun k hk => .inl hk)).trans' (r2.mono (fun k hk => .inr hk)), now, v', v3, ys, ?_⟩
        have kk := k1.stepNo hs
        exact {
          ka := kk.step' r2 (fun k hk e => hne (by have e1 : k = rb := hk; omega)) (fun k hk e => RowAt.ne hra.blk kk.row hk (by decide) e)
          ra := r1
          ok := fun y hy => note_ok hb1 h.ok hok (k2.subset hy)
          few := by omega
          st := ((h.st.trans m1 (fun k hk hl => by have e1 : k = kb := hk; have := h.kb1; omega)).trans' hs).trans r2 (fun k hk hl => by have e1 : k = rb := hk; have := h.rb1; omega)
          ownk := fun k hk => Nat.le_trans hw (k5 k hk)
          ownr := fun k hk => by have := r3 k hk; omega
          kb1 := h.kb1
          rb1 := h.rb1 }
end Go.Proofs.Ytngganllammcpaa

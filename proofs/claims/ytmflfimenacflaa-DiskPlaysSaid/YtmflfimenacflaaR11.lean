/- The walk of the document's drop: a file is taken out of the list. -/
import Derived.Test.YtmflfimenacflaaR10
set_option linter.unusedVariables false
set_option linter.unusedSimpArgs false
namespace Go.Proofs.Ytmflfimenacflaa
open Go Go.RowKit Gb
/-- xs[m:] of a row, without a case on the capacity -/
theorem _root_.Gb.RowAt.cutL {P : Program} {w : World} {e : TypeId} {size n c : Nat} {A : Option Addr} {xs : List Value} {i : TypeInfo} (t : TypeId) (kl : IntKind) (h : RowAt w e size (.slice A n c) n xs) (ht : P.underlying t = some (.slice e)) (hi : P.info? e = some i) (hsz : i.size = size) (m : Nat) (hm : m ≤ n) :
    ∃ A' : Option Addr, (∀ W : World, (Instr.slice t (.slice A n c) (some (.int kl (m : Int))) none none).run P W = .ok (.slice A' (n - m) (c - m)) W) ∧ (A' = none → c - m = 0 ∧ n - m = 0) ∧ ∀ ad, A' = some ad → ∀ j u, (xs.drop (m * size))[j]? = some u → w.cell? (ad.add j) = some u := by
  obtain ⟨A', c', hv, h1, h2, h3⟩ := h.slice
  cases hv
  refine ⟨if c = m then A else A.map (·.add (m * size)), fun W => ?_, fun hA => ?_, fun ad hA j u hu => ?_⟩
  · have hel : P.elem t = e := by simp [Program.elem, ht]
    have hu : P.underlying t = some (.slice (P.elem t)) := by rw [hel]; exact ht
    rw [run_slice_l W t A n c hu kl (m : Int) (Int.natCast_nonneg _) (by omega), hel]
    simp [Go.sizeOf, typeInfo, hi, hsz, sliced, Result.andThen]
  · split at hA
    · omega
    · cases A with
      | none => have := h3 rfl; omega
      | some a => simp at hA
  · have hj : m * size + j < n * size := by
      have := (List.getElem?_eq_some_iff.1 hu).1
      rw [List.length_drop, h.1] at this; omega
    have hmn : m < n := by
      rcases Nat.lt_or_ge m n with hlt | hge
      · exact hlt
      · have := Nat.mul_le_mul_right size hge; omega
    obtain ⟨g, c', hv, _, _, _, hc⟩ := h.form (by omega)
    cases hv
    rw [if_neg (by omega)] at hA
    simp only [Option.map_some, Option.some.injEq] at hA
    subst hA
    rw [add_add, add_plain]
    rw [List.getElem?_drop] at hu
    exact hc _ _ hu
theorem flatR_append (a b : List RF) : flatR (a ++ b) = flatR a ++ flatR b := by simp [flatR]
theorem flatR_drop (rs : List RF) (m : Nat) : (flatR rs).drop (m * 3) = flatR (rs.drop m) := by
  induction rs generalizing m with
  | nil => simp [flatR]
  | cons r rs ih =>
    cases m with
    | zero => simp
    | succ m =>
      have := ih m
      simp only [List.drop_succ_cons]
      rw [← this]
      have e : flatR (r :: rs) = RF.cells r ++ flatR rs := by simp [flatR]
      rw [e, List.drop_append, List.drop_eq_nil_of_le (by simp [RF.cells]; omega), List.nil_append]
      congr 1
      simp [RF.cells]; omega
theorem flatR_take (rs : List RF) (m : Nat) (hm : m ≤ rs.length) : (flatR rs).take (m * 3) = flatR (rs.take m) := by
  have h1 : flatR rs = flatR (rs.take m) ++ flatR (rs.drop m) := by rw [← flatR_append, List.take_append_drop]
  rw [h1, List.take_append_of_le_length (by rw [flatR_len]; simp; omega), List.take_of_length_le (by rw [flatR_len]; simp; omega)]
theorem flatR_one {w : World} {xb : Nat} {cap : Int} {sv : Value} {rs : List RF} (h : RefAt w xb cap sv rs) : ∀ u ∈ flatR rs, u.oneCell' = true := by
  intro u hu
  obtain ⟨r, hr, hu⟩ := List.mem_flatMap.1 hu
  obtain ⟨A, c, hb, _⟩ := (h.own r hr).slice
  exact cells_one hb u hu
theorem flatR_mono {rs rs' : List RF} (h : ∀ r ∈ rs', r ∈ rs) : ∀ u ∈ flatR rs', u ∈ flatR rs := by
  intro u hu
  obtain ⟨r, hr, hu⟩ := List.mem_flatMap.1 hu
  exact List.mem_flatMap.2 ⟨r, h r hr, hu⟩
theorem eraseIdx_parts {α : Type} (rs : List α) (i : Nat) : rs.eraseIdx i = rs.take i ++ rs.drop (i + 1) := List.eraseIdx_eq_take_drop_succ rs i
theorem rused_sub {a b : List RF} (h : a.Sublist b) : rused a ≤ rused b := by
  induction h with
  | slnil => exact Nat.le_refl _
  | cons r _ ih => simp only [rused, List.map_cons, List.sum_cons] at *; omega
  | cons_cons r _ ih => simp only [rused, List.map_cons, List.sum_cons] at *; omega
set_option maxHeartbeats 1000000 in
theorem f39_any (xb : Nat) (cap : Int) (sv : Value) (rs : List RF) (i : Nat) (w : World) (h : RefAt w xb cap sv rs) (hi : i < rs.length) (hn : rs.length ≤ 1300000000000) :
    Calls Try.prog 39 #[.pointer (some ⟨xb, 0, none⟩), .int .i64 (i : Int)] w fun e w' => e = .returned (.tuple #[]) ∧ ∃ sv', RefAt w' xb cap sv' (rs.eraseIdx i) ∧ Step (At xb) w w' ∧ ∀ k, Own sv' k → w.heap.size ≤ k := by
  obtain ⟨A, c, rfl, hc, hcm, hA⟩ := h.row.slice
  obtain ⟨hh0, hh1⟩ := h.head
  have hone := flatR_one h
  obtain ⟨ii, hii, -, hz1, -⟩ := info_open info43
  obtain ⟨A', hcut, hnil, hcells⟩ := h.row.cutL (P := Try.prog) 28 .i64 Try.underlying28 hii hz1 (i + 1) hi
  rw [flatR_drop] at hcells
  have hcut' : ∀ W, (Instr.slice 28 (.slice A rs.length c) (some (.int .i64 ((i : Int) + 1))) none none).run Try.prog W = .ok (.slice A' (rs.length - (i + 1)) (c - (i + 1))) W := fun W => by have := hcut W; simpa using this
  have hic : i ≤ c := by omega
  have hlen : rs.length ≤ 9223372036854775807 := h.len
  have HI := Hd.mk hi
  have HN := Hd.mk hn
  have HR := Hd.mk h
  have HOne := Hd.mk hone
  have HNil := Hd.mk hnil
  have HCells := Hd.mk hcells
  have HA := Hd.mk hA
  have HCm := Hd.mk hcm
  have HH1 := Hd.mk hh1
  clear hcut hnil hcells hone h hii hz1 hn hA hcm hh0
  unfold maxLen at *
  go_enter Try.func39, Try.ntmps39
  go_wp2_with (first | (at_builtin; refine Stop.back ?_))
  refine Stop.go (wp_append rfl _ _ 28 43 rfl (.agg #[.string ⟨#[]⟩, .slice none 0 0, .int .i64 0]) 3 48 Try.underlying28 info43 rfl (by decide) _ _ _ rfl (RowAt.nil _ _ _) A i c (flatR (rs.take i)) rfl (by rw [flatR_len]; have := HI.out; simp; omega) (by intro e; have := HA.out e; have := HI.out; omega) ?_ ?_ (by unfold maxLen; have := HI.out; have := HN.out; omega) (by have := HI.out; have := HN.out; omega) ?_)
  · intro ad had j u hu
    subst had
    have hR := HR.out.row
    obtain ⟨g, c', hv, _, _, _, hcs⟩ := hR.form (by have := HI.out; omega)
    cases hv
    rw [add_plain]
    refine hcs j u ?_
    rw [← flatR_take rs i (Nat.le_of_lt HI.out), List.getElem?_take] at hu
    split at hu
    · exact hu
    · cases hu
  · exact fun u hu => HOne.out u (flatR_mono (fun r hr => List.mem_of_mem_take hr) u hu)
  intro v1 w1 k1 k2 _ k4
  rw [Nat.zero_add, List.nil_append] at k1
  have k2' : Step No w w1 := k2.mono (fun k h => by cases h)
  have hh1' := k2'.cell HH1.out (fun h => h)
  obtain ⟨Av, cv, rfl, -, -, -⟩ := k1.slice
  have K1 := Hd.mk k1
  have K2 := Hd.mk k2'
  have K4 := Hd.mk k4
  clear k1 k2 k2' k4 hh1
  refine Stop.go ?_
  go_wp2_with (first | (at_builtin; refine Stop.back ?_))
  refine Stop.go (wp_append rfl _ _ 28 43 rfl (.agg #[.string ⟨#[]⟩, .slice none 0 0, .int .i64 0]) 3 48 Try.underlying28 info43 rfl (by decide) _ _ _ rfl K1.out A' (rs.length - (i + 1)) (c - (i + 1)) (flatR (rs.drop (i + 1))) rfl (by rw [flatR_len]; simp) HNil.out ?_ ?_ (by unfold maxLen; have := HI.out; have := HN.out; omega) (by have := HI.out; have := HN.out; omega) ?_)
  · intro ad had j u hu
    exact K2.out.cell (HCells.out ad had j u hu) (fun h => h)
  · exact fun u hu => HOne.out u (flatR_mono (fun r hr => List.mem_of_mem_drop hr) u hu)
  intro v2 w2 m1 m2 _ m4
  obtain ⟨Aw, cw, rfl, -, -, -⟩ := m1.slice
  have hown1 : ∀ k, Own (.slice Av (i) cv) k → w.heap.size ≤ k := fun k hk => by
    rcases K4.out k hk with h | h
    · cases h
    · exact h
  have hst2 : Step No w w2 := K2.out.trans m2 (fun k hk hlt => by have := hown1 k hk; omega)
  have hb2 := hst2.keep HR.out.blk (fun h => h)
  have cf2 := blk_cell hb2 1
  have ff2 := blk_free hb2 1
  simp only [List.getElem?_toArray, List.getElem?_cons_zero, List.getElem?_cons_succ] at cf2
  have hel : (rs.eraseIdx i).length = i + (rs.length - (i + 1)) := by rw [List.length_eraseIdx, if_pos HI.out]; have := HI.out; omega
  have HZ : Hd (RefAt (w2.setCell ⟨xb, 1, none⟩ (.slice Aw (i + (rs.length - (i + 1))) cw)) xb cap (.slice Aw (i + (rs.length - (i + 1))) cw) (rs.eraseIdx i) ∧ Step (At xb) w (w2.setCell ⟨xb, 1, none⟩ (.slice Aw (i + (rs.length - (i + 1))) cw)) ∧ ∀ k, Own (.slice Aw (i + (rs.length - (i + 1))) cw) k → w.heap.size ≤ k) := ⟨by
    refine ⟨RefAt.store hb2 ?_ (fun r hr => ?_) (fun r hr => ?_) HR.out.cap0 HR.out.cap1 ?_, hst2.noTrans (Step.setAt w2 ⟨xb, 1, none⟩ _), fun k hk => ?_⟩
    · rw [hel]
      have : flatR (rs.eraseIdx i) = flatR (rs.take i) ++ flatR (rs.drop (i + 1)) := by rw [eraseIdx_parts, flatR_append]
      rw [this]; exact m1
    · exact (HR.out.own r ((List.eraseIdx_sublist rs i).subset hr)).stepNo hst2
    · exact HR.out.safe r ((List.eraseIdx_sublist rs i).subset hr)
    · have := rused_sub (List.eraseIdx_sublist rs i)
      have := HR.out.fits
      omega
    · rcases m4 k hk with h | h
      · exact hown1 k h
      · exact Nat.le_trans K2.out.size h⟩
  clear m1 m2 m4 hown1 hst2 hb2 hel hh1'
  refine Stop.go ?_
  go_wp2
  go_end0
  exact ⟨rfl, _, HZ.out⟩
end Go.Proofs.Ytmflfimenacflaa

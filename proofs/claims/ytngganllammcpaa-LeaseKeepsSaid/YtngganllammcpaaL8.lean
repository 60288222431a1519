/- The reference keeper's Note: sessions put in order, one by one. -/
import Derived.Test.YtngganllammcpaaL7
set_option linter.unusedVariables false
set_option linter.unusedSimpArgs false
set_option linter.unusedVariables false
set_option linter.unusedSimpArgs false
namespace Go.Proofs.Ytngganllammcpaa
open Go Go.RowKit Gb
/-- a session that the reference keeper knows -/
structure RR where
  home : ByteArray
  n : Int
  lease : Int
  beats : Int
  since : Int
def RR.cells (k : RR) : List Value := [.string k.home, .int .i64 k.n, .int .i64 k.lease, .int .i64 k.beats, .int .i64 k.since]
theorem RR.hl : ∀ x : RR, (RR.cells x).length = 5 := fun _ => rfl
theorem RR.one (k : RR) : ∀ u ∈ k.cells, u.oneCell' = true := by
  intro u hu
  simp [RR.cells] at hu
  rcases hu with rfl | rfl | rfl | rfl | rfl <;> rfl
theorem zero46 (w : World) : (zeroValue 46).run Try.prog w = .ok (.agg #[.string ⟨#[]⟩, .int .i64 0, .int .i64 0, .int .i64 0, .int .i64 0]) w := by kernel_rfl
theorem info46 : (Try.prog.info? 46).map (fun i => (i.zero, i.size, i.bytes)) = some (some (.agg #[.string ⟨#[]⟩, .int .i64 0, .int .i64 0, .int .i64 0, .int .i64 0]), 5, 48) := by kernel_rfl
theorem RR.ats {w : World} {A : Option Addr} {n c : Nat} {ks : List RR} (h : SRow RR.cells 5 w 46 (.slice A n c) ks) {k : Nat} (hk : k < ks.length) :
    ∃ g, A = some ⟨g, 0, none⟩ ∧ Own (.slice A n c) g ∧ (∀ j, w.frozen? ⟨g, j, none⟩ = false) ∧ w.cell? ⟨g, k * 5, none⟩ = some (.string ks[k].home) ∧ w.cell? ⟨g, k * 5 + 1, none⟩ = some (.int .i64 ks[k].n) ∧ w.cell? ⟨g, k * 5 + 2, none⟩ = some (.int .i64 ks[k].lease) ∧ w.cell? ⟨g, k * 5 + 3, none⟩ = some (.int .i64 ks[k].beats) ∧ w.cell? ⟨g, k * 5 + 4, none⟩ = some (.int .i64 ks[k].since) := by
  obtain ⟨g, hA, ho, hf, hc⟩ := h.at RR.hl hk
  exact ⟨g, hA, ho, hf, hc 0 _ rfl, hc 1 _ rfl, hc 2 _ rfl, hc 3 _ rfl, hc 4 _ rfl⟩
/-- one of them in a block of its own -/
def OneR (w : World) (b : Nat) (m : RR) : Prop := SRow RR.cells 5 w 46 (.slice (some ⟨b, 0, none⟩) 1 1) [m]
theorem OneR.new (w : World) (m : RR) : OneR (w.alloc (.cells m.cells.toArray 46)) w.heap.size m := by
  have := RowAt.lit (size := 5) w m.cells.toArray 46 1 rfl (by unfold maxLen; omega)
  unfold OneR SRow
  simpa using this
theorem OneR.step {S : Nat → Prop} {w w' : World} {b : Nat} {m : RR} (h : OneR w b m) (hs : Step S w w') (hn : ¬ S b) : OneR w' b m := SRow.step h hs (fun k hk => by cases hk; exact hn)
theorem OneR.at {w : World} {b : Nat} {m : RR} (h : OneR w b m) : ∀ i v, m.cells[i]? = some v → w.cell? ⟨b, i, none⟩ = some v := fun i v hv => by
  obtain ⟨g, he, _, _, hc⟩ := SRow.at h RR.hl (k := 0) (by simp)
  cases he
  have := hc i v hv
  simpa using this
theorem OneR.free {w : World} {b : Nat} {m : RR} (h : OneR w b m) (i : Nat) : w.frozen? ⟨b, i, none⟩ = false := by
  obtain ⟨g, he, _, hf, _⟩ := SRow.at h RR.hl (k := 0) (by simp)
  cases he
  exact hf i
theorem OneR.since {w : World} {b : Nat} {m : RR} (h : OneR w b m) (v : Int) : OneR (w.setCell ⟨b, 4, none⟩ (.int .i64 v)) b { m with since := v } := by
  have := RowAt.set h 4 (.int .i64 v)
  unfold OneR SRow
  simpa [RR.cells] using this
theorem OneR.lt {w : World} {b : Nat} {m : RR} (h : OneR w b m) : b < w.heap.size := RowAt.lt (k := b) h rfl
/-- what the reference keeper computes -/
def sinceR1 (q : RR) (acc : Int) (o : RR) : Int := if o.home = q.home ∧ o.n = q.n ∧ o.beats = q.beats then o.since else acc
def sinceR (now : Int) (q : RR) (old : List RR) : Int := old.foldl (sinceR1 q) now
theorem sinceR_snoc (now : Int) (q : RR) {old : List RR} {k : Nat} (hk : k < old.length) : sinceR now q (old.take (k + 1)) = sinceR1 q (sinceR now q (old.take k)) old[k] := by
  unfold sinceR
  rw [List.take_succ_eq_append_getElem hk, List.foldl_append]; rfl
instance (a : ByteArray) (b : Int) (c : ByteArray) (d : Int) : Decidable (KLt a b c d) := by unfold KLt; infer_instance
def insStep (me : RR) (st : List RR × Bool) (o : RR) : List RR × Bool :=
  if o.home = me.home ∧ o.n = me.n then st else if st.2 = false ∧ KLt me.home me.n o.home o.n then (st.1 ++ [me, o], true) else (st.1 ++ [o], st.2)
def insTo (me : RR) (acc : List RR) : List RR × Bool := acc.foldl (insStep me) ([], false)
def insAll (me : RR) (acc : List RR) : List RR := if (insTo me acc).2 = true then (insTo me acc).1 else (insTo me acc).1 ++ [me]
theorem insTo_snoc (me : RR) {acc : List RR} {k : Nat} (hk : k < acc.length) : insTo me (acc.take (k + 1)) = insStep me (insTo me (acc.take k)) acc[k] := by
  unfold insTo
  rw [List.take_succ_eq_append_getElem hk, List.foldl_append]; rfl
def room (st : List RR × Bool) : Nat := st.1.length + (if st.2 = true then 0 else 1)
theorem room_step (me : RR) (st : List RR × Bool) (o : RR) : room (insStep me st o) ≤ room st + 1 := by
  unfold insStep
  split
  · omega
  · split
    · rename_i h
      simp [room, h.1]
    · simp [room]; omega
theorem room_to (me : RR) (acc : List RR) : room (insTo me acc) ≤ acc.length + 1 := by
  unfold insTo
  suffices h : ∀ st, room (acc.foldl (insStep me) st) ≤ room st + acc.length by have := h ([], false); simp [room] at this ⊢; omega
  induction acc with
  | nil => intro st; simp
  | cons o acc ih =>
    intro st
    rw [List.foldl_cons]
    have h1 := ih (insStep me st o)
    have h2 := room_step me st o
    simp only [List.length_cons]; omega
theorem insTo_len (me : RR) (acc : List RR) : (insTo me acc).1.length ≤ acc.length + 1 := by
  have := room_to me acc
  unfold room at this; omega
theorem insAll_len (me : RR) (acc : List RR) : (insAll me acc).length ≤ acc.length + 1 := by
  have := room_to me acc
  unfold room at this
  unfold insAll
  split
  · rename_i h; simp [h] at this; omega
  · rename_i h; simp [h] at this; simp; omega
def refStep (now : Int) (old : List RR) (acc : List RR) (q : RR) : List RR := insAll { q with since := sinceR now q old } acc
def refL (now : Int) (old : List RR) (qs : List RR) : List RR := qs.foldl (refStep now old) []
theorem refL_snoc (now : Int) (old : List RR) {qs : List RR} {k : Nat} (hk : k < qs.length) : refL now old (qs.take (k + 1)) = refStep now old (refL now old (qs.take k)) qs[k] := by
  unfold refL
  rw [List.take_succ_eq_append_getElem hk, List.foldl_append]; rfl
theorem refL_len (now : Int) (old : List RR) (qs : List RR) : (refL now old qs).length ≤ qs.length := by
  unfold refL
  suffices h : ∀ l : List RR, (qs.foldl (refStep now old) l).length ≤ l.length + qs.length by simpa using h []
  induction qs with
  | nil => intro l; simp
  | cons s qs ih =>
    intro l
    rw [List.foldl_cons]
    have h1 := ih (refStep now old l s)
    have h2 : (refStep now old l s).length ≤ l.length + 1 := insAll_len _ _
    simp only [List.length_cons]; omega
/-- the reference keeper in memory -/
structure RAt (w : World) (rb : Nat) (now : Int) (v : Value) (rs : List RR) : Prop where
  blk : w.heap[rb]? = some (.cells #[.int .i64 now, v] 28 (0, 0))
  row : SRow RR.cells 5 w 46 v rs
theorem RAt.ne {w : World} {rb : Nat} {now : Int} {v : Value} {rs : List RR} (h : RAt w rb now v rs) : ∀ k, Own v k → k ≠ rb := fun k hk => RowAt.ne h.blk h.row hk (by decide)
theorem RAt.stepNo {w w' : World} {rb : Nat} {now : Int} {v : Value} {rs : List RR} (h : RAt w rb now v rs) (hs : Step No w w') : RAt w' rb now v rs := ⟨hs.keep h.blk (fun h => h), h.row.stepNo hs⟩
theorem RAt.step' {S : Nat → Prop} {w w' : World} {rb : Nat} {now : Int} {v : Value} {rs : List RR} (h : RAt w rb now v rs) (hs : Step S w w') (hb : ∀ k, S k → k ≠ rb) (hv : ∀ k, Own v k → ¬ S k) : RAt w' rb now v rs := ⟨hs.keep h.blk (fun hk => hb rb hk rfl), h.row.step hs hv⟩
theorem srow_snoc {α : Type} {enc : α → List Value} {sz : Nat} {w : World} {e : TypeId} {v : Value} {xs : List α} {x : α} {n : Nat} {ys : List Value} (h : RowAt w e sz v n ys) (hn : n = xs.length + 1) (hy : ys = xs.flatMap enc ++ enc x) : SRow enc sz w e v (xs ++ [x]) := by
  subst hn hy
  unfold SRow
  simpa using h
theorem f8_bad (kb : Nat) (now0 now : Int) (v : Value) (ks : List RR) (sv : Value) (w : World) (h : RAt w kb now0 v ks) (hb : tm now = false ∨ now < now0) :
    Calls Try.prog 8 #[.pointer (some ⟨kb, 0, none⟩), .int .i64 now, sv] w fun e w' => e = .returned (.int .i64 63) ∧ w = w' := by
  have c0 := blk_cell h.blk 0
  simp only [List.getElem?_toArray, List.getElem?_cons_zero] at c0
  clear h
  by_cases ht : tm now = true
  · have hlt : now < now0 := by
      rcases hb with hb | hb
      · rw [hb] at ht; cases ht
      · exact hb
    have hd : decide (now < now0) = true := decide_eq_true hlt
    have H := Hd.mk (f30_any now w)
    rw [ht] at H
    clear hb hlt ht
    go_enter Try.func8, Try.ntmps8
    go_wp2_with (first | (go_at_call 30; refine H.out.mono ?_; rintro e w1 ⟨rfl, rfl⟩))
    go_ret
    exact ⟨rfl, rfl⟩
  · have ht' : tm now = false := by simpa using ht
    have H := Hd.mk (f30_any now w)
    rw [ht'] at H
    clear hb ht ht'
    go_enter Try.func8, Try.ntmps8
    go_wp2_with (first | (go_at_call 30; refine H.out.mono ?_; rintro e w1 ⟨rfl, rfl⟩))
    go_ret
    exact ⟨rfl, rfl⟩
def RefPost (rb : Nat) (now : Int) (rs qs : List RR) (w : World) (e : Ending) (w' : World) : Prop :=
  e = .returned (.int .i64 0) ∧ ∃ v', RAt w' rb now v' (refL now rs qs) ∧ Step (At rb) w w' ∧ ∀ k, Own v' k → w.heap.size ≤ k
set_option maxRecDepth 100000 in
set_option maxHeartbeats 8000000 in
theorem f8_good (kb : Nat) (now0 now : Int) (v : Value) (rs : List RR) (qv : Value) (qs : List RR) (w : World) (h : RAt w kb now0 v rs) (hq : SRow RR.cells 5 w 46 qv qs) (ht : tm now = true) (hge : ¬ now < now0) (hlen : qs.length * 80 ≤ 140737488351232) :
    Calls Try.prog 8 #[.pointer (some ⟨kb, 0, none⟩), .int .i64 now, qv] w (RefPost kb now rs qs w) := by
  have hqne : ∀ k, Own qv k → k ≠ kb := fun k hk => RowAt.ne h.blk hq hk (by decide)
  have hqlt : ∀ k, Own qv k → k < w.heap.size := fun k hk => RowAt.lt hq hk
  obtain ⟨A, c, rfl, hc, hcm, _⟩ := hq.slice
  obtain ⟨A2, c2, rfl, hc2, hcm2, _⟩ := h.row.slice
  have c0 := blk_cell h.blk 0
  have f0 := blk_free h.blk 0
  have hb1 := blk_set h.blk 0 (.int .i64 now)
  simp only [List.getElem?_toArray, List.getElem?_cons_zero] at c0
  have hK1 : RAt (w.setCell ⟨kb, 0, none⟩ (.int .i64 now)) kb now (.slice A2 rs.length c2) rs := ⟨by rw [hb1]; rfl, h.row.step (Step.setAt w ⟨kb, 0, none⟩ _) (fun k hk e => h.ne k hk e)⟩
  have hs1 : Step (At kb) w (w.setCell ⟨kb, 0, none⟩ (.int .i64 now)) := Step.setAt w ⟨kb, 0, none⟩ _
  have HK1 := Hd.mk hK1
  have HS1 := Hd.mk hs1
  have HQ := Hd.mk hq
  have HQn := Hd.mk hqne
  have HQl := Hd.mk hqlt
  have hkl : rs.length ≤ 9223372036854775807 := by unfold maxLen at hcm2; omega
  have hdlt : decide (now < now0) = false := decide_eq_false hge
  have H30 := Hd.mk (f30_any now w)
  rw [ht] at H30
  have hkb := lt_of_blk h.blk
  clear hb1 hK1 hs1 hq h ht hge hqne hqlt
  go_enter Try.func8, Try.ntmps8
  go_wp2_with (first | (go_at_call 30; refine H30.out.mono ?_; rintro e w1 ⟨rfl, rfl⟩))
  go_loopg [7, 8] qs.length (fun kq lv iv wr => ∃ (i : Nat), i ≤ qs.length ∧ iv = .int .i64 i ∧ Hd (kq = qs.length - i) ∧ Hd (SRow RR.cells 5 wr 46 lv (refL now rs (qs.take i))) ∧ Hd (∀ k, Own lv k → w.heap.size ≤ k) ∧ Hd (RAt wr kb now (.slice A2 rs.length c2) rs) ∧ Hd (Step (At kb) w wr))
  case atStart => exact ⟨0, Nat.zero_le _, rfl, ⟨rfl⟩, ⟨SRow.nil _ _ _ _⟩, ⟨fun k hk => by cases hk⟩, HK1, HS1⟩
  case round =>
    obtain ⟨i, hi, rfl, HI, HL, HFr, HKA, HS⟩ := hrel
    by_cases hlt : i < qs.length
    · obtain ⟨g, rfl, -, -, q0, q1, q2, q3, q4⟩ := RR.ats (HQ.out.step HS.out (fun k hk e => HQn.out k hk e)) hlt
      obtain ⟨q, hqe⟩ : ∃ q, q = qs[i] := ⟨_, rfl⟩
      rw [← hqe] at q0 q1 q2 q3 q4
      have hsn := refL_snoc now rs hlt
      rw [← hqe] at hsn
      have HSn := Hd.mk hsn
      obtain ⟨lst, hlst⟩ : ∃ lst, lst = refL now rs (qs.take i) := ⟨_, rfl⟩
      have hll : lst.length ≤ i := by rw [hlst]; have := refL_len now rs (qs.take i); rw [List.length_take] at this; omega
      rw [← hlst] at HL HSn
      obtain ⟨Al, cl, rfl, hcl1, hcl2, -⟩ := HL.out.slice
      clear hqe hsn hlst
      go_upto_region 10 with (fail)
      obtain ⟨wo, hwo⟩ : ∃ wo, wo = wr := ⟨_, rfl⟩
      subst hwo
      obtain ⟨sb, hsb⟩ : ∃ sb, sb = wo.heap.size := ⟨_, rfl⟩
      obtain ⟨W, hW⟩ : ∃ W, W = wo.alloc (.cells #[.string q.home, .int .i64 q.n, .int .i64 q.lease, .int .i64 q.beats, .int .i64 now] 46) := ⟨_, rfl⟩
      have oX : OneR W sb { q with since := sinceR now q [] } := by rw [hW, hsb]; exact OneR.new wo { q with since := now }
      have stW : Step No wo W := by rw [hW]; exact Step.alloc No _ _
      rw [← hW, ← hsb]
      have OX := Hd.mk oX
      have STW := Hd.mk stW
      have KW := Hd.mk (HKA.out.stepNo stW)
      have HSb := Hd.mk hsb
      clear hW hsb oX stW
      go_wp2
      go_loopg [10] rs.length (fun kq jv wx => ∃ (j : Nat), j ≤ rs.length ∧ jv = .int .i64 j ∧ Hd (kq = rs.length - j) ∧ Hd (OneR wx sb { q with since := sinceR now q (rs.take j) }) ∧ Hd (Step (At sb) W wx))
      case atStart => exact ⟨0, Nat.zero_le _, rfl, ⟨rfl⟩, OX, ⟨Step.refl _ _⟩⟩
      case round =>
        obtain ⟨j, hj, rfl, HJ, HO, HSX⟩ := hrel
        have bK := HSX.out.keep KW.out.blk (fun e => by have h1 : kb = sb := e; have h2 := lt_of_blk HKA.out.blk; have h3 := HSb.out; omega)
        have b1 := blk_cell bK 1
        simp only [List.getElem?_toArray, List.getElem?_cons_zero, List.getElem?_cons_succ] at b1
        by_cases hlt2 : j < rs.length
        · have b2 := fun O => blk_cell (blk_alloc bK O) 1
          simp only [List.getElem?_toArray, List.getElem?_cons_zero, List.getElem?_cons_succ] at b2
          obtain ⟨g2, rfl, -, -, y0, y1, y2, y3, y4⟩ := RR.ats (KW.out.row.step HSX.out (fun k hk e => by have h1 : k = sb := e; have h2 := RowAt.lt HKA.out.row hk; have h3 := HSb.out; omega)) hlt2
          obtain ⟨y, hy⟩ : ∃ y, y = rs[j] := ⟨_, rfl⟩
          rw [← hy] at y0 y1 y2 y3 y4
          have hss := sinceR_snoc now q hlt2
          rw [← hy] at hss
          obtain ⟨acc, hacc⟩ : ∃ acc, acc = sinceR now q (rs.take j) := ⟨_, rfl⟩
          rw [← hacc] at hss HO
          have s0 := fun O => (HO.out.step (Step.alloc No wr O) (fun h => h)).at 0 _ rfl
          have s1 := fun O => (HO.out.step (Step.alloc No wr O) (fun h => h)).at 1 _ rfl
          have s3 := fun O => (HO.out.step (Step.alloc No wr O) (fun h => h)).at 3 _ rfl
          have s4 := fun O => (HO.out.step (Step.alloc No wr O) (fun h => h)).at 4 _ rfl
          have f4 := fun O => (HO.out.step (Step.alloc No wr O) (fun h => h)).free 4
          have HSs := Hd.mk hss
          clear hy hss hacc bK
          by_cases c1 : y.home = q.home
          · have t1 := tl_eq c1
            by_cases c2 : y.n = q.n
            · have t2 : (y.n == q.n) = true := by simpa using c2
              by_cases c3 : y.beats = q.beats
              · have t3 : (y.beats == q.beats) = true := by simpa using c3
                have hsi : sinceR1 q acc y = y.since := by unfold sinceR1; rw [if_pos ⟨c1, c2, c3⟩]
                rw [hsi] at HSs
                clear c1 c2 c3 hsi
                go_wp2
                go_roundg (rs.length - (j + 1))
                case measure => have := HJ.out; omega
                case rel => exact ⟨j + 1, by omega, by go_num, ⟨rfl⟩, ⟨by rw [HSs.out]; exact (HO.out.step (Step.alloc No wr (.cells y.cells.toArray 46)) (fun h => h)).since y.since⟩, ⟨(HSX.out.transNo (Step.alloc No _ _)).trans' (Step.setAt _ ⟨sb, 4, none⟩ _)⟩⟩
              · have t3 : (y.beats == q.beats) = false := by simpa using c3
                have hsi : sinceR1 q acc y = acc := by unfold sinceR1; rw [if_neg (fun h => c3 h.2.2)]
                rw [hsi] at HSs
                clear c1 c2 c3 hsi
                go_wp2
                go_roundg (rs.length - (j + 1))
                case measure => have := HJ.out; omega
                case rel => exact ⟨j + 1, by omega, by go_num, ⟨rfl⟩, ⟨by rw [HSs.out]; exact HO.out.step (Step.alloc No _ _) (fun h => h)⟩, ⟨HSX.out.transNo (Step.alloc No _ _)⟩⟩
            · have t2 : (y.n == q.n) = false := by simpa using c2
              have hsi : sinceR1 q acc y = acc := by unfold sinceR1; rw [if_neg (fun h => c2 h.2.1)]
              rw [hsi] at HSs
              clear c1 c2 hsi
              go_wp2
              go_roundg (rs.length - (j + 1))
              case measure => have := HJ.out; omega
              case rel => exact ⟨j + 1, by omega, by go_num, ⟨rfl⟩, ⟨by rw [HSs.out]; exact HO.out.step (Step.alloc No _ _) (fun h => h)⟩, ⟨HSX.out.transNo (Step.alloc No _ _)⟩⟩
          · have t1 := tl_ne c1
            have hsi : sinceR1 q acc y = acc := by unfold sinceR1; rw [if_neg (fun h => c1 h.1)]
            rw [hsi] at HSs
            clear c1 hsi
            go_wp2
            go_roundg (rs.length - (j + 1))
            case measure => have := HJ.out; omega
            case rel => exact ⟨j + 1, by omega, by go_num, ⟨rfl⟩, ⟨by rw [HSs.out]; exact HO.out.step (Step.alloc No _ _) (fun h => h)⟩, ⟨HSX.out.transNo (Step.alloc No _ _)⟩⟩
        · obtain rfl : j = rs.length := by omega
          have HO2 : Hd (OneR wr sb { q with since := sinceR now q rs }) := by have := HO.out; rw [List.take_length] at this; exact ⟨this⟩
          have hst : Step No wo wr := STW.out.trans HSX.out (fun k hk hl => by have h1 : k = sb := hk; have h3 := HSb.out; omega)
          have HSt := Hd.mk hst
          have hse : refStep now rs lst q = insAll { q with since := sinceR now q rs } lst := rfl
          rw [hse] at HSn
          obtain ⟨me, hme⟩ : ∃ me, me = ({ q with since := sinceR now q rs } : RR) := ⟨_, rfl⟩
          rw [← hme] at HO2 HSn
          obtain ⟨wp, hwp⟩ : ∃ wp, wp = wr := ⟨_, rfl⟩
          subst hwp
          clear hst hse hme HO HSX OX bK q0 q1 q2 q3 q4
          go_wp2
          clear b1
          go_loopg [12, 13, 14] lst.length (fun kq ov pv kv wx => ∃ (k : Nat) (out : List RR) (pl : Bool), k ≤ lst.length ∧ kv = .int .i64 k ∧ pv = .bool pl ∧ Hd (kq = lst.length - k) ∧ Hd (insTo me (lst.take k) = (out, pl)) ∧ Hd (SRow RR.cells 5 wx 46 ov out) ∧ Hd (∀ k, Own ov k → wp.heap.size ≤ k) ∧ Hd (Step No wp wx))
          case atStart => exact ⟨0, [], false, Nat.zero_le _, rfl, rfl, ⟨rfl⟩, ⟨rfl⟩, ⟨SRow.nil _ _ _ _⟩, ⟨fun k hk => by cases hk⟩, ⟨Step.refl _ _⟩⟩
          case round =>
            obtain ⟨k, out, pl, hk, rfl, rfl, HK, HT, HOut, HOw, HSY⟩ := hrel
            have hol : out.length ≤ k + 1 := by
              have h1 := insTo_len me (lst.take k)
              rw [HT.out, List.length_take] at h1
              simp only at h1; omega
            by_cases hlt3 : k < lst.length
            · obtain ⟨g3, rfl, -, -, z0, z1, z2, z3, z4⟩ := RR.ats (HL.out.stepNo (HSt.out.trans' HSY.out)) hlt3
              obtain ⟨o, ho⟩ : ∃ o, o = lst[k] := ⟨_, rfl⟩
              rw [← ho] at z0 z1 z2 z3 z4
              have hts := insTo_snoc me hlt3
              rw [HT.out, ← ho] at hts
              have HTs := Hd.mk hts
              obtain ⟨W3, hW3⟩ : ∃ W3, W3 = wr.alloc (.cells #[.string o.home, .int .i64 o.n, .int .i64 o.lease, .int .i64 o.beats, .int .i64 o.since] 46) := ⟨_, rfl⟩
              obtain ⟨ob, hob⟩ : ∃ ob, ob = wr.heap.size := ⟨_, rfl⟩
              have oO : OneR W3 ob o := by rw [hW3, hob]; exact OneR.new wr o
              have st3 : Step No wr W3 := by rw [hW3]; exact Step.alloc No _ _
              have oM : OneR W3 sb me := HO2.out.step (HSY.out.trans' st3) (fun h => h)
              have oR := HOut.out.stepNo st3
              have u0 := oO.at 0 _ rfl
              have u1 := oO.at 1 _ rfl
              have u2 := oO.at 2 _ rfl
              have u3 := oO.at 3 _ rfl
              have u4 := oO.at 4 _ rfl
              have m0 := oM.at 0 _ rfl
              have m1 := oM.at 1 _ rfl
              have m2 := oM.at 2 _ rfl
              have m3 := oM.at 3 _ rfl
              have m4 := oM.at 4 _ rfl
              have howl : ∀ k, Own u12 k → k < wr.heap.size := fun k hk => RowAt.lt HOut.out hk
              have HO3 := Hd.mk oO
              have HM3 := Hd.mk oM
              have HR3 := Hd.mk oR
              have HT3 := Hd.mk st3
              have HOl := Hd.mk howl
              have HOb := Hd.mk hob
              clear hts oO oM oR st3 howl ho
              go_upto_region 22 with (fail)
              rw [← hW3, ← hob]
              clear hW3 hob z0 z1 z2 z3 z4
              by_cases c1 : o.home = me.home
              · have t1 := tl_eq c1
                have t1' := tl_eq c1.symm
                have l1 : Op.bytesLess me.home.toList o.home.toList = false := by rw [less_iff, c1]; exact decide_eq_false (lt_irr _)
                by_cases c2 : o.n = me.n
                · have t2 : (o.n == me.n) = true := by simpa using c2
                  have hsi : insStep me (out, pl) o = (out, pl) := by unfold insStep; rw [if_pos ⟨c1, c2⟩]
                  rw [hsi] at HTs
                  clear c1 c2 hsi
                  go_wp2
                  go_roundg (lst.length - (k + 1))
                  case measure => have := HK.out; omega
                  case rel => exact ⟨k + 1, out, pl, by omega, by go_num, rfl, ⟨rfl⟩, HTs, HR3, HOw, ⟨HSY.out.trans' HT3.out⟩⟩
                · have t2 : (o.n == me.n) = false := by simpa using c2
                  cases pl with
                  | true =>
                    have hsi : insStep me (out, true) o = (out ++ [o], true) := by unfold insStep; rw [if_neg (fun h => c2 h.2), if_neg (fun h => by cases h.1)]
                    rw [hsi] at HTs
                    clear c1 c2 hsi
                    go_wp2_with (first | (at_builtin; refine Stop.back ?_))
                    refine Stop.go (wp_append1W rfl _ _ 26 46 rfl (.agg #[.string ⟨#[]⟩, .int .i64 0, .int .i64 0, .int .i64 0, .int .i64 0]) 5 48 Try.underlying26 info46 rfl (by decide) _ _ _ rfl HR3.out rfl rfl (by intro u hu; simp at hu; rcases hu with rfl | rfl | rfl | rfl | rfl <;> rfl) (by omega) (by decide) ?_)
                    intro v3 w3 k1 k2 _ k4
                    have HE : Hd (SRow RR.cells 5 w3 46 v3 (out ++ [o])) := ⟨srow_snoc (xs := out) (x := o) k1 rfl rfl⟩
                    have HE2 : Hd (∀ k, Own v3 k → wp.heap.size ≤ k) := ⟨fun k hk => by
                      rcases k4 k hk with h1 | h1
                      · exact HOw.out k h1
                      · have := HSY.out.size; have := HT3.out.size; omega⟩
                    have HE3 : Hd (Step No wp w3) := ⟨(HSY.out.trans' HT3.out).trans k2 (fun k hk hl => by have := HOw.out k hk; omega)⟩
                    clear k1 k2 k4
                    refine Stop.go ?_
                    go_wp2
                    go_roundg (lst.length - (k + 1))
                    case measure => have := HK.out; omega
                    case rel => exact ⟨k + 1, out ++ [o], true, by omega, by go_num, rfl, ⟨rfl⟩, HTs, HE, HE2, HE3⟩
                  | false =>
                    by_cases c3 : me.n < o.n
                    · have l2 : decide (me.n < o.n) = true := decide_eq_true c3
                      have hsi : insStep me (out, false) o = (out ++ [me, o], true) := by unfold insStep; rw [if_neg (fun h => c2 h.2), if_pos ⟨rfl, .inr ⟨c1.symm, c3⟩⟩]
                      rw [hsi] at HTs
                      clear c1 c2 c3 hsi
                      go_wp2_with (first | (at_builtin; refine Stop.back ?_))
                      refine Stop.go (wp_append1W rfl _ _ 26 46 rfl (.agg #[.string ⟨#[]⟩, .int .i64 0, .int .i64 0, .int .i64 0, .int .i64 0]) 5 48 Try.underlying26 info46 rfl (by decide) _ _ _ rfl HR3.out rfl rfl (by intro u hu; simp at hu; rcases hu with rfl | rfl | rfl | rfl | rfl <;> rfl) (by omega) (by decide) ?_)
                      intro v3 w3 k1 k2 _ k4
                      have HE : Hd (SRow RR.cells 5 w3 46 v3 (out ++ [me])) := ⟨srow_snoc (xs := out) (x := me) k1 rfl rfl⟩
                      have HE2 : Hd (∀ k, Own v3 k → wp.heap.size ≤ k) := ⟨fun k hk => by
                        rcases k4 k hk with h1 | h1
                        · exact HOw.out k h1
                        · have := HSY.out.size; have := HT3.out.size; omega⟩
                      have HE3 : Hd (Step No wp w3) := ⟨(HSY.out.trans' HT3.out).trans k2 (fun k hk hl => by have := HOw.out k hk; omega)⟩
                      have oO := HO3.out.step k2 (fun hk => by have := HOl.out _ hk; have := HOb.out; omega)
                      have x0 := oO.at 0 _ rfl
                      have x1 := oO.at 1 _ rfl
                      have x2 := oO.at 2 _ rfl
                      have x3 := oO.at 3 _ rfl
                      have x4 := oO.at 4 _ rfl
                      have hol2 : (out ++ [me]).length ≤ k + 2 := by simp; omega
                      clear k1 k2 k4 oO u0 u1 u2 u3 u4
                      refine Stop.go ?_
                      go_wp2_with (first | (at_builtin; refine Stop.back ?_))
                      refine Stop.go (wp_append1W rfl _ _ 26 46 rfl (.agg #[.string ⟨#[]⟩, .int .i64 0, .int .i64 0, .int .i64 0, .int .i64 0]) 5 48 Try.underlying26 info46 rfl (by decide) _ _ _ rfl HE.out rfl rfl (by intro u hu; simp at hu; rcases hu with rfl | rfl | rfl | rfl | rfl <;> rfl) (by omega) (by decide) ?_)
                      intro v4 w4 k1 k2 _ k4
                      have HE4 : Hd (SRow RR.cells 5 w4 46 v4 (out ++ [me, o])) := ⟨by have := srow_snoc (xs := out ++ [me]) (x := o) k1 rfl rfl; simpa using this⟩
                      have HE5 : Hd (∀ k, Own v4 k → wp.heap.size ≤ k) := ⟨fun k hk => by
                        rcases k4 k hk with h1 | h1
                        · exact HE2.out k h1
                        · have := HE3.out.size; omega⟩
                      have HE6 : Hd (Step No wp w4) := ⟨HE3.out.trans k2 (fun k hk hl => by have := HE2.out k hk; omega)⟩
                      clear k1 k2 k4
                      refine Stop.go ?_
                      go_wp2
                      go_roundg (lst.length - (k + 1))
                      case measure => have := HK.out; omega
                      case rel => exact ⟨k + 1, out ++ [me, o], true, by omega, by go_num, rfl, ⟨rfl⟩, HTs, HE4, HE5, HE6⟩
                    · have l2 : decide (me.n < o.n) = false := decide_eq_false c3
                      have hsi : insStep me (out, false) o = (out ++ [o], false) := by unfold insStep; rw [if_neg (fun h => c2 h.2), if_neg (fun h => by
                        rcases h.2 with h | h
                        · rw [c1] at h; exact lt_irr _ h
                        · exact c3 h.2)]
                      rw [hsi] at HTs
                      clear c1 c2 c3 hsi
                      go_wp2_with (first | (at_builtin; refine Stop.back ?_))
                      refine Stop.go (wp_append1W rfl _ _ 26 46 rfl (.agg #[.string ⟨#[]⟩, .int .i64 0, .int .i64 0, .int .i64 0, .int .i64 0]) 5 48 Try.underlying26 info46 rfl (by decide) _ _ _ rfl HR3.out rfl rfl (by intro u hu; simp at hu; rcases hu with rfl | rfl | rfl | rfl | rfl <;> rfl) (by omega) (by decide) ?_)
                      intro v3 w3 k1 k2 _ k4
                      have HE : Hd (SRow RR.cells 5 w3 46 v3 (out ++ [o])) := ⟨srow_snoc (xs := out) (x := o) k1 rfl rfl⟩
                      have HE2 : Hd (∀ k, Own v3 k → wp.heap.size ≤ k) := ⟨fun k hk => by
                        rcases k4 k hk with h1 | h1
                        · exact HOw.out k h1
                        · have := HSY.out.size; have := HT3.out.size; omega⟩
                      have HE3 : Hd (Step No wp w3) := ⟨(HSY.out.trans' HT3.out).trans k2 (fun k hk hl => by have := HOw.out k hk; omega)⟩
                      clear k1 k2 k4
                      refine Stop.go ?_
                      go_wp2
                      go_roundg (lst.length - (k + 1))
                      case measure => have := HK.out; omega
                      case rel => exact ⟨k + 1, out ++ [o], false, by omega, by go_num, rfl, ⟨rfl⟩, HTs, HE, HE2, HE3⟩
              · have t1 := tl_ne c1
                have t1' := tl_ne (fun h => c1 h.symm : ¬ me.home = o.home)
                cases pl with
                | true =>
                  have hsi : insStep me (out, true) o = (out ++ [o], true) := by unfold insStep; rw [if_neg (fun h => c1 h.1), if_neg (fun h => by cases h.1)]
                  rw [hsi] at HTs
                  clear c1 hsi
                  go_wp2_with (first | (at_builtin; refine Stop.back ?_))
                  refine Stop.go (wp_append1W rfl _ _ 26 46 rfl (.agg #[.string ⟨#[]⟩, .int .i64 0, .int .i64 0, .int .i64 0, .int .i64 0]) 5 48 Try.underlying26 info46 rfl (by decide) _ _ _ rfl HR3.out rfl rfl (by intro u hu; simp at hu; rcases hu with rfl | rfl | rfl | rfl | rfl <;> rfl) (by omega) (by decide) ?_)
                  intro v3 w3 k1 k2 _ k4
                  have HE : Hd (SRow RR.cells 5 w3 46 v3 (out ++ [o])) := ⟨srow_snoc (xs := out) (x := o) k1 rfl rfl⟩
                  have HE2 : Hd (∀ k, Own v3 k → wp.heap.size ≤ k) := ⟨fun k hk => by
                    rcases k4 k hk with h1 | h1
                    · exact HOw.out k h1
                    · have := HSY.out.size; have := HT3.out.size; omega⟩
                  have HE3 : Hd (Step No wp w3) := ⟨(HSY.out.trans' HT3.out).trans k2 (fun k hk hl => by have := HOw.out k hk; omega)⟩
                  clear k1 k2 k4
                  refine Stop.go ?_
                  go_wp2
                  go_roundg (lst.length - (k + 1))
                  case measure => have := HK.out; omega
                  case rel => exact ⟨k + 1, out ++ [o], true, by omega, by go_num, rfl, ⟨rfl⟩, HTs, HE, HE2, HE3⟩
                | false =>
                  by_cases c3 : bs me.home < bs o.home
                  · have l1 : Op.bytesLess me.home.toList o.home.toList = true := by rw [less_iff]; exact decide_eq_true c3
                    have hsi : insStep me (out, false) o = (out ++ [me, o], true) := by unfold insStep; rw [if_neg (fun h => c1 h.1), if_pos ⟨rfl, .inl c3⟩]
                    rw [hsi] at HTs
                    clear c1 c3 hsi
                    go_wp2_with (first | (at_builtin; refine Stop.back ?_))
                    refine Stop.go (wp_append1W rfl _ _ 26 46 rfl (.agg #[.string ⟨#[]⟩, .int .i64 0, .int .i64 0, .int .i64 0, .int .i64 0]) 5 48 Try.underlying26 info46 rfl (by decide) _ _ _ rfl HR3.out rfl rfl (by intro u hu; simp at hu; rcases hu with rfl | rfl | rfl | rfl | rfl <;> rfl) (by omega) (by decide) ?_)
                    intro v3 w3 k1 k2 _ k4
                    have HE : Hd (SRow RR.cells 5 w3 46 v3 (out ++ [me])) := ⟨srow_snoc (xs := out) (x := me) k1 rfl rfl⟩
                    have HE2 : Hd (∀ k, Own v3 k → wp.heap.size ≤ k) := ⟨fun k hk => by
                      rcases k4 k hk with h1 | h1
                      · exact HOw.out k h1
                      · have := HSY.out.size; have := HT3.out.size; omega⟩
                    have HE3 : Hd (Step No wp w3) := ⟨(HSY.out.trans' HT3.out).trans k2 (fun k hk hl => by have := HOw.out k hk; omega)⟩
                    have oO := HO3.out.step k2 (fun hk => by have := HOl.out _ hk; have := HOb.out; omega)
                    have x0 := oO.at 0 _ rfl
                    have x1 := oO.at 1 _ rfl
                    have x2 := oO.at 2 _ rfl
                    have x3 := oO.at 3 _ rfl
                    have x4 := oO.at 4 _ rfl
                    have hol2 : (out ++ [me]).length ≤ k + 2 := by simp; omega
                    clear k1 k2 k4 oO u0 u1 u2 u3 u4
                    refine Stop.go ?_
                    go_wp2_with (first | (at_builtin; refine Stop.back ?_))
                    refine Stop.go (wp_append1W rfl _ _ 26 46 rfl (.agg #[.string ⟨#[]⟩, .int .i64 0, .int .i64 0, .int .i64 0, .int .i64 0]) 5 48 Try.underlying26 info46 rfl (by decide) _ _ _ rfl HE.out rfl rfl (by intro u hu; simp at hu; rcases hu with rfl | rfl | rfl | rfl | rfl <;> rfl) (by omega) (by decide) ?_)
                    intro v4 w4 k1 k2 _ k4
                    have HE4 : Hd (SRow RR.cells 5 w4 46 v4 (out ++ [me, o])) := ⟨by have := srow_snoc (xs := out ++ [me]) (x := o) k1 rfl rfl; simpa using this⟩
                    have HE5 : Hd (∀ k, Own v4 k → wp.heap.size ≤ k) := ⟨fun k hk => by
                      rcases k4 k hk with h1 | h1
                      · exact HE2.out k h1
                      · have := HE3.out.size; omega⟩
                    have HE6 : Hd (Step No wp w4) := ⟨HE3.out.trans k2 (fun k hk hl => by have := HE2.out k hk; omega)⟩
                    clear k1 k2 k4
                    refine Stop.go ?_
                    go_wp2
                    go_roundg (lst.length - (k + 1))
                    case measure => have := HK.out; omega
                    case rel => exact ⟨k + 1, out ++ [me, o], true, by omega, by go_num, rfl, ⟨rfl⟩, HTs, HE4, HE5, HE6⟩
                  · have l1 : Op.bytesLess me.home.toList o.home.toList = false := by rw [less_iff]; exact decide_eq_false c3
                    have hsi : insStep me (out, false) o = (out ++ [o], false) := by unfold insStep; rw [if_neg (fun h => c1 h.1), if_neg (fun h => by
                      rcases h.2 with h | h
                      · exact c3 h
                      · exact c1 h.1.symm)]
                    rw [hsi] at HTs
                    clear c1 c3 hsi
                    go_wp2_with (first | (at_builtin; refine Stop.back ?_))
                    refine Stop.go (wp_append1W rfl _ _ 26 46 rfl (.agg #[.string ⟨#[]⟩, .int .i64 0, .int .i64 0, .int .i64 0, .int .i64 0]) 5 48 Try.underlying26 info46 rfl (by decide) _ _ _ rfl HR3.out rfl rfl (by intro u hu; simp at hu; rcases hu with rfl | rfl | rfl | rfl | rfl <;> rfl) (by omega) (by decide) ?_)
                    intro v3 w3 k1 k2 _ k4
                    have HE : Hd (SRow RR.cells 5 w3 46 v3 (out ++ [o])) := ⟨srow_snoc (xs := out) (x := o) k1 rfl rfl⟩
                    have HE2 : Hd (∀ k, Own v3 k → wp.heap.size ≤ k) := ⟨fun k hk => by
                      rcases k4 k hk with h1 | h1
                      · exact HOw.out k h1
                      · have := HSY.out.size; have := HT3.out.size; omega⟩
                    have HE3 : Hd (Step No wp w3) := ⟨(HSY.out.trans' HT3.out).trans k2 (fun k hk hl => by have := HOw.out k hk; omega)⟩
                    clear k1 k2 k4
                    refine Stop.go ?_
                    go_wp2
                    go_roundg (lst.length - (k + 1))
                    case measure => have := HK.out; omega
                    case rel => exact ⟨k + 1, out ++ [o], false, by omega, by go_num, rfl, ⟨rfl⟩, HTs, HE, HE2, HE3⟩
            · obtain rfl : k = lst.length := by omega
              have hT := HT.out
              rw [List.take_length] at hT
              have HR3 := HOut
              have oM := HO2.out.step HSY.out (fun h => h)
              have m0 := oM.at 0 _ rfl
              have m1 := oM.at 1 _ rfl
              have m2 := oM.at 2 _ rfl
              have m3 := oM.at 3 _ rfl
              have m4 := oM.at 4 _ rfl
              have hfin : ∀ w3 v3 l3, SRow RR.cells 5 w3 46 v3 l3 → Step No wp w3 → (∀ k, Own v3 k → wp.heap.size ≤ k) → l3 = insAll me lst → Hd (SRow RR.cells 5 w3 46 v3 (refL now rs (qs.take (i + 1)))) ∧ Hd (∀ k, Own v3 k → w.heap.size ≤ k) ∧ Hd (RAt w3 kb now (.slice A2 rs.length c2) rs) ∧ Hd (Step (At kb) w w3) := by
                intro w3 v3 l3 h1 h2 h3 h4
                have h5 := HSt.out.trans' h2
                refine ⟨⟨by rw [HSn.out, ← h4]; exact h1⟩, ⟨fun k hk => ?_⟩, ⟨HKA.out.stepNo h5⟩, ⟨HS.out.transNo h5⟩⟩
                have h6 := h3 k hk
                have h7 := HSt.out.size
                have h8 := HS.out.size
                omega
              have HFin := Hd.mk hfin
              clear oM hfin
              cases pl with
              | true =>
                have he : out = insAll me lst := by unfold insAll; rw [hT]; rfl
                have HE := Hd.mk (HFin.out _ _ _ HOut.out HSY.out HOw.out he)
                clear hT he
                go_wp2
                go_roundg (qs.length - (i + 1))
                case measure => have := HI.out; omega
                case rel => exact ⟨i + 1, by omega, by go_num, ⟨rfl⟩, HE.out⟩
              | false =>
                have he : out ++ [me] = insAll me lst := by unfold insAll; rw [hT]; rfl
                have HEq := Hd.mk he
                clear hT he
                go_wp2_with (first | (at_builtin; refine Stop.back ?_))
                refine Stop.go (wp_append1W rfl _ _ 26 46 rfl (.agg #[.string ⟨#[]⟩, .int .i64 0, .int .i64 0, .int .i64 0, .int .i64 0]) 5 48 Try.underlying26 info46 rfl (by decide) _ _ _ rfl HR3.out rfl rfl (by intro u hu; simp at hu; rcases hu with rfl | rfl | rfl | rfl | rfl <;> rfl) (by omega) (by decide) ?_)
                intro v3 w3 k1 k2 _ k4
                have HE := Hd.mk (HFin.out w3 v3 _ (srow_snoc (xs := out) (x := me) k1 rfl rfl) (HSY.out.trans k2 (fun k hk hl => by have := HOw.out k hk; omega)) (fun k hk => by
                  rcases k4 k hk with h1 | h1
                  · exact HOw.out k h1
                  · have := HSY.out.size; omega) HEq.out)
                clear k1 k2 k4
                refine Stop.go ?_
                go_wp2
                go_roundg (qs.length - (i + 1))
                case measure => have := HI.out; omega
                case rel => exact ⟨i + 1, by omega, by go_num, ⟨rfl⟩, HE.out⟩
    · obtain rfl : i = qs.length := by omega
      have hL := HL.out
      rw [List.take_length] at hL
      have e1 := blk_cell HKA.out.blk 1
      have g1 := blk_free HKA.out.blk 1
      simp only [List.getElem?_toArray, List.getElem?_cons_zero, List.getElem?_cons_succ] at e1
      obtain ⟨Al, cl, rfl, -, -, -⟩ := hL.slice
      have hz : RefPost kb now rs qs w (.returned (.int .i64 0)) (wr.setCell ⟨kb, 1, none⟩ (.slice Al (refL now rs qs).length cl)) :=
        ⟨rfl, _, ⟨by rw [blk_set HKA.out.blk]; rfl, hL.step (Step.setAt wr ⟨kb, 1, none⟩ _) (fun k hk e => by have e' : k = kb := e; have := HFr.out k hk; omega)⟩, HS.out.trans' (Step.setAt wr ⟨kb, 1, none⟩ _), HFr.out⟩
      have HZ := Hd.mk hz
      obtain ⟨len9, hlen9⟩ : ∃ len9, len9 = (refL now rs qs).length := ⟨_, rfl⟩
      rw [← hlen9] at HZ
      clear hL hz HL HFr
      go_wp2
      rw [← hlen9]
      go_ret
      exact HZ.out
end Go.Proofs.Ytngganllammcpaa

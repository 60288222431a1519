/- The walk of the document's lay: a file is put at its place. -/
import Derived.Test.YtmflfimenacflaaR3
set_option linter.unusedVariables false
set_option linter.unusedSimpArgs false
namespace Go.Proofs.Ytmflfimenacflaa
open Go.RowKit Gb
def layS (f : RF) (st : List RF × Bool) (r : RF) : List RF × Bool := if !st.2 && Op.bytesLess f.name.toList r.name.toList then (st.1 ++ [f, r], true) else (st.1 ++ [r], st.2)
def layE (f : RF) (st : List RF × Bool) : List RF := if st.2 then st.1 else st.1 ++ [f]
def rlay (rs : List RF) (f : RF) : List RF := layE f (rs.foldl (layS f) ([], false))
theorem layS_perm (f : RF) (l : List RF) (st : List RF × Bool) : (layE f (l.foldl (layS f) st)).Perm (layE f st ++ l) := by
  induction l generalizing st with
  | nil => simp
  | cons r l ih =>
    rw [List.foldl_cons]
    refine (ih _).trans ?_
    have h : (layE f (layS f st r)).Perm (layE f st ++ [r]) := by
      obtain ⟨o, p⟩ := st
      cases p
      · cases hb : Op.bytesLess f.name.toList r.name.toList
        · simp only [layS, layE, hb, Bool.not_false, Bool.and_false]
          simp only [Bool.false_eq_true, if_false, List.append_assoc]
          exact List.Perm.append_left o (by simpa using List.Perm.swap f r [])
        · simp only [layS, layE, hb, Bool.not_false, Bool.and_true]
          simp
      · simp [layS, layE]
    have := h.append_right l
    simpa using this
theorem rlay_perm (rs : List RF) (f : RF) : (rlay rs f).Perm (f :: rs) := by
  have h := layS_perm f rs ([], false)
  have e : layE f ([], false) ++ rs = f :: rs := by simp [layE]
  rw [e] at h; exact h
theorem fold_take {β : Type} (g : β → RF → β) (b : β) (rs : List RF) {k : Nat} (hk : k < rs.length) : (rs.take (k + 1)).foldl g b = g ((rs.take k).foldl g b) rs[k] := by
  rw [List.take_succ_eq_append_getElem hk, List.foldl_append]; rfl
theorem lay_len {f : RF} {rs : List RF} {k : Nat} {o : List RF} {p : Bool} (hk : k ≤ rs.length) (h : (rs.take k).foldl (layS f) ([], false) = (o, p)) : o.length ≤ k + 1 ∧ (p = false → o.length ≤ k) := by
  have := (layS_perm f (rs.take k) ([], false)).length_eq
  rw [h] at this
  have hm : min k rs.length = k := by omega
  cases p <;> simp [layE, hm] at this <;> constructor <;> first | omega | (intro h; cases h; done) | (intro _; omega)
theorem flatR_snoc (o : List RF) (r : RF) : flatR (o ++ [r]) = flatR o ++ [.string r.name, r.b, .int .i64 (r.safe : Int)] := by simp [flatR, RF.cells]
theorem rused_perm {a b : List RF} (h : a.Perm b) : rused a = rused b := by unfold rused; exact (h.map _).sum_nat
theorem info43 : (Try.prog.info? 43).map (fun i => (i.zero, i.size, i.bytes)) = some (some (.agg #[.string ⟨#[]⟩, .slice none 0 0, .int .i64 0]), 3, 48) := by kernel_rfl
theorem cells_one {f : RF} {A : Option Addr} {n c : Nat} (hb : f.b = .slice A n c) : ∀ u ∈ [Value.string f.name, f.b, .int .i64 (f.safe : Int)], u.oneCell' = true := by
  intro u hu
  simp at hu
  rcases hu with rfl | rfl | rfl
  · rfl
  · rw [hb]; rfl
  · rfl
theorem RowAt.ne {w : World} {xb k : Nat} {cs : Array Value} {T e : TypeId} {size n : Nat} {v : Value} {xs : List Value} (hb : w.heap[xb]? = some (.cells cs T (0, 0))) (hv : RowAt w e size v n xs) (hk : Own v k) (hne : T ≠ e) : k ≠ xb := by
  obtain ⟨cells, hc⟩ := hv.typed hk
  exact fun h => ne_of_types hb hc hne h.symm
theorem RefAt.store {w : World} {xb : Nat} {cap : Int} {sv v : Value} {rs : List RF} (hb : w.heap[xb]? = some (.cells #[.int .i64 cap, sv] 30 (0, 0))) (hv : RowAt w 43 3 v rs.length (flatR rs)) (ho : ∀ r ∈ rs, RowAt w 5 1 r.b r.data.length (r.data.map u8)) (hs : ∀ r ∈ rs, r.safe ≤ r.data.length) (h0 : 0 ≤ cap) (h1 : cap ≤ 1073741824) (hf : (rused rs : Int) ≤ cap) :
    RefAt (w.setCell ⟨xb, 1, none⟩ v) xb cap v rs := by
  have hst := Step.setAt w ⟨xb, 1, none⟩ v
  refine ⟨by rw [blk_set hb]; rfl, hv.step hst (fun k hk h => RowAt.ne hb hv hk (by decide) h), fun r hr => (ho r hr).step hst (fun k hk h => RowAt.ne hb (ho r hr) hk (by decide) h), hs, h0, h1, hf⟩
theorem RefAt.lay {w : World} {xb : Nat} {cap : Int} {sv v : Value} {rs rs' : List RF} {f : RF} (h : RefAt w xb cap sv rs) (hv : RowAt w 43 3 v rs'.length (flatR rs')) (hp : rs'.Perm (f :: rs)) (hf : RowAt w 5 1 f.b f.data.length (f.data.map u8)) (hs : f.safe ≤ f.data.length) (hfit : (rused rs : Int) + f.data.length ≤ cap) :
    RefAt (w.setCell ⟨xb, 1, none⟩ v) xb cap v rs' := by
  refine RefAt.store h.blk hv (fun r hr => ?_) (fun r hr => ?_) h.cap0 h.cap1 ?_
  · rcases List.mem_cons.1 (hp.mem_iff.1 hr) with rfl | hr
    · exact hf
    · exact h.own r hr
  · rcases List.mem_cons.1 (hp.mem_iff.1 hr) with rfl | hr
    · exact hs
    · exact h.safe r hr
  · rw [rused_perm hp]
    have : rused (f :: rs) = f.data.length + rused rs := by simp [rused]
    omega
theorem _root_.Gb.Step.noTrans' {S : Nat → Prop} {a b c : World} (h : Step No a b) (k : Step S b c) : Step S a c := h.noTrans k
theorem lay_next {w1 wr wd w2 : World} {out v : Value} {o : List RF} {r : RF} {cs : List Value} (hcs : [Value.string r.name, r.b, .int .i64 (r.safe : Int)] = cs) (hv : RowAt wr 43 3 out o.length (flatR o)) (hfr : Fresh w1 out) (hs : Step No w1 wr) (hd : Step No wr wd)
    (k1 : RowAt w2 43 3 v (o.length + 1) (flatR o ++ cs)) (k2 : Step (Own out) wd w2) (k4 : ∀ k, Own v k → Own out k ∨ wd.heap.size ≤ k) :
    Hd (RowAt w2 43 3 v (o ++ [r]).length (flatR (o ++ [r]))) ∧ Hd (Fresh w1 v) ∧ Hd (Step No w1 w2) := by
  refine ⟨⟨?_⟩, ⟨fun k hk => ?_⟩, ⟨(hs.trans' hd).trans k2 (fun i hi hlt => by have := hfr i hi; omega)⟩⟩
  · rw [flatR_snoc, hcs]; simpa using k1
  · rcases k4 k hk with h | h
    · exact hfr k h
    · exact Nat.le_trans (hs.trans' hd).size h
set_option maxHeartbeats 4000000 in
set_option maxRecDepth 100000 in
theorem f32_any (xb : Nat) (cap : Int) (sv : Value) (rs : List RF) (f : RF) (w : World) (h : RefAt w xb cap sv rs) (hf : RowAt w 5 1 f.b f.data.length (f.data.map u8)) (hsf : f.safe ≤ f.data.length) (hfit : (rused rs : Int) + f.data.length ≤ cap) (hn : rs.length ≤ 1300000000000) :
    Calls Try.prog 32 #[.pointer (some ⟨xb, 0, none⟩), .agg #[.string f.name, f.b, .int .i64 (f.safe : Int)]] w fun e w' => e = .returned (.tuple #[]) ∧ ∃ sv', RefAt w' xb cap sv' (rlay rs f) ∧ Step (At xb) w w' ∧ ∀ k, Own sv' k → w.heap.size ≤ k := by
  obtain ⟨A, c, rfl, hc, _, _⟩ := h.row.slice
  obtain ⟨Ab, cb, hfb, _, _, _⟩ := hf.slice
  obtain ⟨l, hl⟩ : ∃ l, l = f.data.length := ⟨_, rfl⟩
  obtain ⟨sf, hsf'⟩ : ∃ sf, sf = f.safe := ⟨_, rfl⟩
  obtain ⟨nm, hnm⟩ : ∃ nm, nm = f.name := ⟨_, rfl⟩
  have hone := cells_one hfb
  have HONE := Hd.mk hone
  rw [hfb, ← hl, ← hsf', ← hnm]
  have HR := Hd.mk h
  have HF := Hd.mk hf
  have HSF := Hd.mk hsf
  have HFit := Hd.mk hfit
  have HCells : Hd ([Value.string f.name, f.b, .int .i64 (f.safe : Int)] = [.string nm, .slice Ab l cb, .int .i64 (sf : Int)]) := ⟨by rw [hfb, ← hl, ← hsf', ← hnm]⟩
  have HNM := Hd.mk hnm
  clear h hf hsf hfit hl hsf' hnm hfb hone
  obtain ⟨w1, hw1⟩ : ∃ w1, w1 = w.alloc (.cells #[.string nm, .slice Ab l cb, .int .i64 (sf : Int)] 43) := ⟨_, rfl⟩
  have hr1 : w.heap.size ≤ w1.heap.size := by rw [hw1]; simp
  have HS1 : Hd (Step No w w1) := ⟨by rw [hw1]; exact Step.alloc _ _ _⟩
  have HB1 : Hd (w1.heap[w.heap.size]? = some (.cells #[.string nm, .slice Ab l cb, .int .i64 (sf : Int)] 43 (0, 0))) := ⟨by rw [hw1]; exact blk_new w _⟩
  go_enter Try.func32, Try.ntmps32
  go_wp2
  rw [← hw1]
  clear hw1
  go_loopg [4, 5, 6] rs.length (fun kq out pv i wr => ∃ (k : Nat) (o : List RF) (put : Bool), k ≤ rs.length ∧ i = .int .i64 k ∧ pv = .bool put ∧ Hd (kq = rs.length - k) ∧ Hd ((rs.take k).foldl (layS f) ([], false) = (o, put)) ∧ Hd (RowAt wr 43 3 out o.length (flatR o)) ∧ Hd (Fresh w1 out) ∧ Hd (Step No w1 wr))
  case atStart => exact ⟨0, [], false, Nat.zero_le _, rfl, rfl, ⟨rfl⟩, ⟨rfl⟩, ⟨RowAt.nil _ _ _⟩, ⟨Fresh.nil _⟩, ⟨Step.refl _ _⟩⟩
  case round =>
    obtain ⟨k, o, put, hk, rfl, rfl, HK, HO, HV, HFr, HS⟩ := hrel
    have HSw : Hd (Step No w wr) := ⟨HS1.out.trans' HS.out⟩
    have HRr : Hd (RefAt wr xb cap (.slice A rs.length c) rs) := ⟨HR.out.stepNo HSw.out⟩
    obtain ⟨hh0, hh1⟩ := HRr.out.head
    by_cases hlt : k < rs.length
    · obtain ⟨ad, b, off, rfl, -, -, hp, hc0, hc1, hc2⟩ := HRr.out.at hlt
      obtain ⟨A2, c2, hb2, -, -, -⟩ := (HRr.out.own rs[k] (List.getElem_mem hlt)).slice
      have HFT := Hd.mk (fold_take (layS f) ([], false) rs hlt)
      have hol := lay_len hk HO.out
      have HLen : Hd (o.length ≤ k + 1 ∧ (put = false → o.length ≤ k)) := ⟨hol⟩
      clear hol
      have hone2 := cells_one hb2
      obtain ⟨r, hr⟩ : ∃ r, r = rs[k] := ⟨_, rfl⟩
      rw [← hr] at hc0 hc1 hc2 hb2 hone2
      obtain ⟨l2, hl2⟩ : ∃ l, l = r.data.length := ⟨_, rfl⟩
      obtain ⟨sf2, hsf2⟩ : ∃ sf, sf = r.safe := ⟨_, rfl⟩
      obtain ⟨nm2, hnm2⟩ : ∃ nm, nm = r.name := ⟨_, rfl⟩
      rw [← hl2] at hb2
      rw [hb2] at hc1
      rw [← hsf2] at hc2
      rw [← hnm2] at hc0
      have HCells2 : Hd ([Value.string r.name, r.b, .int .i64 (r.safe : Int)] = [.string nm2, .slice A2 l2 c2, .int .i64 (sf2 : Int)]) := ⟨by rw [hb2, ← hsf2, ← hnm2]⟩
      have HB2 : Hd (r.b = .slice A2 l2 c2) := ⟨hb2⟩
      have HSF2 : Hd (sf2 = r.safe) := ⟨hsf2⟩
      have HONE2 := Hd.mk hone2
      have HNM2 := Hd.mk hnm2
      have HRK := Hd.mk hr
      clear hb2 hl2 hsf2 hnm2 hone2 hr
      have hx0 : wr.cell? ⟨w.heap.size, 0, none⟩ = some (.string nm) := by rw [blk_cell (HS.out.keep HB1.out (fun h => h))]; rfl
      have hx1 : wr.cell? ⟨w.heap.size, 1, none⟩ = some (.slice Ab l cb) := by rw [blk_cell (HS.out.keep HB1.out (fun h => h))]; rfl
      have hx2 : wr.cell? ⟨w.heap.size, 2, none⟩ = some (.int .i64 (sf : Int)) := by rw [blk_cell (HS.out.keep HB1.out (fun h => h))]; rfl
      cases put
      · cases hb : Op.bytesLess nm.toList nm2.toList
        · go_wp2_with (first | go_quiet (fail) | (at_builtin; refine Stop.back ?_))
          refine Stop.go (wp_append1 rfl _ _ 28 43 rfl (.agg #[.string ⟨#[]⟩, .slice none 0 0, .int .i64 0]) 3 48 Try.underlying28 info43 rfl (by decide) _ _ _ rfl (HV.out.stepNo (Step.drewN _ _ _)) rfl rfl (by have := HONE2.out; rw [HCells2.out] at this; exact this) (by have := HLen.out.1; omega) (by decide) ?_)
          intro v2 w2 k1 k2 _ k4
          have HX := lay_next (w1 := w1) HCells2.out HV.out HFr.out HS.out (Step.drewN _ wr _) k1 k2 k4
          clear k1 k2 k4
          refine Stop.go ?_
          go_wp2
          go_roundg (rs.length - (k + 1))
          case measure => have := HK.out; omega
          case rel =>
            refine ⟨k + 1, o ++ [r], false, by omega, by go_num, rfl, ⟨rfl⟩, ⟨?_⟩, HX.1, HX.2.1, HX.2.2⟩
            rw [HFT.out, HO.out, ← HRK.out]
            rw [HNM.out, HNM2.out] at hb
            simp [layS, hb]
        · go_wp2_with (first | go_quiet (fail) | (at_builtin; refine Stop.back ?_))
          refine Stop.go (wp_append1 rfl _ _ 28 43 rfl (.agg #[.string ⟨#[]⟩, .slice none 0 0, .int .i64 0]) 3 48 Try.underlying28 info43 rfl (by decide) _ _ _ rfl (HV.out.stepNo (Step.drewN _ _ _)) rfl rfl (by have := HONE.out; rw [HCells.out] at this; exact this) (by have := HLen.out.1; omega) (by decide) ?_)
          intro v2 w2 k1 k2 _ k4
          have HX := lay_next (w1 := w1) HCells.out HV.out HFr.out HS.out (Step.drewN _ wr _) k1 k2 k4
          clear k1 k2 k4
          have HSw2 : Hd (Step No w w2) := ⟨HS1.out.trans' HX.2.2.out⟩
          have HRr2 : Hd (RefAt w2 xb cap (.slice (some ad) rs.length c) rs) := ⟨HR.out.stepNo HSw2.out⟩
          obtain ⟨hh0', hh1'⟩ := HRr2.out.head
          obtain ⟨ad', b', off', had, -, -, hp', hc0', hc1', hc2'⟩ := HRr2.out.at hlt
          cases had
          rw [hp] at hp'
          cases hp'
          rw [← HRK.out] at hc0' hc1' hc2'
          rw [← HNM2.out] at hc0'
          rw [HB2.out] at hc1'
          rw [← HSF2.out] at hc2'
          have HXH := Hd.mk HX
          clear HX
          refine Stop.go ?_
          go_wp2_with (first | go_quiet (fail) | (at_builtin; refine Stop.back ?_))
          refine Stop.go (wp_append1 rfl _ _ 28 43 rfl (.agg #[.string ⟨#[]⟩, .slice none 0 0, .int .i64 0]) 3 48 Try.underlying28 info43 rfl (by decide) _ _ _ rfl HXH.out.1.out rfl rfl (by have := HONE2.out; rw [HCells2.out] at this; exact this) (by have := HLen.out.2 (by first | rfl | trivial); simp only [List.length_append, List.length_cons, List.length_nil]; omega) (by decide) ?_)
          intro v3 w3 k1 k2 _ k4
          have HX := lay_next (w1 := w1) HCells2.out HXH.out.1.out HXH.out.2.1.out HXH.out.2.2.out (Step.refl _ w2) k1 k2 k4
          clear k1 k2 k4
          refine Stop.go ?_
          go_wp2
          go_roundg (rs.length - (k + 1))
          case measure => have := HK.out; omega
          case rel =>
            refine ⟨k + 1, o ++ [f] ++ [r], true, by omega, by go_num, rfl, ⟨rfl⟩, ⟨?_⟩, HX.1, HX.2.1, HX.2.2⟩
            rw [HFT.out, HO.out, ← HRK.out]
            rw [HNM.out, HNM2.out] at hb
            simp [layS, hb]
      · go_wp2_with (first | go_quiet (fail) | (at_builtin; refine Stop.back ?_))
        refine Stop.go (wp_append1 rfl _ _ 28 43 rfl (.agg #[.string ⟨#[]⟩, .slice none 0 0, .int .i64 0]) 3 48 Try.underlying28 info43 rfl (by decide) _ _ _ rfl (HV.out.stepNo (Step.drewN _ _ _)) rfl rfl (by have := HONE2.out; rw [HCells2.out] at this; exact this) (by have := HLen.out.1; omega) (by decide) ?_)
        intro v2 w2 k1 k2 _ k4
        have HX := lay_next (w1 := w1) HCells2.out HV.out HFr.out HS.out (Step.drewN _ wr _) k1 k2 k4
        clear k1 k2 k4
        refine Stop.go ?_
        go_wp2
        go_roundg (rs.length - (k + 1))
        case measure => have := HK.out; omega
        case rel =>
          refine ⟨k + 1, o ++ [r], true, by omega, by go_num, rfl, ⟨rfl⟩, ⟨?_⟩, HX.1, HX.2.1, HX.2.2⟩
          rw [HFT.out, HO.out, ← HRK.out]
          simp [layS]
    · obtain rfl : k = rs.length := by omega
      have hx0 : wr.cell? ⟨w.heap.size, 0, none⟩ = some (.string nm) := by rw [blk_cell (HS.out.keep HB1.out (fun h => h))]; rfl
      have hx1 : wr.cell? ⟨w.heap.size, 1, none⟩ = some (.slice Ab l cb) := by rw [blk_cell (HS.out.keep HB1.out (fun h => h))]; rfl
      have hx2 : wr.cell? ⟨w.heap.size, 2, none⟩ = some (.int .i64 (sf : Int)) := by rw [blk_cell (HS.out.keep HB1.out (fun h => h))]; rfl
      have HOF : Hd (rs.foldl (layS f) ([], false) = (o, put)) := ⟨by have := HO.out; rwa [List.take_length] at this⟩
      have HLen : Hd (o.length ≤ rs.length + 1 ∧ (put = false → o.length ≤ rs.length)) := ⟨lay_len hk HO.out⟩
      cases put
      · go_wp2_with (first | go_quiet (fail) | (at_builtin; refine Stop.back ?_))
        refine Stop.go (wp_append1 rfl _ _ 28 43 rfl (.agg #[.string ⟨#[]⟩, .slice none 0 0, .int .i64 0]) 3 48 Try.underlying28 info43 rfl (by decide) _ _ _ rfl HV.out rfl rfl (by have := HONE.out; rw [HCells.out] at this; exact this) (by have := HLen.out.1; omega) (by decide) ?_)
        intro v2 w2 k1 k2 _ k4
        have HX := lay_next (w1 := w1) HCells.out HV.out HFr.out HS.out (Step.refl _ wr) k1 k2 k4
        clear k1 k2 k4
        obtain ⟨A3, c3, rfl, -, -, -⟩ := HX.1.out.slice
        have HSw2 : Hd (Step No w w2) := ⟨HS1.out.trans' HX.2.2.out⟩
        have HRr2 : Hd (RefAt w2 xb cap (.slice A rs.length c) rs) := ⟨HR.out.stepNo HSw2.out⟩
        have hfz := blk_free HRr2.out.blk 1
        obtain ⟨hh0', hh1'⟩ := HRr2.out.head
        have HP : Hd (RefAt (w2.setCell ⟨xb, 1, none⟩ (.slice A3 (o ++ [f]).length c3)) xb cap (.slice A3 (o ++ [f]).length c3) (rlay rs f) ∧ Step (At xb) w (w2.setCell ⟨xb, 1, none⟩ (.slice A3 (o ++ [f]).length c3)) ∧ ∀ k, Own (.slice A3 (o ++ [f]).length c3) k → w.heap.size ≤ k) := ⟨by
          have e : rlay rs f = o ++ [f] := by unfold rlay; rw [HOF.out]; simp [layE]
          refine ⟨HRr2.out.lay (by rw [e]; exact HX.1.out) (rlay_perm rs f) (HF.out.stepNo HSw2.out) HSF.out HFit.out, (HSw2.out.noTrans' (Step.setAt w2 ⟨xb, 1, none⟩ _)), fun k hk => ?_⟩
          have := HX.2.1.out k hk
          have := HS1.out.size
          omega⟩
        clear HX
        refine Stop.go ?_
        go_wp2
        go_end0
        have HP2 := HP.out
        rw [List.length_append] at HP2
        exact ⟨rfl, _, HP2⟩
      · have hfz := blk_free HRr.out.blk 1
        obtain ⟨A3, c3, rfl, -, -, -⟩ := HV.out.slice
        have HP : Hd (RefAt (wr.setCell ⟨xb, 1, none⟩ (.slice A3 o.length c3)) xb cap (.slice A3 o.length c3) (rlay rs f) ∧ Step (At xb) w (wr.setCell ⟨xb, 1, none⟩ (.slice A3 o.length c3)) ∧ ∀ k, Own (.slice A3 o.length c3) k → w.heap.size ≤ k) := ⟨by
          have e : rlay rs f = o := by unfold rlay; rw [HOF.out]; simp [layE]
          refine ⟨HRr.out.lay (by rw [e]; exact HV.out) (rlay_perm rs f) (HF.out.stepNo HSw.out) HSF.out HFit.out, (HSw.out.noTrans' (Step.setAt wr ⟨xb, 1, none⟩ _)), fun k hk => ?_⟩
          have := HFr.out k hk
          have := HS1.out.size
          omega⟩
        go_wp2
        go_end0
        exact ⟨rfl, _, HP.out⟩
end Go.Proofs.Ytmflfimenacflaa

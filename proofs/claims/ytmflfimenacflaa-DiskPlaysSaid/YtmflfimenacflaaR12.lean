/- The walks of the document's Remove and Rename. -/
import Derived.Test.YtmflfimenacflaaR11
set_option linter.unusedVariables false
set_option linter.unusedSimpArgs false
namespace Go.Proofs.Ytmflfimenacflaa
open Go Go.RowKit Gb
def rdel (rs : List RF) (s : ByteArray) : List RF := rs.eraseIdx (rplace rs s)
def rdels (rs : List RF) (ss : List ByteArray) : List RF := ss.foldl rdel rs
theorem rdels_snoc (rs : List RF) {ss : List ByteArray} {k : Nat} (hk : k < ss.length) : rdels rs (ss.take (k + 1)) = rdel (rdels rs (ss.take k)) ss[k] := by
  unfold rdels
  rw [List.take_succ_eq_append_getElem hk, List.foldl_append]; rfl
theorem rdel_sub (rs : List RF) (s : ByteArray) : (rdel rs s).Sublist rs := List.eraseIdx_sublist _ _
theorem rdels_sub (rs : List RF) (ss : List ByteArray) : (rdels rs ss).Sublist rs := by
  unfold rdels
  induction ss generalizing rs with
  | nil => exact List.Sublist.refl _
  | cons s ss ih => exact (ih _).trans (rdel_sub rs s)
theorem rdel_no {rs : List RF} {s : ByteArray} (h : ¬ rplace rs s < rs.length) : rdel rs s = rs := by
  unfold rdel
  exact List.eraseIdx_of_length_le (by omega)
/-- what changes of the list at its head's cell leave -/
structure RAtt (xb : Nat) (cap : Int) (sv : Value) (w : World) (sv' : Value) (rs' : List RF) (w' : World) : Prop where
  ref : RefAt w' xb cap sv' rs'
  step : Step (At xb) w w'
  own : ∀ k, Own sv' k → Own sv k ∨ w.heap.size ≤ k
theorem RAtt.refl {xb : Nat} {cap : Int} {sv : Value} {rs : List RF} {w : World} (h : RefAt w xb cap sv rs) : RAtt xb cap sv w sv rs w := ⟨h, Step.refl _ _, fun _ h => .inl h⟩
theorem RAtt.trans {xb : Nat} {cap : Int} {sv sv1 sv2 : Value} {rs1 rs2 : List RF} {w w1 w2 : World} (h : RAtt xb cap sv w sv1 rs1 w1) (k : RAtt xb cap sv1 w1 sv2 rs2 w2) : RAtt xb cap sv w sv2 rs2 w2 :=
  ⟨k.ref, h.step.trans' k.step, fun j hj => by
    rcases k.own j hj with hj | hj
    · exact h.own j hj
    · exact .inr (Nat.le_trans h.step.size hj)⟩
theorem RAtt.post {xb : Nat} {cap : Int} {sv sv' : Value} {rs rs' : List RF} {w w' : World} {p : List RF → Prop} (h : RAtt xb cap sv w sv' rs' w') (hb : ∀ r ∈ rs', ∀ k, Own r.b k → (∃ r0 ∈ rs, Own r0.b k) ∨ w.heap.size ≤ k) (hp : p rs') : RPost xb cap sv rs w w' p := by
  refine ⟨sv', rs', h.ref, h.step.mono (fun k hk => .inl hk), ?_, hp⟩
  rintro k (hk | hk | ⟨r, hr, hk⟩)
  · exact .inl (.inl hk)
  · rcases h.own k hk with h1 | h1
    · exact .inl (.inr (.inl h1))
    · exact .inr h1
  · rcases hb r hr k hk with h1 | h1
    · exact .inl (.inr (.inr h1))
    · exact .inr h1
theorem f39_att (xb : Nat) (cap : Int) (sv : Value) (rs : List RF) (s : ByteArray) (w : World) (h : RefAt w xb cap sv rs) (hi : rplace rs s < rs.length) (hn : rs.length ≤ 1300000000000) :
    Calls Try.prog 39 #[.pointer (some ⟨xb, 0, none⟩), .int .i64 (rplace rs s : Int)] w fun e w' => e = .returned (.tuple #[]) ∧ ∃ sv', RAtt xb cap sv w sv' (rdel rs s) w' := by
  refine (f39_any xb cap sv rs _ w h hi hn).mono ?_
  rintro e w' ⟨rfl, sv', h1, h2, h3⟩
  exact ⟨rfl, sv', h1, h2, fun k hk => .inr (h3 k hk)⟩
def RRem (rs : List RF) (l : List ByteArray) (rs' : List RF) : Prop := rs' = if rallE rs l = 0 then rdels rs l else rs
set_option maxHeartbeats 1000000 in
theorem f23_any (xb : Nat) (cap : Int) (sv : Value) (rs : List RF) (v : Value) (l : List ByteArray) (w : World) {F : Nat → Prop} (h : RefAt w xb cap sv rs) (hv : Rd Rep.str w F v l) (hF : ∀ k, F k → k ≠ xb) (hn : rs.length ≤ 1300000000000) :
    Calls Try.prog 23 #[.pointer (some ⟨xb, 0, none⟩), v] w fun e w' => e = .returned (.int .i64 (rallE rs l)) ∧ RPost xb cap sv rs w w' (RRem rs l) := by
  have hm := hv.le
  unfold maxLen at hm
  obtain ⟨A, c, rfl, hc, _, _⟩ := hv.slice
  have HV := Hd.mk hv
  have HR := Hd.mk h
  have HF := Hd.mk hF
  have HN := Hd.mk hn
  clear hv h hF hn
  obtain ⟨ev, hev⟩ : ∃ ev, ev = rallE rs l := ⟨_, rfl⟩
  have h36 := f36_any xb cap sv rs (.slice A l.length c) l w HR.out HV.out
  rw [← hev] at h36 ⊢
  have H36 := Hd.mk h36
  have HEV := Hd.mk hev
  clear h36 hev
  by_cases h0 : ev = 0
  · have HE := Hd.mk h0
    have hb : (ev != 0) = false := by simpa using h0
    clear h0
    go_enter Try.func23, Try.ntmps23
    go_wp2_with (first | (go_at_call 36; refine H36.out.mono ?_; rintro e w1 ⟨rfl, rfl⟩))
    go_loopg [6] l.length (fun kq i wr => ∃ (k : Nat) (sv' : Value), k ≤ l.length ∧ i = .int .i64 k ∧ Hd (kq = l.length - k) ∧ Hd (RAtt xb cap sv w sv' (rdels rs (l.take k)) wr))
    case atStart => exact ⟨0, sv, Nat.zero_le _, rfl, ⟨rfl⟩, ⟨RAtt.refl HR.out⟩⟩
    case round =>
      obtain ⟨k, sv', hk, rfl, HK, HA⟩ := hrel
      by_cases hlt : k < l.length
      · obtain ⟨ad, rfl, _, hcell, hok⟩ := Rd.at (HV.out.step HA.out.step (fun k hk e => HF.out k hk e)) hlt
        obtain ⟨x, hx⟩ : ∃ x, x = l[k] := ⟨_, rfl⟩
        rw [← hx] at hcell hok
        have hsn := rdels_snoc rs hlt
        rw [← hx] at hsn
        have HSN := Hd.mk hsn
        obtain ⟨rq, hrq⟩ : ∃ rq, rq = rdels rs (l.take k) := ⟨_, rfl⟩
        have HRq : Hd (rq.length ≤ 1300000000000) := ⟨by rw [hrq]; exact Nat.le_trans (rdels_sub _ _).length_le HN.out⟩
        rw [← hrq] at HA HSN
        clear hx hsn hrq hok
        by_cases hp : rplace rq x < rq.length
        · have hf : rfind rq x = (rplace rq x : Int) := by unfold rfind; rw [if_pos hp]
          have h31 := f31_any xb cap sv' rq x wr HA.out.ref
          rw [hf] at h31
          have h39 := fun W (h : RefAt W xb cap sv' rq) => f39_att xb cap sv' rq x W h hp HRq.out
          obtain ⟨p, hpe⟩ : ∃ p, p = rplace rq x := ⟨_, rfl⟩
          rw [← hpe] at h31 h39
          have H31 := Hd.mk h31
          have H39 := Hd.mk h39
          clear hf h31 h39 hpe hp
          go_wp2_with (first | (go_at_call 31; refine H31.out.mono ?_; rintro e w1 ⟨rfl, rfl⟩) | (go_at_call 39; refine (H39.out _ HA.out.ref).mono ?_; rintro e w2 ⟨rfl, sv2, ha⟩; refine Stop.back ?_))
          have HA2 := Hd.mk (HA.out.trans ha)
          clear ha
          refine Stop.go ?_
          go_wp2
          go_roundg (l.length - (k + 1))
          case measure => have := HK.out; omega
          case rel => exact ⟨k + 1, sv2, by omega, by go_num, ⟨rfl⟩, ⟨by rw [HSN.out]; exact HA2.out⟩⟩
        · have hf : rfind rq x = -1 := by unfold rfind; rw [if_neg hp]
          have h31 := f31_any xb cap sv' rq x wr HA.out.ref
          rw [hf] at h31
          have HDn := Hd.mk (rdel_no hp)
          have H31 := Hd.mk h31
          clear hf h31 hp
          go_wp2_with (first | (go_at_call 31; refine H31.out.mono ?_; rintro e w1 ⟨rfl, rfl⟩))
          go_roundg (l.length - (k + 1))
          case measure => have := HK.out; omega
          case rel => exact ⟨k + 1, sv', by omega, by go_num, ⟨rfl⟩, ⟨by rw [HSN.out, HDn.out]; exact HA.out⟩⟩
      · obtain rfl : k = l.length := by omega
        go_wp2
        go_ret
        refine ⟨ret_int HE.out.symm, ?_⟩
        have ha := HA.out
        rw [List.take_length] at ha
        refine ha.post (fun r hr k hk => .inl ⟨r, (rdels_sub rs l).subset hr, hk⟩) ?_
        unfold RRem
        rw [← HEV.out, if_pos HE.out]
  · have HE := Hd.mk h0
    have hb : (ev != 0) = true := by simpa using h0
    clear h0
    go_enter Try.func23, Try.ntmps23
    go_wp2_with (first | (go_at_call 36; refine H36.out.mono ?_; rintro e w1 ⟨rfl, rfl⟩))
    go_ret
    exact ⟨rfl, RPost.same HR.out (Step.refl _ _) (by unfold RRem; rw [← HEV.out, if_neg HE.out])⟩
def rrenE (rs : List RF) (a b : ByteArray) : Int := if okName a && okName b then (if rhas rs a then 0 else 31) else 30
def rren (rs : List RF) (a b : ByteArray) : List RF := match rs[rplace rs a]? with | some f => rlay (rdel (rdel rs a) b) ⟨b, f.b, f.data, f.safe⟩ | none => rs
theorem rused_erase (rs : List RF) {i : Nat} (hi : i < rs.length) : rused (rs.eraseIdx i) + rs[i].data.length = rused rs := by
  induction rs generalizing i with
  | nil => simp at hi
  | cons r rs ih =>
    cases i with
    | zero => simp [rused]; omega
    | succ i =>
      have := ih (i := i) (by simpa using hi)
      simp only [rused, List.eraseIdx_cons_succ, List.map_cons, List.sum_cons, List.getElem_cons_succ] at *
      omega
/-- the end of a renaming: what f32 is asked and what it leaves -/
theorem rren_end {xb : Nat} {cap : Int} {sv sv2 : Value} {rs : List RF} {w w2 : World} {a b : ByteArray} (h : RefAt w xb cap sv rs) (hi : rplace rs a < rs.length) (hn : rs.length ≤ 1300000000000) (h2 : RAtt xb cap sv w sv2 (rdel (rdel rs a) b) w2) :
    Calls Try.prog 32 #[.pointer (some ⟨xb, 0, none⟩), .agg #[.string b, rs[rplace rs a].b, .int .i64 (rs[rplace rs a].safe : Int)]] w2 fun e w' => e = .returned (.tuple #[]) ∧ RPost xb cap sv rs w w' (fun rs' => rs' = rren rs a b) := by
  have hmem : rs[rplace rs a] ∈ rs := List.getElem_mem hi
  have hx := RowAt.ne h.blk (h.own _ hmem) (k := xb)
  have hrow := (h.own _ hmem).step h2.step (fun k hk e => RowAt.ne h.blk (h.own _ hmem) hk (by decide) e)
  have hsub : (rdel (rdel rs a) b).Sublist (rdel rs a) := rdel_sub _ _
  have hu1 := rused_erase rs hi
  have hu2 := rused_sub hsub
  have hfit : (rused (rdel (rdel rs a) b) : Int) + rs[rplace rs a].data.length ≤ cap := by
    have := h.fits
    unfold rdel at hu2 ⊢
    omega
  refine (f32_any xb cap sv2 (rdel (rdel rs a) b) ⟨b, rs[rplace rs a].b, rs[rplace rs a].data, rs[rplace rs a].safe⟩ w2 h2.ref hrow (h.safe rs[rplace rs a] hmem) hfit (Nat.le_trans (hsub.trans (rdel_sub _ _)).length_le hn)).mono ?_
  rintro e w' ⟨rfl, sv3, h3, s3, o3⟩
  refine ⟨rfl, ?_⟩
  have ht := h2.trans (sv2 := sv3) (w2 := w') ⟨h3, s3, fun k hk => .inr (o3 k hk)⟩
  refine ht.post (fun r hr k hk => ?_) ?_
  · rcases List.mem_cons.1 ((rlay_perm _ _).mem_iff.1 hr) with rfl | hr
    · exact .inl ⟨_, hmem, hk⟩
    · exact .inl ⟨r, (hsub.trans (rdel_sub _ _)).subset hr, hk⟩
  · unfold rren
    rw [List.getElem?_eq_getElem hi]
set_option maxHeartbeats 1000000 in
set_option maxRecDepth 100000 in
theorem f22_bad (xb : Nat) (cap : Int) (sv : Value) (rs : List RF) (a b : ByteArray) (w : World) (ha : StrOk a) (hb : StrOk b) (h : RefAt w xb cap sv rs) (h0 : rrenE rs a b ≠ 0) :
    Calls Try.prog 22 #[.pointer (some ⟨xb, 0, none⟩), .string a, .string b] w fun e w' => e = .returned (.int .i64 (rrenE rs a b)) ∧ w = w' := by
  have HR := Hd.mk h
  clear h
  cases hoa : okName a
  · have e0 : Hd (rrenE rs a b = 30) := ⟨by simp [rrenE, hoa]⟩
    have H29 := f29_any a w ha
    rw [hoa] at H29
    clear hoa h0
    have H := Hd.mk H29
    clear H29
    go_enter Try.func22, Try.ntmps22
    go_wp2_with (first | (go_at_call 29; refine H.out.mono ?_; rintro e w1 ⟨rfl, rfl⟩))
    go_ret
    exact ⟨ret_int e0.out.symm, rfl⟩
  · cases hob : okName b
    · have e0 : Hd (rrenE rs a b = 30) := ⟨by simp [rrenE, hob]⟩
      have H29 := f29_any a w ha
      rw [hoa] at H29
      have H29b := f29_any b w hb
      rw [hob] at H29b
      clear hoa hob h0
      have H := Hd.mk H29
      have HB := Hd.mk H29b
      clear H29 H29b
      go_enter Try.func22, Try.ntmps22
      go_wp2_with (first | (go_at_call 29; (first | with_reducible refine H.out.mono ?_ | with_reducible refine HB.out.mono ?_); rintro e w1 ⟨rfl, rfl⟩))
      go_ret
      exact ⟨ret_int e0.out.symm, rfl⟩
    · have hno : ¬ rplace rs a < rs.length := by
        intro hlt
        refine h0 ?_
        simp [rrenE, hoa, hob, rhas, hlt]
      have e0 : Hd (rrenE rs a b = 31) := ⟨by simp [rrenE, hoa, hob, rhas, hno]⟩
      have H29 := f29_any a w ha
      rw [hoa] at H29
      have H29b := f29_any b w hb
      rw [hob] at H29b
      have h31 := f31_any xb cap sv rs a w HR.out
      have hf : rfind rs a = -1 := by unfold rfind; rw [if_neg hno]
      rw [hf] at h31
      clear hoa hob h0 hno hf
      have H := Hd.mk H29
      have HB := Hd.mk H29b
      have H31 := Hd.mk h31
      clear H29 H29b h31
      go_enter Try.func22, Try.ntmps22
      go_wp2_with (first | (go_at_call 29; (first | with_reducible refine H.out.mono ?_ | with_reducible refine HB.out.mono ?_); rintro e w1 ⟨rfl, rfl⟩) | (go_at_call 31; refine H31.out.mono ?_; rintro e w1 ⟨rfl, rfl⟩))
      go_ret
      exact ⟨ret_int e0.out.symm, rfl⟩
theorem RAtt.box {xb : Nat} {cap : Int} {sv sv2 : Value} {rs rs2 : List RF} {w w3 : World} {g : Nat} {cs : Array Value} (hx : RefAt w xb cap sv rs) (h : RAtt xb cap sv w sv2 rs2 w3) (hg : w3.heap[g]? = some (.cells cs 43 (0, 0))) (hgw : w.heap.size ≤ g) (hne : ∀ k, Own sv2 k → k ≠ g) (u : Value) :
    RAtt xb cap sv w sv2 rs2 (w3.setCell ⟨g, 0, none⟩ u) := by
  have hxw := lt_of_blk hx.blk
  refine ⟨h.ref.step (Step.setAt w3 ⟨g, 0, none⟩ u) (fun k hk e => ?_), h.step.trans (Step.setAt w3 ⟨g, 0, none⟩ u) (fun i hi hlt => ?_), h.own⟩
  · have e' : k = g := e
    subst e'
    rcases hk with hk | hk | ⟨r, hr, hk⟩
    · omega
    · exact hne k hk rfl
    · exact RowAt.ne hg (h.ref.own r hr) hk (by decide) rfl
  · have e' : i = g := hi
    omega
set_option maxHeartbeats 2000000 in
set_option maxRecDepth 100000 in
theorem f22_good (xb : Nat) (cap : Int) (sv : Value) (rs : List RF) (a b : ByteArray) (w : World) (ha : StrOk a) (hb : StrOk b) (h : RefAt w xb cap sv rs) (hn : rs.length ≤ 1300000000000) (h0 : rrenE rs a b = 0) :
    Calls Try.prog 22 #[.pointer (some ⟨xb, 0, none⟩), .string a, .string b] w fun e w' => e = .returned (.int .i64 (rrenE rs a b)) ∧ RPost xb cap sv rs w w' (fun rs' => rs' = rren rs a b) := by
  obtain ⟨hoa, hob, hlt⟩ : okName a = true ∧ okName b = true ∧ rplace rs a < rs.length := by
    unfold rrenE at h0
    cases hoa : okName a <;> cases hob : okName b <;> simp [hoa, hob] at h0
    refine ⟨rfl, rfl, ?_⟩
    unfold rhas at h0
    by_cases hl : rplace rs a < rs.length
    · exact hl
    · simp [hl] at h0
  have hf : rfind rs a = (rplace rs a : Int) := by unfold rfind; rw [if_pos hlt]
  have H29 := f29_any a w ha
  rw [hoa] at H29
  have H29b := f29_any b w hb
  rw [hob] at H29b
  have h31 := f31_any xb cap sv rs a w h
  rw [hf] at h31
  have h39 := fun W (h : RefAt W xb cap sv rs) => f39_att xb cap sv rs a W h hlt hn
  have hend := fun sv2 w2 (h2 : RAtt xb cap sv w sv2 (rdel (rdel rs a) b) w2) => rren_end (b := b) h hlt hn h2
  obtain ⟨A, c, rfl, hc, hcm, hA⟩ := h.row.slice
  obtain ⟨hh0, hh1⟩ := h.head
  obtain ⟨ad, bb, off, rfl, hbo, hoff, hpp, hc0, hc1, hc2⟩ := h.at hlt
  obtain ⟨f, hfe⟩ : ∃ f, f = rs[rplace rs a] := ⟨_, rfl⟩
  rw [← hfe] at hc0 hc1 hc2
  have hfb : ∃ A5 n5 c5, f.b = .slice A5 n5 c5 := by
    obtain ⟨A5, c5, hb5, -, -, -⟩ := (h.own rs[rplace rs a] (List.getElem_mem hlt)).slice
    rw [hfe]; exact ⟨_, _, _, hb5⟩
  obtain ⟨A5, n5, c5, hb5⟩ := hfb
  obtain ⟨p, hp⟩ : ∃ p, p = rplace rs a := ⟨_, rfl⟩
  obtain ⟨sf, hsf⟩ : ∃ sf, sf = f.safe := ⟨_, rfl⟩
  obtain ⟨nm, hnm⟩ : ∃ nm, nm = f.name := ⟨_, rfl⟩
  simp only [← hfe] at hend
  rw [hb5] at hc1
  simp only [hb5, ← hsf] at hend
  rw [← hsf] at hc2
  rw [← hnm] at hc0
  rw [← hp] at h31 hpp
  simp only [← hp] at h39
  have hpl : p < rs.length := by rw [hp]; exact hlt
  rw [h0]
  have HN1 := Hd.mk (Nat.le_trans (rdel_sub rs a).length_le hn)
  have HR := Hd.mk h
  have H := Hd.mk H29
  have HB := Hd.mk H29b
  have H31 := Hd.mk h31
  have H39 := Hd.mk h39
  have HEnd := Hd.mk hend
  clear H29 H29b h31 h39 hend hf hoa hob hfe hp hsf hnm hb5 hn h0 hbo hoff hlt
  go_enter Try.func22, Try.ntmps22
  go_wp2_with (first | (go_at_call 29; (first | with_reducible refine H.out.mono ?_ | with_reducible refine HB.out.mono ?_); rintro e w1 ⟨rfl, rfl⟩) | (go_at_call 31; refine H31.out.mono ?_; rintro e w1 ⟨rfl, rfl⟩) | (go_at_call 39; refine Stop.back ?_))
  obtain ⟨W1, hW1⟩ : ∃ W1, W1 = w.alloc (.cells #[.string nm, .slice A5 n5 c5, .int .i64 (sf : Int)] 43) := ⟨_, rfl⟩
  rw [← hW1]
  have hst1 : Step No w W1 := by rw [hW1]; exact Step.alloc _ _ _
  have hbk1 : W1.heap[w.heap.size]? = some (.cells #[.string nm, .slice A5 n5 c5, .int .i64 (sf : Int)] 43 (0, 0)) := by rw [hW1]; exact blk_new w _
  have HSt1 := Hd.mk hst1
  have HBk1 := Hd.mk hbk1
  clear hst1 hbk1 hW1
  refine Stop.go ?_
  refine (H39.out W1 (HR.out.stepNo HSt1.out)).mono ?_
  rintro e w2 ⟨rfl, sv1, ha1⟩
  obtain ⟨g, hg⟩ : ∃ g, g = w.heap.size := ⟨_, rfl⟩
  rw [← hg]
  have hgx : ∀ W, Step (At xb) W1 W → W.heap[g]? = some (.cells #[.string nm, .slice A5 n5 c5, .int .i64 (sf : Int)] 43 (0, 0)) := fun W hs => by
    rw [hg]
    refine hs.keep HBk1.out (fun e => ?_)
    have := lt_of_blk HR.out.blk
    cases e; omega
  have HA1 : Hd (RAtt xb cap (.slice (some ad) rs.length c) w sv1 (rdel rs a) w2) := ⟨⟨ha1.ref, HSt1.out.noTrans ha1.step, fun k hk => by
    rcases ha1.own k hk with h | h
    · exact .inl h
    · exact .inr (Nat.le_trans HSt1.out.size h)⟩⟩
  have HG1 : Hd (Step (At xb) W1 w2) := ⟨ha1.step⟩
  have hne1 : ∀ k, Own sv1 k → k ≠ g := fun k hk e => by
    rcases ha1.own k hk with h | h
    · have := HR.out.row.lt h; omega
    · have := lt_of_blk HBk1.out; omega
  have HNe1 := Hd.mk hne1
  clear hne1
  have HGx := Hd.mk hgx
  have HG := Hd.mk hg
  clear ha1 hgx hg
  have h31b := f31_any xb cap sv1 (rdel rs a) b w2 HA1.out.ref
  by_cases hp2 : rplace (rdel rs a) b < (rdel rs a).length
  · have hf2 : rfind (rdel rs a) b = (rplace (rdel rs a) b : Int) := by unfold rfind; rw [if_pos hp2]
    rw [hf2] at h31b
    have h39b := f39_att xb cap sv1 (rdel rs a) b w2 HA1.out.ref hp2 HN1.out
    obtain ⟨p2, hp2e⟩ : ∃ p2, p2 = rplace (rdel rs a) b := ⟨_, rfl⟩
    rw [← hp2e] at h31b h39b
    have H31b := Hd.mk h31b
    have H39b := Hd.mk h39b
    clear h31b h39b hp2 hf2 hp2e
    go_wp2_with (first | (go_at_call 31; with_reducible refine H31b.out.mono ?_; rintro e w3 ⟨rfl, rfl⟩) | (go_at_call 39; refine Stop.back ?_))
    refine Stop.go (H39b.out.mono ?_)
    rintro e w3 ⟨rfl, sv2, ha2⟩
    have HA2 := Hd.mk (HA1.out.trans ha2)
    have hg3 := HGx.out w3 (HG1.out.trans' ha2.step)
    have hne2 : ∀ k, Own sv2 k → k ≠ g := fun k hk e => by
      rcases ha2.own k hk with h | h
      · exact HNe1.out k h e
      · have := HG1.out.size; have := lt_of_blk HBk1.out; have := HG.out; omega
    have hA3 := RAtt.box HR.out HA2.out hg3 (by rw [HG.out]; omega) hne2 (.string b)
    have HC := Hd.mk (HEnd.out sv2 _ hA3)
    have c0 := blk_cell hg3 0
    have f0 := blk_free hg3 0
    have hs3 := blk_set hg3 0 (.string b)
    obtain ⟨W3, hW3⟩ : ∃ W3, W3 = w3.setCell ⟨g, 0, none⟩ (.string b) := ⟨_, rfl⟩
    have d0 := blk_cell hs3 0
    have d1 := blk_cell hs3 1
    have d2 := blk_cell hs3 2
    simp only [List.getElem?_toArray, List.getElem?_cons_zero] at c0
    simp at d0 d1 d2
    clear hs3 hg3 hA3 ha2 hne2 hW3
    go_wp2_with (first | (go_at_call 32; refine HC.out.mono ?_; rintro e w4 ⟨rfl, hp4⟩; refine Stop.back ?_))
    have HP4 := Hd.mk hp4
    clear hp4
    refine Stop.go ?_
    go_wp2
    go_ret
    exact ⟨rfl, HP4.out⟩
  · have hf2 : rfind (rdel rs a) b = -1 := by unfold rfind; rw [if_neg hp2]
    rw [hf2] at h31b
    have hdn := rdel_no hp2
    have H31b := Hd.mk h31b
    have HA2 : Hd (RAtt xb cap (.slice (some ad) rs.length c) w sv1 (rdel (rdel rs a) b) w2) := ⟨by rw [hdn]; exact HA1.out⟩
    have hg3 := HGx.out w2 HG1.out
    have hA3 := RAtt.box HR.out HA2.out hg3 (by rw [HG.out]; omega) HNe1.out (.string b)
    have HC := Hd.mk (HEnd.out sv1 _ hA3)
    have c0 := blk_cell hg3 0
    have f0 := blk_free hg3 0
    have hs3 := blk_set hg3 0 (.string b)
    have d0 := blk_cell hs3 0
    have d1 := blk_cell hs3 1
    have d2 := blk_cell hs3 2
    simp only [List.getElem?_toArray, List.getElem?_cons_zero] at c0
    simp at d0 d1 d2
    clear h31b hs3 hg3 hA3 hdn hp2 hf2
    go_wp2_with (first | (go_at_call 31; with_reducible refine H31b.out.mono ?_; rintro e w3 ⟨rfl, rfl⟩) | (go_at_call 32; refine HC.out.mono ?_; rintro e w4 ⟨rfl, hp4⟩; refine Stop.back ?_))
    have HP4 := Hd.mk hp4
    clear hp4
    refine Stop.go ?_
    go_wp2
    go_ret
    exact ⟨rfl, HP4.out⟩
theorem f22_any (xb : Nat) (cap : Int) (sv : Value) (rs : List RF) (a b : ByteArray) (w : World) (ha : StrOk a) (hb : StrOk b) (h : RefAt w xb cap sv rs) (hn : rs.length ≤ 1300000000000) :
    Calls Try.prog 22 #[.pointer (some ⟨xb, 0, none⟩), .string a, .string b] w fun e w' => e = .returned (.int .i64 (rrenE rs a b)) ∧ RPost xb cap sv rs w w' (fun rs' => rs' = if rrenE rs a b = 0 then rren rs a b else rs) := by
  by_cases h0 : rrenE rs a b = 0
  · refine (f22_good xb cap sv rs a b w ha hb h hn h0).mono ?_
    rintro e w' ⟨he, hp⟩
    refine ⟨he, ?_⟩
    rw [if_pos h0]; exact hp
  · refine (f22_bad xb cap sv rs a b w ha hb h h0).mono ?_
    rintro e w' ⟨he, rfl⟩
    refine ⟨he, RPost.same h (Step.refl _ _) ?_⟩
    rw [if_neg h0]
end Go.Proofs.Ytmflfimenacflaa

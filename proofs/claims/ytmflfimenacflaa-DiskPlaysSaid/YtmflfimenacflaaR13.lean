/- The walk of the document's Sync. -/
import Derived.Test.YtmflfimenacflaaR12
set_option linter.unusedVariables false
set_option linter.unusedSimpArgs false
namespace Go.Proofs.Ytmflfimenacflaa
open Go Go.RowKit Gb
theorem flatR_setc (rs : List RF) {k : Nat} (hk : k < rs.length) (j : Nat) (hj : j < 3) (u : Value) (r' : RF) (h : r'.cells = rs[k].cells.set j u) : (flatR rs).set (k * 3 + j) u = flatR (rs.set k r') := by
  induction rs generalizing k with
  | nil => simp at hk
  | cons r rs ih =>
    have e : ∀ (a : RF) (l : List RF), flatR (a :: l) = RF.cells a ++ flatR l := fun a l => by simp [flatR]
    cases k with
    | zero =>
      simp only [List.set_cons_zero, e, List.getElem_cons_zero] at *
      rw [h, List.set_append_left _ _ (by simp [RF.cells]; omega)]
      simp
    | succ k =>
      have := ih (k := k) (by simpa using hk) (by simpa using h)
      simp only [List.set_cons_succ, e]
      rw [← this, List.set_append_right _ _ (by simp [RF.cells]; omega)]
      congr 1
      simp [RF.cells]
      congr 1
      omega
theorem rused_setd (rs : List RF) {k : Nat} (hk : k < rs.length) (r' : RF) (h : r'.data.length = rs[k].data.length) : rused (rs.set k r') = rused rs := by
  have := rused_set rs hk r'
  omega
theorem RefAt.updS {w : World} {xb : Nat} {cap : Int} {A : Option Addr} {n c : Nat} {rs : List RF} (h : RefAt w xb cap (.slice A n c) rs) {k b : Nat} (hk : k < rs.length) (hb : Own (.slice A n c) b) {m : Nat} (hs : m ≤ rs[k].data.length) :
    RefAt (w.setCell ⟨b, k * 3 + 2, none⟩ (.int .i64 (m : Int))) xb cap (.slice A n c) (rs.set k ⟨rs[k].name, rs[k].b, rs[k].data, m⟩) := by
  obtain ⟨g, c', hsv, _, _, _, _⟩ := h.row.form (by omega)
  cases hsv
  cases hb
  have hst := Step.setAt w ⟨g, k * 3 + 2, none⟩ (.int .i64 (m : Int))
  obtain ⟨cells, hgt⟩ := h.row.typed (k := g) rfl
  have hne : g ≠ xb := ne_of_types hgt h.blk (by decide)
  refine ⟨hst.keep h.blk (fun e => hne e.symm), ?_, fun r hr => ?_, fun r hr => ?_, h.cap0, h.cap1, ?_⟩
  · rw [← flatR_setc rs hk 2 (by omega) (.int .i64 (m : Int)) _ (by simp [RF.cells]), List.length_set]
    exact h.row.set _ _
  · rcases List.mem_or_eq_of_mem_set hr with hr | rfl
    · exact (h.own r hr).step hst (fun j hj e => RowAt.ne hgt (h.own r hr) hj (by decide) e)
    · exact (h.own rs[k] (List.getElem_mem hk)).step hst (fun j hj e => RowAt.ne hgt (h.own rs[k] (List.getElem_mem hk)) hj (by decide) e)
  · rcases List.mem_or_eq_of_mem_set hr with hr | rfl
    · exact h.safe r hr
    · exact hs
  · rw [rused_setd rs hk ⟨rs[k].name, rs[k].b, rs[k].data, m⟩ rfl]; exact h.fits
def rsync (rs : List RF) (s : ByteArray) : List RF := match rs[rplace rs s]? with | some r => rs.set (rplace rs s) ⟨r.name, r.b, r.data, r.data.length⟩ | none => rs
def rsyncs (rs : List RF) (ss : List ByteArray) : List RF := ss.foldl rsync rs
theorem rsyncs_snoc (rs : List RF) {ss : List ByteArray} {k : Nat} (hk : k < ss.length) : rsyncs rs (ss.take (k + 1)) = rsync (rsyncs rs (ss.take k)) ss[k] := by
  unfold rsyncs
  rw [List.take_succ_eq_append_getElem hk, List.foldl_append]; rfl
theorem names_set {rs : List RF} {k : Nat} {r' : RF} (hk : k < rs.length) (h : r'.name = rs[k].name) : (rs.set k r').map RF.name = rs.map RF.name := by
  rw [List.map_set, h]
  apply List.ext_getElem (by simp)
  intro i h1 h2
  rw [List.getElem_set]
  split
  · rename_i e; subst e; simp
  · rfl
theorem rplace_names {a b : List RF} (h : a.map RF.name = b.map RF.name) (s : ByteArray) : rplace a s = rplace b s := by
  induction a generalizing b with
  | nil => cases b with
    | nil => rfl
    | cons _ _ => simp at h
  | cons x a ih =>
    cases b with
    | nil => simp at h
    | cons y b =>
      simp only [List.map_cons, List.cons.injEq] at h
      have := ih h.2
      unfold rplace at *
      rw [List.findIdx_cons, List.findIdx_cons, h.1, this]
theorem rsync_names (rs : List RF) (s : ByteArray) : (rsync rs s).map RF.name = rs.map RF.name := by
  unfold rsync
  split
  · rename_i r hr
    obtain ⟨h1, h2⟩ := List.getElem?_eq_some_iff.1 hr
    exact names_set h1 (by rw [h2])
  · rfl
theorem rsyncs_names (rs : List RF) (ss : List ByteArray) : (rsyncs rs ss).map RF.name = rs.map RF.name := by
  unfold rsyncs
  induction ss generalizing rs with
  | nil => rfl
  | cons s ss ih => exact (ih _).trans (rsync_names rs s)
theorem rsyncs_len (rs : List RF) (ss : List ByteArray) : (rsyncs rs ss).length = rs.length := by have := congrArg List.length (rsyncs_names rs ss); simpa using this
theorem rsync_b {rs : List RF} {s : ByteArray} {r : RF} (h : r ∈ rsync rs s) : ∃ r0 ∈ rs, r0.b = r.b := by
  unfold rsync at h
  split at h
  · rename_i q hq
    rcases List.mem_or_eq_of_mem_set h with h | rfl
    · exact ⟨r, h, rfl⟩
    · exact ⟨q, List.mem_of_getElem? hq, rfl⟩
  · exact ⟨r, h, rfl⟩
theorem rsyncs_b {rs : List RF} {ss : List ByteArray} {r : RF} (h : r ∈ rsyncs rs ss) : ∃ r0 ∈ rs, r0.b = r.b := by
  unfold rsyncs at h
  induction ss generalizing rs with
  | nil => exact ⟨r, h, rfl⟩
  | cons s ss ih =>
    obtain ⟨r1, h1, e1⟩ := ih h
    obtain ⟨r0, h0, e0⟩ := rsync_b h1
    exact ⟨r0, h0, e0.trans e1⟩
def RSync (rs : List RF) (l : List ByteArray) (rs' : List RF) : Prop := rs' = if rallE rs l = 0 then rsyncs rs l else rs
theorem rallE_has {rs : List RF} {l : List ByteArray} (h : rallE rs l = 0) {s : ByteArray} (hs : s ∈ l) : rplace rs s < rs.length := by
  unfold rallE at h
  cases h1 : l.all okName <;> simp [h1] at h
  have := h s hs
  simpa [rhas] using this
set_option maxHeartbeats 1000000 in
theorem f21_any (xb : Nat) (cap : Int) (sv : Value) (rs : List RF) (v : Value) (l : List ByteArray) (w : World) {F : Nat → Prop} (h : RefAt w xb cap sv rs) (hv : Rd Rep.str w F v l) (hF : ∀ k, F k → ¬ Own sv k) :
    Calls Try.prog 21 #[.pointer (some ⟨xb, 0, none⟩), v] w fun e w' => e = .returned (.int .i64 (rallE rs l)) ∧ RPost xb cap sv rs w w' (RSync rs l) := by
  have hm := hv.le
  unfold maxLen at hm
  obtain ⟨A, c, rfl, hc, _, _⟩ := hv.slice
  obtain ⟨A2, c2, rfl, hc2, _, _⟩ := h.row.slice
  have HV := Hd.mk hv
  have HR := Hd.mk h
  have HF := Hd.mk hF
  clear hv h hF
  obtain ⟨ev, hev⟩ : ∃ ev, ev = rallE rs l := ⟨_, rfl⟩
  have h36 := f36_any xb cap (.slice A2 rs.length c2) rs (.slice A l.length c) l w HR.out HV.out
  rw [← hev] at h36 ⊢
  have H36 := Hd.mk h36
  have HEV := Hd.mk hev
  clear h36 hev
  by_cases h0 : ev = 0
  · have HE := Hd.mk h0
    have hb : (ev != 0) = false := by simpa using h0
    clear h0
    go_enter Try.func21, Try.ntmps21
    go_wp2_with (first | (go_at_call 36; refine H36.out.mono ?_; rintro e w1 ⟨rfl, rfl⟩))
    go_loopg [6] l.length (fun kq i wr => ∃ (k : Nat), k ≤ l.length ∧ i = .int .i64 k ∧ Hd (kq = l.length - k) ∧ Hd (RefAt wr xb cap (.slice A2 rs.length c2) (rsyncs rs (l.take k))) ∧ Hd (Step (Own (.slice A2 rs.length c2)) w wr))
    case atStart => exact ⟨0, Nat.zero_le _, rfl, ⟨rfl⟩, HR, ⟨Step.refl _ _⟩⟩
    case round =>
      obtain ⟨k, hk, rfl, HK, HA, HS⟩ := hrel
      by_cases hlt : k < l.length
      · obtain ⟨ad, rfl, _, hcell, hok⟩ := Rd.at (HV.out.step HS.out HF.out) hlt
        obtain ⟨x, hx⟩ : ∃ x, x = l[k] := ⟨_, rfl⟩
        have hpx : rplace rs x < rs.length := rallE_has (by rw [← HEV.out]; exact HE.out) (by rw [hx]; exact List.getElem_mem hlt)
        rw [← hx] at hcell hok
        have hsn := rsyncs_snoc rs hlt
        rw [← hx] at hsn
        have HSN := Hd.mk hsn
        have hpn := rplace_names (rsyncs_names rs (l.take k)) x
        have hln := rsyncs_len rs (l.take k)
        obtain ⟨rq, hrq⟩ : ∃ rq, rq = rsyncs rs (l.take k) := ⟨_, rfl⟩
        rw [← hrq] at HA HSN hpn hln
        have hp : rplace rq x < rq.length := by rw [hpn, hln]; exact hpx
        have hf : rfind rq x = (rplace rq x : Int) := by unfold rfind; rw [if_pos hp]
        have h31 := f31_any xb cap (.slice A2 rs.length c2) rq x wr HA.out
        rw [hf] at h31
        obtain ⟨hh0, hh1⟩ := HA.out.head
        obtain ⟨ad2, b, off, rfl, hbo, hoff, hpp, hc0, hc1, hc3⟩ := HA.out.at hp
        obtain ⟨A5, c5, hb5, -, -, -⟩ := (HA.out.own rq[rplace rq x] (List.getElem_mem hp)).slice
        have hupd := HA.out.updS hp hbo (Nat.le_refl _)
        have hrs : rsync rq x = rq.set (rplace rq x) ⟨rq[rplace rq x].name, rq[rplace rq x].b, rq[rplace rq x].data, rq[rplace rq x].data.length⟩ := by
          unfold rsync; rw [List.getElem?_eq_getElem hp]
        rw [← hrs, ← hoff] at hupd
        have hfz : wr.frozen? ⟨b, off + 2, none⟩ = false := by
          obtain ⟨cells, hg⟩ := HA.out.row.typed hbo
          exact blk_free hg _
        rw [hb5] at hc1
        obtain ⟨s0, hs0⟩ : ∃ s0, s0 = rq[rplace rq x].safe := ⟨_, rfl⟩
        rw [← hs0] at hc3
        obtain ⟨n5, hn5⟩ : ∃ n5, n5 = rq[rplace rq x].data.length := ⟨_, rfl⟩
        rw [← hn5] at hc1 hupd
        have hpl : rplace rq x < rs.length := by rw [← hln]; exact hp
        obtain ⟨p, hpe⟩ : ∃ p, p = rplace rq x := ⟨_, rfl⟩
        rw [← hpe] at h31 hpp hpl
        have HUpd := Hd.mk hupd
        have HBo := Hd.mk hbo
        have H31 := Hd.mk h31
        have hr0 : ∀ x, x = rs.length → True := fun _ _ => trivial
        clear hs0 hx hpx hsn hpn hln hrq hok hp hf h31 hh0 hc0 hb5 hupd hrs hn5 hpe hbo hoff hr0
        go_wp2_with (first | (go_at_call 31; refine H31.out.mono ?_; rintro e w1 ⟨rfl, rfl⟩))
        go_region
        have HX : Hd (RefAt (wr.setCell ⟨b, off + 2, none⟩ (.int .i64 (n5 : Int))).drew xb cap (.slice (some ad2) rs.length c2) (rsyncs rs (l.take (k + 1))) ∧ Step (Own (.slice (some ad2) rs.length c2)) w (wr.setCell ⟨b, off + 2, none⟩ (.int .i64 (n5 : Int))).drew) := ⟨by
          rw [HSN.out]
          exact ⟨HUpd.out.stepNo (Step.drew _ _), (HS.out.trans' (Step.set wr (p := ⟨b, off + 2, none⟩) HBo.out _)).trans' (Step.drew _ _)⟩⟩
        go_wp2
        go_roundg (l.length - (k + 1))
        case measure => have := HK.out; omega
        case rel => exact ⟨k + 1, by omega, by go_num, ⟨rfl⟩, ⟨HX.out.1⟩, ⟨HX.out.2⟩⟩
      · obtain rfl : k = l.length := by omega
        go_wp2
        go_ret
        refine ⟨ret_int HE.out.symm, ?_⟩
        have ha := HA.out
        rw [List.take_length] at ha
        refine ⟨_, _, ha, HS.out.mono (fun k hk => .inr (.inl hk)), ?_, ?_⟩
        · rintro k (hk | hk | ⟨r, hr, hk⟩)
          · exact .inl (.inl hk)
          · exact .inl (.inr (.inl hk))
          · obtain ⟨r0, h0, e0⟩ := rsyncs_b hr
            exact .inl (.inr (.inr ⟨r0, h0, by rw [e0]; exact hk⟩))
        · unfold RSync
          rw [← HEV.out, if_pos HE.out]
  · have HE := Hd.mk h0
    have hb : (ev != 0) = true := by simpa using h0
    clear h0
    go_enter Try.func21, Try.ntmps21
    go_wp2_with (first | (go_at_call 36; refine H36.out.mono ?_; rintro e w1 ⟨rfl, rfl⟩))
    go_ret
    exact ⟨rfl, RPost.same HR.out (Step.refl _ _) (by unfold RSync; rw [← HEV.out, if_neg HE.out])⟩
end Go.Proofs.Ytmflfimenacflaa

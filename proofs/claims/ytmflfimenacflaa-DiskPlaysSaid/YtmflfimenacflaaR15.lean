/- The walk of the document's Crash. -/
import Derived.Test.YtmflfimenacflaaR14
import Derived.Deep.DeepCutAuto
set_option linter.unusedVariables false
set_option linter.unusedSimpArgs false
namespace Go.Proofs.Ytmflfimenacflaa
open Go Go.RowKit Gb
def loose (V : View) : Nat := (V.filter (fun p => p.2.1.length - p.2.2 != 0)).length
theorem loose_le (V : View) : loose V ≤ V.length := List.length_filter_le _ _
theorem loose_snoc (V : View) (p : ByteArray × (List UInt8 × Nat)) : loose (V ++ [p]) = loose V + if p.2.1.length - p.2.2 = 0 then 0 else 1 := by
  unfold loose
  rw [List.filter_append, List.length_append]
  by_cases h : p.2.1.length - p.2.2 = 0
  · simp [h]
  · rw [if_neg h, List.filter_cons_of_pos (by simpa using h)]; rfl
theorem ccr_cons_eq {p : ByteArray × (List UInt8 × Nat)} {V : View} (cuts : List Int) (h : p.2.1.length - p.2.2 = 0) : ccr (p :: V) cuts = p :: ccr V cuts := by
  rw [ccr, if_pos h]
theorem ccr_cons_ne {p : ByteArray × (List UInt8 × Nat)} {V : View} (cuts : List Int) (h : ¬ p.2.1.length - p.2.2 = 0) : ccr (p :: V) cuts = (p.1, (p.2.1.take (p.2.2 + vkeep cuts (p.2.1.length - p.2.2)), p.2.2 + vkeep cuts (p.2.1.length - p.2.2))) :: ccr V cuts.tail := by
  rw [ccr, if_neg h]
theorem ccr_append (A B : View) (cuts : List Int) : ccr (A ++ B) cuts = ccr A cuts ++ ccr B (cuts.drop (loose A)) := by
  induction A generalizing cuts with
  | nil => simp [ccr, loose]
  | cons p A ih =>
    by_cases h : p.2.1.length - p.2.2 = 0
    · have e : loose (p :: A) = loose A := by unfold loose; rw [List.filter_cons_of_neg (by simp [h])]
      rw [e, List.cons_append, ccr_cons_eq _ h, ccr_cons_eq _ h, ih]; rfl
    · have e : loose (p :: A) = loose A + 1 := by unfold loose; rw [List.filter_cons_of_pos (by simpa using h)]; rfl
      rw [e, List.cons_append, ccr_cons_ne _ h, ccr_cons_ne _ h, ih, List.drop_tail]; rfl
theorem vkeep_drop (cuts : List Int) (a n : Nat) : (vkeep (cuts.drop a) n : Int) = if h : a < cuts.length then min (max cuts[a] 0) n else 0 := by
  by_cases h : a < cuts.length
  · rw [dif_pos h, List.drop_eq_getElem_cons h]
    unfold vkeep
    simp only
    omega
  · rw [dif_neg h, List.drop_eq_nil_of_le (by omega)]
    rfl
theorem RefAt.updA {w : World} {xb : Nat} {cap : Int} {A : Option Addr} {n c : Nat} {rs : List RF} (h : RefAt w xb cap (.slice A n c) rs) {k b : Nat} (hk : k < rs.length) (hb : Own (.slice A n c) b) (r' : RF) (hv : RowAt w 5 1 r'.b r'.data.length (r'.data.map u8)) (hs : r'.safe ≤ r'.data.length) (hd : r'.data.length ≤ rs[k].data.length) :
    RefAt (((w.setCell ⟨b, k * 3, none⟩ (.string r'.name)).setCell ⟨b, k * 3 + 1, none⟩ r'.b).setCell ⟨b, k * 3 + 2, none⟩ (.int .i64 (r'.safe : Int))) xb cap (.slice A n c) (rs.set k r') := by
  obtain ⟨g, c', hsv, _, _, _, _⟩ := h.row.form (by omega)
  cases hsv
  cases hb
  have hst : Step (At g) w (((w.setCell ⟨g, k * 3, none⟩ (.string r'.name)).setCell ⟨g, k * 3 + 1, none⟩ r'.b).setCell ⟨g, k * 3 + 2, none⟩ (.int .i64 (r'.safe : Int))) :=
    ((Step.setAt w ⟨g, k * 3, none⟩ _).trans' (Step.setAt _ ⟨g, k * 3 + 1, none⟩ _)).trans' (Step.setAt _ ⟨g, k * 3 + 2, none⟩ _)
  obtain ⟨cells, hgt⟩ := h.row.typed (k := g) rfl
  have hne : g ≠ xb := ne_of_types hgt h.blk (by decide)
  refine ⟨hst.keep h.blk (fun e => hne e.symm), ?_, fun r hr => ?_, fun r hr => ?_, h.cap0, h.cap1, ?_⟩
  · have hl0 := flatR_len rs
    have hh := flatR_at rs hk
    have e : flatR (rs.set k r') = (((flatR rs).set (k * 3) (.string r'.name)).set (k * 3 + 1) r'.b).set (k * 3 + 2) (.int .i64 (r'.safe : Int)) := by
      have e1 := flatR_setc rs hk 0 (by omega) (.string r'.name) ⟨r'.name, rs[k].b, rs[k].data, rs[k].safe⟩ (by simp [RF.cells])
      have hk2 : k < (rs.set k ⟨r'.name, rs[k].b, rs[k].data, rs[k].safe⟩).length := by simpa using hk
      have e2 := flatR_setc (rs.set k ⟨r'.name, rs[k].b, rs[k].data, rs[k].safe⟩) hk2 1 (by omega) r'.b ⟨r'.name, r'.b, rs[k].data, rs[k].safe⟩ (by simp [RF.cells])
      rw [List.set_set] at e2
      have hk3 : k < (rs.set k ⟨r'.name, r'.b, rs[k].data, rs[k].safe⟩).length := by simpa using hk
      have e3 := flatR_setc (rs.set k ⟨r'.name, r'.b, rs[k].data, rs[k].safe⟩) hk3 2 (by omega) (.int .i64 (r'.safe : Int)) r' (by simp [RF.cells])
      rw [List.set_set] at e3
      rw [← e3, ← e2, ← e1]; rfl
    rw [e, List.length_set]
    exact ((h.row.set _ _).set _ _).set _ _
  · rcases List.mem_or_eq_of_mem_set hr with hr | rfl
    · exact (h.own r hr).step hst (fun j hj e => RowAt.ne hgt (h.own r hr) hj (by decide) e)
    · exact hv.step hst (fun j hj e => RowAt.ne hgt hv hj (by decide) e)
  · rcases List.mem_or_eq_of_mem_set hr with hr | rfl
    · exact h.safe r hr
    · exact hs
  · have := rused_set rs hk r'
    have := h.fits
    omega
theorem run_cutR {P : Program} {t e : TypeId} {i : TypeInfo} (ht : P.underlying t = some (.slice e)) (hi : P.info? e = some i) (A : Option Addr) (n c : Nat) (kl : IntKind) {h : Int} {m : Nat} (he : h = m) (hm : m ≤ c) (W : World) :
    (Instr.slice t (.slice A n c) none (some (.int kl h)) none).run P W = .ok (.slice A m c) W := by
  subst he
  have hel : P.elem t = e := by simp [Program.elem, ht]
  have hu : P.underlying t = some (.slice (P.elem t)) := by rw [hel]; exact ht
  rw [run_slice_h W t A n c hu kl (m : Int) (Int.natCast_nonneg _) (by omega), hel]
  simp [Go.sizeOf, typeInfo, hi, sliced, Result.andThen]
  intro _
  cases A with
  | none => rfl
  | some a => simp [Addr.add]
/-- how far a crash has come: the files ahead of k are cut, the others are as they were -/
structure CrashK (rs rq : List RF) (cuts : List Int) (k : Nat) : Prop where
  len : rq.length = rs.length
  view : rview rq = ccr (rview (rs.take k)) cuts ++ rview (rs.drop k)
  rest : ∀ j, k ≤ j → rq[j]? = rs[j]?
theorem CrashK.zero (rs : List RF) (cuts : List Int) : CrashK rs rs cuts 0 := ⟨rfl, by simp [rview, ccr], fun _ _ => rfl⟩
theorem rview_len (rs : List RF) : (rview rs).length = rs.length := by simp [rview]
theorem ccr_len (V : View) (cuts : List Int) : (ccr V cuts).length = V.length := by have := congrArg List.length (ccr_keys V cuts); simpa using this
theorem rview_take (rs : List RF) {k : Nat} (hk : k < rs.length) : rview (rs.take (k + 1)) = rview (rs.take k) ++ [(rs[k].name, (rs[k].data, rs[k].safe))] := by
  rw [List.take_succ_eq_append_getElem hk]; unfold rview; rw [List.map_append]; rfl
theorem rview_drop (rs : List RF) {k : Nat} (hk : k < rs.length) : rview (rs.drop k) = (rs[k].name, (rs[k].data, rs[k].safe)) :: rview (rs.drop (k + 1)) := by
  rw [List.drop_eq_getElem_cons hk]; rfl
theorem CrashK.same {rs rq : List RF} {cuts : List Int} {k : Nat} (h : CrashK rs rq cuts k) (hk : k < rs.length) (h0 : rs[k].data.length - rs[k].safe = 0) : CrashK rs rq cuts (k + 1) := by
  refine ⟨h.len, ?_, fun j hj => h.rest j (by omega)⟩
  rw [h.view, rview_take rs hk, ccr_append, rview_drop rs hk, ccr_cons_eq _ h0]
  simp [ccr]
theorem CrashK.cut {rs rq : List RF} {cuts : List Int} {k : Nat} (h : CrashK rs rq cuts k) (hk : k < rs.length) (h0 : rs[k].data.length - rs[k].safe ≠ 0) {m : Nat} (hm : m = rs[k].safe + vkeep (cuts.drop (loose (rview (rs.take k)))) (rs[k].data.length - rs[k].safe)) (v : Value) : CrashK rs (rq.set k ⟨rs[k].name, v, rs[k].data.take m, m⟩) cuts (k + 1) := by
  subst hm
  refine ⟨by rw [List.length_set]; exact h.len, ?_, fun j hj => ?_⟩
  · have e : rview (rq.set k ⟨rs[k].name, v, rs[k].data.take (rs[k].safe + vkeep (cuts.drop (loose (rview (rs.take k)))) (rs[k].data.length - rs[k].safe)), rs[k].safe + vkeep (cuts.drop (loose (rview (rs.take k)))) (rs[k].data.length - rs[k].safe)⟩) =
        (rview rq).set k (rs[k].name, (rs[k].data.take (rs[k].safe + vkeep (cuts.drop (loose (rview (rs.take k)))) (rs[k].data.length - rs[k].safe)), rs[k].safe + vkeep (cuts.drop (loose (rview (rs.take k)))) (rs[k].data.length - rs[k].safe))) := by simp [rview, List.map_set]
    rw [e, h.view, rview_take rs hk, ccr_append, rview_drop rs hk]
    have hl : (ccr (rview (rs.take k)) cuts).length = k := by rw [ccr_len, rview_len, List.length_take]; omega
    rw [List.set_append_right _ _ (by omega), hl, Nat.sub_self, List.set_cons_zero, ccr_cons_ne _ h0]
    simp [ccr]
  · rw [List.getElem?_set_ne (by omega)]
    exact h.rest j (by omega)
theorem CrashK.done {rs rq : List RF} {cuts : List Int} (h : CrashK rs rq cuts rs.length) : rview rq = ccr (rview rs) cuts := by
  have := h.view
  simpa [rview] using this
set_option maxHeartbeats 4000000 in
set_option maxRecDepth 100000 in
theorem f25_any (xb : Nat) (cap : Int) (sv : Value) (rs : List RF) (v : Value) (cuts : List Int) (w : World) {F : Nat → Prop} (h : RefAt w xb cap sv rs) (hv : Rd Rep.int w F v cuts) (hF : ∀ k, F k → ¬ Own sv k) (hn : rs.length ≤ 1300000000000) :
    Calls Try.prog 25 #[.pointer (some ⟨xb, 0, none⟩), v] w fun e w' => e = .returned (.tuple #[]) ∧ RPost xb cap sv rs w w' (fun rs' => rview rs' = ccr (rview rs) cuts) := by
  have hm := hv.le
  unfold maxLen at hm
  obtain ⟨A, c, rfl, hc, _, _⟩ := hv.slice
  obtain ⟨A2, c2, rfl, hc2, _, _⟩ := h.row.slice
  have HV := Hd.mk hv
  have HR := Hd.mk h
  have HF := Hd.mk hF
  clear hv h hF
  go_enter Try.func25, Try.ntmps25
  go_wp2
  go_loopg [4, 5] rs.length (fun kq at_ i wr => ∃ (k : Nat) (rq : List RF), k ≤ rs.length ∧ i = .int .i64 k ∧ at_ = .int .i64 (loose (rview (rs.take k)) : Int) ∧ Hd (kq = rs.length - k) ∧ Hd (CrashK rs rq cuts k) ∧ Hd (RefAt wr xb cap (.slice A2 rs.length c2) rq) ∧ Hd (Step (Own (.slice A2 rs.length c2)) w wr) ∧ Hd (∀ r ∈ rq, r ∈ rs ∨ ∀ j, Own r.b j → w.heap.size ≤ j))
  case atStart => exact ⟨0, rs, Nat.zero_le _, rfl, rfl, ⟨rfl⟩, ⟨CrashK.zero rs cuts⟩, HR, ⟨Step.refl _ _⟩, ⟨fun r hr => .inl hr⟩⟩
  case round =>
    obtain ⟨k, rq, hk, rfl, rfl, HK, HC, HA, HS, HFr⟩ := hrel
    obtain ⟨hh0, hh1⟩ := HA.out.head
    have hlq := HC.out.len
    by_cases hlt : k < rs.length
    · have hltq : k < rq.length := by omega
      obtain ⟨ad2, b, off, rfl, hbo, hoff, hpp, hc0, hc1, hc3⟩ := HA.out.at hltq
      have hrk : rq[k] = rs[k] := by
        have := HC.out.rest k (Nat.le_refl _)
        rw [List.getElem?_eq_getElem hltq, List.getElem?_eq_getElem hlt] at this
        simpa using this
      have hlo := loose_le (rview (rs.take k))
      have hls := loose_snoc (rview (rs.take k)) (rs[k].name, (rs[k].data, rs[k].safe))
      rw [← rview_take rs hlt] at hls
      have hown := HA.out.own rq[k] (List.getElem_mem hltq)
      have hsafe := HA.out.safe rq[k] (List.getElem_mem hltq)
      have hrom : rq[k].data.length ≤ 1073741824 := by
        have h1 := rused_erase rq hltq
        have := HA.out.fits
        have := HA.out.cap1
        omega
      obtain ⟨A5, c5, hb5, hn5, hm5, hA5⟩ := hown.slice
      obtain ⟨r, hr⟩ : ∃ r, r = rs[k] := ⟨_, rfl⟩
      rw [hrk, ← hr] at hc0 hc1 hc3 hown hsafe hrom hb5 hn5
      rw [← hr] at hls
      obtain ⟨L, hL⟩ : ∃ L, L = r.data.length := ⟨_, rfl⟩
      obtain ⟨sf, hsf⟩ : ∃ sf, sf = r.safe := ⟨_, rfl⟩
      obtain ⟨nm, hnm⟩ : ∃ nm, nm = r.name := ⟨_, rfl⟩
      obtain ⟨a, ha⟩ : ∃ a, a = loose (rview (rs.take k)) := ⟨_, rfl⟩
      rw [rview_len, List.length_take] at hlo
      rw [hb5] at hc1
      rw [← hL] at hc1 hsafe hrom hn5 hown
      rw [← hsf] at hc3 hsafe
      rw [← hnm] at hc0
      rw [← ha] at hls hlo ⊢
      have hwp : a ≤ 1300000000000 := by omega
      have HL := Hd.mk hL
      have HSf := Hd.mk hsf
      have HNm := Hd.mk hnm
      have Ha := Hd.mk ha
      have HRk := Hd.mk hr
      have HLs := Hd.mk hls
      have HB5 := Hd.mk hb5
      have HOwn := Hd.mk hown
      have HBo := Hd.mk hbo
      have HOff := Hd.mk hoff
      have HLq := Hd.mk hlq
      have HRq := Hd.mk hrk
      clear hL hsf hnm ha hr hls hb5 hown hbo hoff hlq hrk hlo
      by_cases h0 : sf = L
      · have hb : ((sf : Int) == (L : Int)) = true := by rw [h0]; exact beq_self_eq_true _
        have H0 := Hd.mk h0
        clear h0
        go_wp2
        go_roundg (rs.length - (k + 1))
        case measure => have := HK.out; omega
        case rel =>
          have e0 : rs[k].data.length - rs[k].safe = 0 := by rw [← HRk.out, ← HL.out, ← HSf.out, H0.out]; omega
          refine ⟨k + 1, rq, by omega, by go_num, ?_, ⟨rfl⟩, ⟨HC.out.same hlt e0⟩, ⟨?_⟩, ⟨?_⟩, HFr⟩
          · have h := HLs.out
            rw [if_pos (by rw [HRk.out]; exact e0)] at h
            rw [h]; rfl
          · exact HA.out.stepNo (Step.alloc _ _ _)
          · exact HS.out.trans' (Step.alloc _ _ _)
      · have hb : ((sf : Int) == (L : Int)) = false := by rw [beq_eq_false_iff_ne]; omega
        have H0 := Hd.mk h0
        have hlt' : sf < L := by omega
        obtain ⟨kp, hkp⟩ : ∃ kp, kp = vkeep (cuts.drop a) (L - sf) := ⟨_, rfl⟩
        have hkd := vkeep_drop cuts a (L - sf)
        rw [← hkp] at hkd
        have hkl := vkeep_le (cuts.drop a) (L - sf)
        rw [← hkp] at hkl
        have HKp := Hd.mk hkp
        have HKd := Hd.mk hkd
        clear h0 hkp hkd
        go_upto_region 6 with (fail)
        obtain ⟨W, hW⟩ : ∃ W, W = wr.alloc (.cells #[.string nm, .slice A5 L c5, .int .i64 (sf : Int)] 43) := ⟨_, rfl⟩
        obtain ⟨g, hg⟩ : ∃ g, g = wr.heap.size := ⟨_, rfl⟩
        have hbk : W.heap[g]? = some (.cells #[.string nm, .slice A5 L c5, .int .i64 (sf : Int)] 43 (0, 0)) := by rw [hW, hg]; exact blk_new wr _
        have hst : Step No wr W := by rw [hW]; exact Step.alloc _ _ _
        rw [← hW, ← hg]
        have HBk := Hd.mk hbk
        have HSt := Hd.mk hst
        have HG := Hd.mk hg
        have d1 := blk_cell hbk 1
        have d2 := blk_cell hbk 2
        simp only [List.getElem?_toArray, List.getElem?_cons_zero, List.getElem?_cons_succ] at d1 d2
        clear hW hbk hst hg hc0 hc1 hc3
        go_upto_region 7 with (fail)
        obtain ⟨bq, hbq⟩ : ∃ bq : Bool, bq = decide (∃ h : a < cuts.length, 0 < cuts[a]) := ⟨_, rfl⟩
        have HBq := Hd.mk hbq
        clear hbq
        go_cut [40] (fun v wx => v = .bool bq ∧ wx = W)
        case first =>
          by_cases hal : a < cuts.length
          · obtain ⟨ad3, rfl, _, hcell, hI⟩ := Rd.at (HV.out.step (HS.out.transNo HSt.out) HF.out) hal
            obtain ⟨x, hx⟩ : ∃ x, x = cuts[a] := ⟨_, rfl⟩
            rw [← hx] at hcell hI
            by_cases hp : 0 < x
            · obtain rfl : bq = true := by rw [HBq.out]; exact decide_eq_true ⟨hal, by rw [← hx]; exact hp⟩
              clear hx
              go_wp2_with fail
              go_meet
              exact ⟨rfl, rfl⟩
            · obtain rfl : bq = false := by rw [HBq.out]; exact decide_eq_false (fun ⟨_, h⟩ => hp (by rw [hx]; exact h))
              clear hx
              have hp' : decide (0 < x) = false := decide_eq_false hp
              go_wp2_with fail
              go_meet
              exact ⟨rfl, rfl⟩
          · obtain rfl : bq = false := by rw [HBq.out]; exact decide_eq_false (fun ⟨h, _⟩ => hal h)
            go_wp2_with fail
            go_meet
            exact ⟨rfl, rfl⟩
        case rest =>
          obtain ⟨rfl, rfl⟩ := hcut
          go_upto_if 40 with (fail)
          go_cut [7] (fun v wx => ∃ q : Nat, v = .int .i64 (q : Int) ∧ wx = wc ∧ Hd (kp = min q (L - sf)) ∧ Hd (q ≤ 9223372036854775807))
          case first =>
            cases bq with
            | true =>
              have hb2 := of_decide_eq_true HBq.out.symm
              obtain ⟨hal, hp⟩ := hb2
              obtain ⟨ad3, rfl, _, hcell, hI⟩ := Rd.at (HV.out.step (HS.out.transNo HSt.out) HF.out) hal
              have hd := HKd.out
              rw [dif_pos hal] at hd
              obtain ⟨q, hq⟩ : ∃ q : Nat, cuts[a] = (q : Int) := ⟨cuts[a].toNat, by omega⟩
              rw [hq] at hcell hd hI
              have HX : Hd (kp = min q (L - sf)) := ⟨by omega⟩
              have HX2 : Hd (q ≤ 9223372036854775807) := ⟨by have := hI.2; omega⟩
              clear hd hq hp hI
              go_wp2_with fail
              go_meet
              exact ⟨q, rfl, rfl, HX, HX2⟩
            | false =>
              have hb2 := of_decide_eq_false HBq.out.symm
              have hd := HKd.out
              have HX : Hd (kp = min 0 (L - sf)) := ⟨by
                by_cases hal : a < cuts.length
                · rw [dif_pos hal] at hd
                  have : ¬ 0 < cuts[a] := fun h => hb2 ⟨hal, h⟩
                  omega
                · rw [dif_neg hal] at hd
                  omega⟩
              clear hd hb2
              go_wp2_with fail
              go_meet
              exact ⟨0, rfl, rfl, HX, ⟨by omega⟩⟩
          case rest =>
            obtain ⟨q, rfl, rfl, HX, HX2⟩ := hcut
            have hq9 := HX2.out
            go_upto_if 52 with (fail)
            go_cut [7] (fun v wx => v = .int .i64 (kp : Int) ∧ wx = wc)
            case first =>
              by_cases hq : L - sf < q
              · have hq' : decide ((L : Int) - sf < q) = true := decide_eq_true (by omega)
                have hkq : Hd (kp = L - sf) := ⟨by have := HX.out; omega⟩
                go_wp2_with fail
                go_meet
                refine ⟨?_, rfl⟩
                show Value.int IntKind.i64 _ = _
                rw [hkq.out]
                congr 1
                omega
              · have hq' : decide ((L : Int) - sf < q) = false := decide_eq_false (by omega)
                have hkq : Hd (kp = q) := ⟨by have := HX.out; omega⟩
                go_wp2_with fail
                go_meet
                refine ⟨?_, rfl⟩
                rw [hkq.out]
            case rest =>
              obtain ⟨rfl, rfl⟩ := hcut
              have hpos : 0 < L := by omega
              obtain ⟨m, hm'⟩ : ∃ m, m = sf + kp := ⟨_, rfl⟩
              have hmL : m ≤ L := by omega
              obtain ⟨gd, cd, hvd, hld, _, _, _⟩ := HOwn.out.form hpos
              have hrb := HB5.out
              rw [← HL.out] at hrb
              have hAe : A5 = some ⟨gd, 0, none⟩ ∧ c5 = cd := by rw [hvd] at hrb; cases hrb; exact ⟨rfl, rfl⟩
              have hrow : RowAt wr 5 1 (.slice A5 m c5) m ((r.data.map Gb.u8).take (m * 1)) := by
                rw [hAe.1, hAe.2]; exact HOwn.out.cut hvd m cd hmL (by omega) (Nat.le_refl _)
              rw [Nat.mul_one, ← List.map_take] at hrow
              obtain ⟨D, hD⟩ : ∃ D, D = r.data.take m := ⟨_, rfl⟩
              have hDl : D.length = m := by rw [hD, List.length_take, ← HL.out]; omega
              rw [← hD] at hrow
              have hrow' : RowAt wr 5 1 (.slice A5 m c5) D.length (D.map Gb.u8) := by rw [hDl]; exact hrow
              have hrd : Rd Rep.u8 wc (fun k => k < wr.heap.size) (.slice A5 m c5) D := Rd.of_row (hrow'.stepNo HSt.out) (fun k hk => hrow.lt hk) (fun _ _ => trivial)
              have h14 := f14_any (.slice A5 m c5) D wc hrd (by omega) (fun k hk => Nat.lt_of_lt_of_le hk HSt.out.size)
              rw [hDl] at h14
              have H14 := Hd.mk h14
              obtain ⟨i5, hi5, -, -, -⟩ := info_open info5
              have hsl : ∀ W, (Instr.slice 32 (.slice A5 L c5) none (some (.int .i64 ((sf : Int) + kp))) none).run Try.prog W = .ok (.slice A5 m c5) W := fun W => run_cutR Try.underlying32 hi5 A5 L c5 .i64 (by omega) (by omega) W
              clear hi5
              have HRow := Hd.mk hrow
              have HM := Hd.mk hm'
              have HD := Hd.mk hD
              clear hvd hrb hAe hrow hrow' hrd h14 hD hDl hm'
              have d1' := blk_cell HBk.out 1
              have d2' := blk_cell HBk.out 2
              simp only [List.getElem?_toArray, List.getElem?_cons_zero, List.getElem?_cons_succ] at d1' d2'
              go_wp2_with (first | (go_at_call 14; refine H14.out.mono ?_; rintro e w3 ⟨v', rfl, hv3, hf3, hs3⟩; refine Stop.back ?_))
              obtain ⟨A6, c6, rfl, -, -, -⟩ := hv3.slice
              have hb3 := hs3.keep HBk.out (fun h => h)
              have e1 := blk_cell hb3 1
              have e2 := blk_cell hb3 2
              have f1 := fun j => blk_free hb3 j
              have hb4 := blk_set hb3 1 (.slice A6 m c6)
              have hb5' := blk_set hb4 2 (.int .i64 (m : Int))
              have hs5 : Step No wr ((w3.setCell ⟨g, 1, none⟩ (.slice A6 m c6)).setCell ⟨g, 2, none⟩ (.int .i64 (m : Int))) := by
                refine (HSt.out.trans' hs3).trans (((Step.setAt w3 ⟨g, 1, none⟩ (.slice A6 m c6))).trans' (Step.setAt _ ⟨g, 2, none⟩ (.int .i64 (m : Int)))) (fun i hi hlt => ?_)
                have e' : i = g := hi
                have := HG.out
                omega
              have hg6 : ∀ j, Own (.slice A6 m c6) j → j ≠ g := fun j hj e => by
                have := hf3 j hj; have := lt_of_blk HBk.out; omega
              have hv5 : RowAt ((w3.setCell ⟨g, 1, none⟩ (.slice A6 m c6)).setCell ⟨g, 2, none⟩ (.int .i64 (m : Int))) 5 1 (.slice A6 m c6) m (D.map Gb.u8) :=
                (hv3.step (Step.setAt w3 ⟨g, 1, none⟩ (.slice A6 m c6)) (fun j hj e => hg6 j hj e)).step (Step.setAt _ ⟨g, 2, none⟩ (.int .i64 (m : Int))) (fun j hj e => hg6 j hj e)
              have HV5 := Hd.mk hv5
              have HS5 := Hd.mk hs5
              have HB5' := Hd.mk hb5'
              have HF6 : Hd (∀ j, Own (.slice A6 m c6) j → w.heap.size ≤ j) := ⟨fun j hj => by
                have h1 := hf3 j hj
                have h2 := HS.out.size
                have h3 := HSt.out.size
                omega⟩
              simp only [List.getElem?_toArray, List.getElem?_cons_zero, List.getElem?_cons_succ] at e1 e2
              clear hv3 hf3 hs3 hb3 hb4 hb5' hs5 hg6 hv5
              refine Stop.go ?_
              go_upto_region 14 with (fail)
              obtain ⟨W5, hW5⟩ : ∃ W5, W5 = (w3.setCell ⟨g, 1, none⟩ (.slice A6 m c6)).setCell ⟨g, 2, none⟩ (.int .i64 (m : Int)) := ⟨_, rfl⟩
              rw [← hW5] at HV5 HS5 HB5' ⊢
              clear hW5 e1 e2 f1 d1' d2' d1 d2
              have HA5 := Hd.mk (HA.out.stepNo HS5.out)
              obtain ⟨-, hx1⟩ := HA5.out.head
              obtain ⟨ad4, b4, off4, he4, hbo4, hoff4, hpp4, hcc0, hcc1, hcc2⟩ := HA5.out.at hltq
              cases he4
              obtain ⟨rfl, rfl⟩ : b4 = b ∧ off4 = off := by rw [hpp] at hpp4; cases hpp4; exact ⟨rfl, rfl⟩
              have g0 := blk_cell HB5'.out 0
              have g1 := blk_cell HB5'.out 1
              have g2 := blk_cell HB5'.out 2
              simp at g0 g1 g2
              have hfz := fun j => (by obtain ⟨cells, hg⟩ := HA5.out.row.typed hbo4; exact blk_free hg j : W5.frozen? ⟨b4, j, none⟩ = false)
              have hz0 := hfz off4
              have hz1 := hfz (off4 + 1)
              have hz2 := hfz (off4 + 2)
              have hupd := HA5.out.updA hltq hbo4 ⟨nm, .slice A6 m c6, D, m⟩ (by rw [show D.length = m by rw [HD.out, List.length_take, ← HL.out]; omega]; exact HV5.out) (by rw [HD.out, List.length_take, ← HL.out]; show m ≤ _; omega) (by rw [HD.out, List.length_take, HRq.out, ← HRk.out]; show min _ _ ≤ _; omega)
              rw [← hoff4] at hupd
              have HUpd := Hd.mk hupd
              have hq1 : ∃ x, W5.cell? ⟨b4, off4, none⟩ = some x := ⟨_, hcc0⟩
              obtain ⟨x0, hx0⟩ := hq1
              have hq1 : ∃ x, W5.cell? ⟨b4, off4 + 1, none⟩ = some x := ⟨_, hcc1⟩
              obtain ⟨x1, hxx1⟩ := hq1
              have hq1 : ∃ x, W5.cell? ⟨b4, off4 + 2, none⟩ = some x := ⟨_, hcc2⟩
              obtain ⟨x2, hxx2⟩ := hq1
              clear hpp4 hcc0 hcc1 hcc2 hfz hupd hbo4 hoff4 hh1
              go_region
              go_wp2
              go_roundg (rs.length - (k + 1))
              case measure => have := HK.out; omega
              case rel =>
                have hne : ¬ (r.data.length - r.safe = 0) := by rw [← HL.out, ← HSf.out]; omega
                have hmm : m = rs[k].safe + vkeep (cuts.drop (loose (rview (rs.take k)))) (rs[k].data.length - rs[k].safe) := by
                  rw [← HRk.out, ← HL.out, ← HSf.out, ← Ha.out, ← HKp.out]; exact HM.out
                have hck := HC.out.cut hlt (by rw [← HRk.out]; exact hne) hmm (.slice A6 m c6)
                rw [← HRk.out, ← HD.out, ← HNm.out] at hck
                refine ⟨k + 1, _, by omega, by go_num, ?_, ⟨rfl⟩, ⟨hck⟩, ⟨HUpd.out.stepNo (Step.drew _ _)⟩, ⟨?_⟩, ⟨fun r' hr' => ?_⟩⟩
                · have h := HLs.out
                  rw [if_neg hne] at h
                  rw [h]; rfl
                · refine (HS.out.transNo HS5.out).trans' ?_
                  exact (((Step.set W5 (p := ⟨b4, off4, none⟩) HBo.out _).trans' (Step.set _ (p := ⟨b4, off4 + 1, none⟩) HBo.out _)).trans' (Step.set _ (p := ⟨b4, off4 + 2, none⟩) HBo.out _)).trans' (Step.drew _ _)
                · rcases List.mem_or_eq_of_mem_set hr' with h | rfl
                  · exact HFr.out r' h
                  · exact .inr (fun j hj => HF6.out j hj)
    · obtain rfl : k = rs.length := by omega
      have HX : Hd (RPost xb cap (.slice A2 rs.length c2) rs w wr (fun rs' => rview rs' = ccr (rview rs) cuts)) := ⟨by
        refine ⟨_, _, HA.out, HS.out.mono (fun k hk => .inr (.inl hk)), ?_, HC.out.done⟩
        rintro k (hk | hk | ⟨r, hr, hk⟩)
        · exact .inl (.inl hk)
        · exact .inl (.inr (.inl hk))
        · rcases HFr.out r hr with h1 | h1
          · exact .inl (.inr (.inr ⟨r, h1, hk⟩))
          · exact .inr (h1 k hk)⟩
      go_wp2
      go_end0
      exact ⟨rfl, HX.out⟩
end Go.Proofs.Ytmflfimenacflaa

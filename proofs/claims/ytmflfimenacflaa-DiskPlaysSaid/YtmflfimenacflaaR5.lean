/- The walk of the document's Append. -/
import Derived.Test.YtmflfimenacflaaR4
import Derived.Deep.RegionWith
set_option linter.unusedVariables false
set_option linter.unusedSimpArgs false
namespace Go.Proofs.Ytmflfimenacflaa
open Go.RowKit Gb
def rappE (rs : List RF) (cap : Int) (s : ByteArray) (n : Nat) : Int := if okName s then (if cap < (rused rs : Int) + n then 32 else 0) else 30
def RApp (rs : List RF) (s : ByteArray) (l : List UInt8) (rs' : List RF) : Prop :=
  (rplace rs s = rs.length ∧ ∃ v', rs' = rlay rs ⟨s, v', l, 0⟩) ∨ (∃ r v', rs[rplace rs s]? = some r ∧ rs' = rs.set (rplace rs s) ⟨r.name, v', r.data ++ l, r.safe⟩)
/-- what a change of the document's disk leaves -/
def RPost (xb : Nat) (cap : Int) (sv : Value) (rs : List RF) (w w' : World) (p : List RF → Prop) : Prop :=
  ∃ sv' rs', RefAt w' xb cap sv' rs' ∧ Step (RFoot xb sv rs) w w' ∧ (∀ k, RFoot xb sv' rs' k → RFoot xb sv rs k ∨ w.heap.size ≤ k) ∧ p rs'
theorem RPost.same {xb : Nat} {cap : Int} {sv : Value} {rs : List RF} {w w' : World} {p : List RF → Prop} (h : RefAt w xb cap sv rs) (hs : Step No w w') (hp : p rs) : RPost xb cap sv rs w w' p :=
  ⟨sv, rs, h.stepNo hs, hs.mono (fun _ h => h.elim), fun _ hk => .inl hk, hp⟩
def RAppP (rs : List RF) (cap : Int) (s : ByteArray) (l : List UInt8) (rs' : List RF) : Prop := (rappE rs cap s l.length = 0 → RApp rs s l rs') ∧ (rappE rs cap s l.length ≠ 0 → rs' = rs)
theorem rplace_le (rs : List RF) (s : ByteArray) : rplace rs s ≤ rs.length := List.findIdx_le_length
theorem rd_two {W : World} {F : Nat → Prop} {v1 v2 : Value} {l1 l2 : List UInt8} (h1 : Rd Rep.u8 W F v1 l1) (h2 : Rd Rep.u8 W F v2 l2) (hF : ∀ k, F k → k < W.heap.size) :
    Rd Rep.u8.slice (W.alloc (.cells #[v1, v2] 32)) (fun k => k < W.heap.size + 1) (.slice (some ⟨W.heap.size, 0, none⟩) 2 2) [l1, l2] := by
  obtain ⟨A1, c1, rfl, _, _, _⟩ := h1.slice
  obtain ⟨A2, c2, rfl, _, _, _⟩ := h2.slice
  refine ⟨some ⟨W.heap.size, 0, none⟩, 2, rfl, Nat.le_refl _, by unfold maxLen; omega, (by intro h; cases h), fun i x hx => ?_⟩
  have hm : ∀ k, F k → k < W.heap.size + 1 := fun k hk => Nat.lt_succ_of_lt (hF k hk)
  match i, hx with
  | 0, hx =>
    simp at hx; subst hx
    refine ⟨_, [.slice A1 l1.length c1], rfl, Nat.lt_succ_self _, (h1.stepNo (Step.alloc _ _ _)).mono hm, fun j u hu => ?_⟩
    match j, hu with
    | 0, hu => simp at hu; subst hu; rw [add_plain, blk_cell (blk_new W _)]; rfl
  | 1, hx =>
    simp at hx; subst hx
    refine ⟨_, [.slice A2 l2.length c2], rfl, Nat.lt_succ_self _, (h2.stepNo (Step.alloc _ _ _)).mono hm, fun j u hu => ?_⟩
    match j, hu with
    | 0, hu => simp at hu; subst hu; rw [add_plain, blk_cell (blk_new W _)]; rfl
theorem flatR_set (rs : List RF) {k : Nat} (hk : k < rs.length) (nv : Value) (nd : List UInt8) : (flatR rs).set (k * 3 + 1) nv = flatR (rs.set k ⟨rs[k].name, nv, nd, rs[k].safe⟩) := by
  induction rs generalizing k with
  | nil => simp at hk
  | cons r rs ih =>
    cases k with
    | zero => simp [flatR, RF.cells]
    | succ k =>
      have := ih (k := k) (by simpa using hk)
      simp only [flatR, List.flatMap_cons, List.set_cons_succ, List.getElem_cons_succ] at *
      rw [← this]
      rw [List.set_append_right _ _ (by simp [RF.cells]; omega)]
      congr 1
      simp [RF.cells]
      congr 1
      omega
theorem rused_set (rs : List RF) {k : Nat} (hk : k < rs.length) (r' : RF) : rused (rs.set k r') + rs[k].data.length = rused rs + r'.data.length := by
  induction rs generalizing k with
  | nil => simp at hk
  | cons r rs ih =>
    cases k with
    | zero => simp [rused]; omega
    | succ k =>
      have := ih (k := k) (by simpa using hk)
      simp only [rused, List.set_cons_succ, List.map_cons, List.sum_cons, List.getElem_cons_succ] at *
      omega
theorem RefAt.upd {w : World} {xb : Nat} {cap : Int} {A : Option Addr} {n c : Nat} {rs : List RF} (h : RefAt w xb cap (.slice A n c) rs) {k b : Nat} (hk : k < rs.length) (hb : Own (.slice A n c) b) {nv : Value} {nd : List UInt8} (hv : RowAt w 5 1 nv nd.length (nd.map u8)) (hs : rs[k].safe ≤ nd.length) (hfit : (rused rs : Int) + nd.length ≤ cap + rs[k].data.length) :
    RefAt (w.setCell ⟨b, k * 3 + 1, none⟩ nv) xb cap (.slice A n c) (rs.set k ⟨rs[k].name, nv, nd, rs[k].safe⟩) := by
  obtain ⟨g, c', hsv, _, _, _, _⟩ := h.row.form (by omega)
  cases hsv
  cases hb
  have hst := Step.setAt w ⟨g, k * 3 + 1, none⟩ nv
  obtain ⟨cells, hgt⟩ := h.row.typed (k := g) rfl
  have hne : g ≠ xb := ne_of_types hgt h.blk (by decide)
  refine ⟨hst.keep h.blk (fun e => hne e.symm), ?_, fun r hr => ?_, fun r hr => ?_, h.cap0, h.cap1, ?_⟩
  · rw [← flatR_set rs hk, List.length_set]
    exact h.row.set _ _
  · rcases List.mem_or_eq_of_mem_set hr with hr | rfl
    · exact (h.own r hr).step hst (fun j hj e => RowAt.ne hgt (h.own r hr) hj (by decide) e)
    · exact hv.step hst (fun j hj e => RowAt.ne hgt hv hj (by decide) e)
  · rcases List.mem_or_eq_of_mem_set hr with hr | rfl
    · exact h.safe r hr
    · exact hs
  · have := rused_set rs hk ⟨rs[k].name, nv, nd, rs[k].safe⟩
    simp only at this
    omega
theorem mem_set_ne {rs : List RF} {k : Nat} {r' r : RF} (h : r ∈ rs.set k r') : r ∈ rs ∨ r = r' := List.mem_or_eq_of_mem_set h
theorem f30_step (xb : Nat) (cap : Int) (sv : Value) (rs : List RF) (w : World) (h : RefAt w xb cap sv rs) :
    Calls Try.prog 30 #[.pointer (some ⟨xb, 0, none⟩)] w fun e w' => e = .returned (.int .i64 (rused rs : Int)) ∧ Step No w w' :=
  (f30_any xb cap sv rs w h).mono (fun e w' ⟨h1, h2⟩ => ⟨h1, h2 ▸ Step.refl _ _⟩)
set_option maxHeartbeats 1000000 in
set_option maxRecDepth 100000 in
theorem f8_any (xb : Nat) (cap : Int) (sv : Value) (rs : List RF) (s : ByteArray) (v : Value) (l : List UInt8) (w : World) (hs : StrOk s) (h : RefAt w xb cap sv rs) (hn : rs.length ≤ 1300000000000) (hv : Rd Rep.u8 w (fun k => k < w.heap.size) v l) (hl : l.length ≤ 140737488355328) :
    Calls Try.prog 8 #[.pointer (some ⟨xb, 0, none⟩), .string s, v] w fun e w' => e = .returned (.int .i64 (rappE rs cap s l.length)) ∧ RPost xb cap sv rs w w' (RAppP rs cap s l) := by
  obtain ⟨A, c, rfl, hc, _, _⟩ := hv.slice
  obtain ⟨A2, c2, rfl, hc2, _, _⟩ := h.row.slice
  obtain ⟨hh0, hh1⟩ := h.head
  have hi : IntKind.wrap .i64 ((rused rs : Int) + (l.length : Int)) = (rused rs : Int) + l.length := by
    have := h.fits
    have := h.cap1
    rw [IntWalk.i64_in _ (by omega)]
  have HV := Hd.mk hv
  have HR := Hd.mk h
  have HFit := Hd.mk h.fits
  clear h hv
  cases hok : okName s
  · go_enter Try.func8, Try.ntmps8
    go_wp2_with (first | (go_at_call 29; refine (f29_any s _ hs).mono ?_; rintro e w1 ⟨rfl, rfl⟩))
    go_ret
    have e0 : rappE rs cap s l.length = 30 := by simp [rappE, hok]
    exact ⟨ret_int e0.symm, RPost.same HR.out (Step.refl _ _) ⟨fun h => by rw [e0] at h; omega, fun _ => rfl⟩⟩
  · by_cases hfit : cap < (rused rs : Int) + l.length
    · go_enter Try.func8, Try.ntmps8
      go_wp2_with (first | (go_at_call 29; refine (f29_any s _ hs).mono ?_; rintro e w1 ⟨rfl, rfl⟩))
      go_region_held3 (fun W => W.cell? ⟨xb, 0, none⟩ = some (.int .i64 cap) ∧ Step No w W) ((refine ⟨?_, ?_⟩ <;> first | assumption | (simp only [World.cell?_drew]; assumption) | exact Step.drew No _)) (first | (go_at_call 30; refine (f30_step xb cap (.slice A2 rs.length c2) rs _ ?_).mono ?_; (refine HR.out.stepNo ?_; first | assumption | exact Step.drew No _); rintro e w1 ⟨rfl, hs1⟩; have k0 := hs1.cell (p := ⟨xb, 0, none⟩) (by assumption) (fun h => h); have k2 : Step No w w1 := (by refine Step.trans' ?_ hs1; first | assumption | exact Step.drew No _)))
      have HK := Hd.mk k2
      clear hs1 k0 k2
      go_wp2
      go_ret
      have e0 : rappE rs cap s l.length = 32 := by simp [rappE, hok, hfit]
      exact ⟨ret_int e0.symm, RPost.same HR.out HK.out ⟨fun h => by rw [e0] at h; omega, fun _ => rfl⟩⟩
    · have e0 : Hd (rappE rs cap s l.length = 0) := ⟨by simp [rappE, hok, hfit]⟩
      have hx : ¬ cap < (rused rs : Int) + l.length := hfit
      obtain ⟨p, hp⟩ : ∃ p, p = rplace rs s := ⟨_, rfl⟩
      have HP := Hd.mk hp
      by_cases hlt : p < rs.length
      · have hf : rfind rs s = (p : Int) := by unfold rfind; rw [← hp, if_pos hlt]
        clear hp
        go_enter Try.func8, Try.ntmps8
        go_wp2_with (first | (go_at_call 29; refine (f29_any s _ hs).mono ?_; rintro e w1 ⟨rfl, rfl⟩))
        go_region_held3 (fun W => W.cell? ⟨xb, 0, none⟩ = some (.int .i64 cap) ∧ Step No w W) ((refine ⟨?_, ?_⟩ <;> first | assumption | (simp only [World.cell?_drew]; assumption) | exact Step.drew No _)) (first | (go_at_call 30; refine (f30_step xb cap (.slice A2 rs.length c2) rs _ ?_).mono ?_; (refine HR.out.stepNo ?_; first | assumption | exact Step.drew No _); rintro e w1 ⟨rfl, hs1⟩; have k0 := hs1.cell (p := ⟨xb, 0, none⟩) (by assumption) (fun h => h); have k2 : Step No w w1 := (by refine Step.trans' ?_ hs1; first | assumption | exact Step.drew No _)))
        have HK := Hd.mk k2
        clear hs1 k0 k2
        go_wp2_with (first | (go_at_call 31; refine (f31_any xb cap (.slice A2 rs.length c2) rs s _ ?_).mono ?_; (exact HR.out.stepNo HK.out); rintro e w1 ⟨rfl, rfl⟩))
        have HRq : Hd (RefAt w1 xb cap (.slice A2 rs.length c2) rs) := ⟨HR.out.stepNo HK.out⟩
        obtain ⟨hh0', hh1'⟩ := HRq.out.head
        obtain ⟨ad, b, off, rfl, hbo, hoff, hpp, -, hc1, -⟩ := HRq.out.at hlt
        have hown := HRq.out.own rs[p] (List.getElem_mem hlt)
        obtain ⟨A5, c5, hb5, -, -, -⟩ := hown.slice
        have hrd : Rd Rep.u8 w1 (fun k => k < w1.heap.size) rs[p].b rs[p].data := Rd.of_row hown (fun k hk => hown.lt hk) (fun _ _ => trivial)
        obtain ⟨r, hr⟩ : ∃ r, r = rs[p] := ⟨_, rfl⟩
        rw [← hr] at hc1 hb5 hrd
        obtain ⟨l5, hl5⟩ : ∃ l, l = r.data.length := ⟨_, rfl⟩
        rw [← hl5] at hb5
        rw [hb5] at hc1 hrd
        have HRd := Hd.mk hrd
        have HVd : Hd (Rd Rep.u8 w1 (fun k => k < w1.heap.size) (.slice A l.length c) l) := ⟨(HV.out.stepNo HK.out).mono (fun k hk => Nat.lt_of_lt_of_le hk HK.out.size)⟩
        have HTwo : Hd (∀ W, Step No (w1.alloc (.cells #[.slice A5 l5 c5, .slice A l.length c] 32)) W → Rd Rep.u8.slice W (fun k => k < w1.heap.size + 1) (.slice (some ⟨w1.heap.size, 0, none⟩) 2 2) [r.data, l]) := ⟨fun W hW => (rd_two HRd.out HVd.out (fun k hk => hk)).stepNo hW⟩
        have HFz : Hd (∀ W W', Step No (w1.alloc (.cells #[.slice A5 l5 c5, .slice A l.length c] 32)) W → Step No W W' → W'.frozen? ⟨b, off + 1, none⟩ = false) := ⟨fun W W' h1 h2 => by
          obtain ⟨cells, hg⟩ := HRq.out.row.typed hbo
          exact blk_free ((((Step.alloc No w1 _).trans' h1).trans' h2).keep hg (fun h => h)) _⟩
        have HCl : Hd (∀ W W', Step No (w1.alloc (.cells #[.slice A5 l5 c5, .slice A l.length c] 32)) W → Step No W W' → W'.cell? ⟨b, off + 1, none⟩ = some (.slice A5 l5 c5) ∧ W'.cell? ⟨xb, 1, none⟩ = some (.slice (some ad) rs.length c2)) := ⟨fun W W' h1 h2 => ⟨(((Step.alloc No w1 _).trans' h1).trans' h2).cell hc1 (fun h => h), (((Step.alloc No w1 _).trans' h1).trans' h2).cell hh1' (fun h => h)⟩⟩
        have HFor : Hd (∀ W, Step No (w1.alloc (.cells #[.slice A5 l5 c5, .slice A l.length c] 32)) W → ∀ k, k < w1.heap.size + 1 → k < W.heap.size) := ⟨fun W hW k hk => Nat.lt_of_lt_of_le (by simpa using hk) hW.size⟩
        have HBo := Hd.mk hbo
        have HOff := Hd.mk hoff
        have HRr := Hd.mk hr
        have HL5 := Hd.mk hl5
        have hfzq : w1.frozen? ⟨b, off + 1, none⟩ = false := by
          obtain ⟨cells, hg⟩ := HRq.out.row.typed HBo.out
          exact blk_free hg _
        have hsum : [r.data, l].flatten.length ≤ 140737488355328 := by
          have h1 := rused_take rs hlt
          have h2 := rused_le rs (p + 1)
          have h3 := HRq.out.cap1
          rw [hr]
          simp only [List.flatten_cons, List.flatten_nil, List.append_nil, List.length_append]
          omega
        have HSum := Hd.mk hsum
        clear hown hbo hoff hr hrd hb5 hl5 hsum
        have hall1 : ∀ O, (w1.alloc O).cell? ⟨xb, 1, none⟩ = some (.slice (some ad) rs.length c2) := fun O => (Step.alloc No w1 O).cell hh1' (fun h => h)
        have hall2 : ∀ O, (w1.alloc O).cell? ⟨b, off + 1, none⟩ = some (.slice A5 l5 c5) := fun O => (Step.alloc No w1 O).cell hc1 (fun h => h)
        go_region_with (first | (go_at_call 33; refine (f33_any (F := fun k => k < w1.heap.size + 1) _ [r.data, l] _ ?_ HSum.out ?_).mono ?_; (first | exact HTwo.out _ (Step.refl _ _) | exact HTwo.out _ (Step.drew _ _)); (first | exact HFor.out _ (Step.refl _ _) | exact HFor.out _ (Step.drew _ _)); rintro e w3 ⟨v', rfl, hrow, hfr, hst⟩; obtain ⟨A6, c6, rfl, -, -, -⟩ := hrow.slice; have hfz3 : w3.frozen? ⟨b, off + 1, none⟩ = false := (by first | exact HFz.out _ _ (Step.refl _ _) hst | exact HFz.out _ _ (Step.drew _ _) hst); have hcl3 : w3.cell? ⟨b, off + 1, none⟩ = some (.slice A5 l5 c5) ∧ w3.cell? ⟨xb, 1, none⟩ = some (.slice (some ad) rs.length c2) := (by first | exact HCl.out _ _ (Step.refl _ _) hst | exact HCl.out _ _ (Step.drew _ _) hst); have hcl3a := hcl3.1; have hcl3b := hcl3.2; clear hcl3))
        all_goals
          have hs3 : Step No w1 w3 := by first | exact (Step.alloc No w1 _).trans' hst | exact ((Step.alloc No w1 _).trans' (Step.drew _ _)).trans' hst
          have hX : RPost xb cap (.slice (some ad) rs.length c2) rs w (w3.setCell ⟨b, off + 1, none⟩ (.slice A6 (r.data.length + l.length) c6)) (RAppP rs cap s l) := by
            have hu := (HRq.out.stepNo hs3).upd hlt HBo.out (nv := .slice A6 (r.data.length + l.length) c6) (nd := r.data ++ l) (by simpa using hrow) (by have := HRq.out.safe rs[p] (List.getElem_mem hlt); have := HRr.out; simp only [List.length_append, ← HRr.out] at *; omega) (by have := HRr.out; simp only [List.length_append, ← HRr.out]; omega)
            rw [← HOff.out] at hu
            refine ⟨_, _, hu, (HK.out.trans' hs3).noTrans' (Step.set w3 (p := ⟨b, off + 1, none⟩) (.inr (.inl HBo.out)) _), fun k hk => ?_, fun _ => .inr ⟨rs[p], .slice A6 (r.data.length + l.length) c6, ?_, ?_⟩, fun h => absurd e0.out h⟩
            · rcases hk with hk | hk | ⟨r', hr', hk⟩
              · exact .inl (.inl hk)
              · exact .inl (.inr (.inl hk))
              · rcases List.mem_or_eq_of_mem_set hr' with hr' | rfl
                · exact .inl (.inr (.inr ⟨r', hr', hk⟩))
                · have h1 : Own (.slice A6 [r.data, l].flatten.length c6) k := by
                    have e : [r.data, l].flatten.length = r.data.length + l.length := by simp
                    rw [e]; exact hk
                  have h2 := hfr k h1
                  have h3 := HK.out.size
                  simp at h2
                  exact .inr (by omega)
            · rw [← HP.out]; simp [hlt]
            · rw [← HP.out, ← HRr.out]
          have HX := Hd.mk hX
          clear hX hs3 hst hrow hfr
          go_wp2
          go_ret
          exact ⟨ret_int e0.out.symm, HX.out⟩
      · have hf : rfind rs s = -1 := by unfold rfind; rw [← hp, if_neg hlt]
        clear hp
        go_enter Try.func8, Try.ntmps8
        go_wp2_with (first | (go_at_call 29; refine (f29_any s _ hs).mono ?_; rintro e w1 ⟨rfl, rfl⟩))
        go_region_held3 (fun W => W.cell? ⟨xb, 0, none⟩ = some (.int .i64 cap) ∧ Step No w W) ((refine ⟨?_, ?_⟩ <;> first | assumption | (simp only [World.cell?_drew]; assumption) | exact Step.drew No _)) (first | (go_at_call 30; refine (f30_step xb cap (.slice A2 rs.length c2) rs _ ?_).mono ?_; (refine HR.out.stepNo ?_; first | assumption | exact Step.drew No _); rintro e w1 ⟨rfl, hs1⟩; have k0 := hs1.cell (p := ⟨xb, 0, none⟩) (by assumption) (fun h => h); have k2 : Step No w w1 := (by refine Step.trans' ?_ hs1; first | assumption | exact Step.drew No _)))
        have HK := Hd.mk k2
        clear hs1 k0 k2
        go_wp2_with (first | (go_at_call 31; refine (f31_any xb cap (.slice A2 rs.length c2) rs s _ ?_).mono ?_; (exact HR.out.stepNo HK.out); rintro e w1 ⟨rfl, rfl⟩) | (go_at_call 14; refine (f14_any (F := fun k => k < w.heap.size) _ l _ ?_ hl ?_).mono ?_; (exact HV.out.stepNo HK.out); (intro k hk; exact Nat.lt_of_lt_of_le hk HK.out.size); rintro e w2 ⟨v', rfl, hv', hfr', hs'⟩; refine Stop.back ?_))
        obtain ⟨A6, c6, rfl, -, -, -⟩ := hv'.slice
        obtain ⟨l6, hl6⟩ : ∃ n, n = l.length := ⟨_, rfl⟩
        have HL6 := Hd.mk hl6
        have HS : Hd (Step No w w2) := ⟨HK.out.trans' hs'⟩
        have HV2 := Hd.mk hv'
        have HFr2 : Hd (Fresh w (.slice A6 l.length c6)) := ⟨fun k hk => Nat.le_trans HK.out.size (hfr' k hk)⟩
        have hcall := f32_any xb cap (.slice A2 rs.length c2) rs ⟨s, .slice A6 l.length c6, l, 0⟩ w2 (HR.out.stepNo HS.out) hv' (Nat.zero_le _) (by show (rused rs : Int) + l.length ≤ cap; omega) hn
        have HC : Hd (Calls Try.prog 32 #[.pointer (some ⟨xb, 0, none⟩), .agg #[.string s, .slice A6 l.length c6, .int .i64 0]] w2 fun e w' => e = .returned (.tuple #[]) ∧ ∃ sv', RefAt w' xb cap sv' (rlay rs ⟨s, .slice A6 l.length c6, l, 0⟩) ∧ Step (At xb) w2 w' ∧ ∀ k, Own sv' k → w2.heap.size ≤ k) := ⟨hcall⟩
        clear hv' hfr' hs' hcall hl6
        refine Stop.go ?_
        go_wp2_with (first | (go_at_call 32; refine HC.out.mono ?_; rintro e w3 ⟨rfl, sv', h1, h2, h3⟩))
        have HX : Hd (RPost xb cap (.slice A2 rs.length c2) rs w w3 (RAppP rs cap s l)) := ⟨by
          refine ⟨sv', _, h1, (HS.out.noTrans' (h2.mono (fun k hk => .inl hk))), fun k hk => ?_, fun _ => .inl ⟨?_, _, rfl⟩, fun h => absurd e0.out h⟩
          · rcases hk with hk | hk | ⟨r, hr, hk⟩
            · exact .inl (.inl hk)
            · exact .inr (Nat.le_trans HS.out.size (h3 k hk))
            · rcases List.mem_cons.1 ((rlay_perm rs _).mem_iff.1 hr) with rfl | hr
              · exact .inr (HFr2.out k hk)
              · exact .inl (.inr (.inr ⟨r, hr, hk⟩))
          · have := rplace_le rs s
            have := HP.out
            omega⟩
        clear h1 h2 h3
        go_wp2
        go_ret
        exact ⟨ret_int e0.out.symm, HX.out⟩
end Go.Proofs.Ytmflfimenacflaa

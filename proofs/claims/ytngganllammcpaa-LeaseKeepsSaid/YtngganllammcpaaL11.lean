/- The plain law: keeper and reference keeper know the same. -/
import Derived.Test.YtngganllammcpaaL10
set_option linter.unusedVariables false
set_option linter.unusedSimpArgs false
set_option linter.unusedVariables false
set_option linter.unusedSimpArgs false
namespace Go.Proofs.Ytngganllammcpaa
open Go Go.RowKit Gb
def KR.rr (k : KR) : RR := ⟨k.home, k.n, k.lease, k.beats, k.since⟩
def RLt (a b : RR) : Prop := KLt a.home a.n b.home b.n
def other (me : RR) (o : RR) : Bool := !decide (o.home = me.home ∧ o.n = me.n)
def fin (me : RR) (st : List RR × Bool) : List RR := if st.2 = true then st.1 else st.1 ++ [me]
theorem ins_placed (me : RR) (acc : List RR) : ∀ out, acc.foldl (insStep me) (out, true) = (out ++ acc.filter (other me), true) := by
  induction acc with
  | nil => intro out; simp
  | cons o acc ih =>
    intro out
    rw [List.foldl_cons]
    by_cases h : o.home = me.home ∧ o.n = me.n
    · have h1 : insStep me (out, true) o = (out, true) := by unfold insStep; rw [if_pos h]
      have h2 : other me o = false := by simp [other, h]
      rw [h1, ih, List.filter_cons_of_neg (by simp [h2])]
    · have h1 : insStep me (out, true) o = (out ++ [o], true) := by unfold insStep; rw [if_neg h, if_neg (fun h => by cases h.1)]
      have h2 : other me o = true := by unfold other; rw [decide_eq_false h]; rfl
      rw [h1, ih, List.filter_cons_of_pos h2]
      simp
theorem ins_split (me : RR) (acc : List RR) : acc.Pairwise RLt → ∀ out, ∃ lo hi, acc.filter (other me) = lo ++ hi ∧ (∀ x ∈ lo, ¬ RLt me x) ∧ (∀ x ∈ hi, RLt me x) ∧ fin me (acc.foldl (insStep me) (out, false)) = out ++ lo ++ me :: hi := by
  induction acc with
  | nil => intro _ out; exact ⟨[], [], rfl, by simp, by simp, by simp [fin]⟩
  | cons o acc ih =>
    intro hp out
    rw [List.pairwise_cons] at hp
    rw [List.foldl_cons]
    by_cases h : o.home = me.home ∧ o.n = me.n
    · have h1 : insStep me (out, false) o = (out, false) := by unfold insStep; rw [if_pos h]
      have h2 : other me o = false := by simp [other, h]
      obtain ⟨lo, hi, e1, e2, e3, e4⟩ := ih hp.2 out
      exact ⟨lo, hi, by rw [List.filter_cons_of_neg (by simp [h2]), e1], e2, e3, by rw [h1, e4]⟩
    · have h2 : other me o = true := by unfold other; rw [decide_eq_false h]; rfl
      by_cases hl : KLt me.home me.n o.home o.n
      · have h1 : insStep me (out, false) o = (out ++ [me, o], true) := by unfold insStep; rw [if_neg h, if_pos ⟨rfl, hl⟩]
        refine ⟨[], o :: acc.filter (other me), by rw [List.filter_cons_of_pos h2]; rfl, by simp, fun x hx => ?_, by rw [h1, ins_placed]; simp [fin]⟩
        rcases List.mem_cons.1 hx with rfl | hx
        · exact hl
        · exact KLt.trans hl (hp.1 x ((List.mem_filter.1 hx).1))
      · have h1 : insStep me (out, false) o = (out ++ [o], false) := by unfold insStep; rw [if_neg h, if_neg (fun h => hl h.2)]
        obtain ⟨lo, hi, e1, e2, e3, e4⟩ := ih hp.2 (out ++ [o])
        refine ⟨o :: lo, hi, by rw [List.filter_cons_of_pos h2, e1]; rfl, fun x hx => ?_, e3, by rw [h1, e4]; simp⟩
        rcases List.mem_cons.1 hx with rfl | hx
        · exact hl
        · exact e2 x hx
theorem insAll_fin (me : RR) (acc : List RR) : insAll me acc = fin me (acc.foldl (insStep me) ([], false)) := rfl
theorem insAll_sorted (me : RR) {acc : List RR} (h : acc.Pairwise RLt) : (insAll me acc).Pairwise RLt ∧ (insAll me acc).Perm (acc.filter (other me) ++ [me]) := by
  obtain ⟨lo, hi, e1, e2, e3, e4⟩ := ins_split me acc h []
  rw [insAll_fin, e4, e1]
  have hs : (lo ++ hi).Pairwise RLt := by rw [← e1]; exact h.filter _
  have hlo : ∀ x ∈ lo, RLt x me := fun x hx => by
    have hm : x ∈ acc.filter (other me) := by rw [e1]; exact List.mem_append_left _ hx
    have ho := (List.mem_filter.1 hm).2
    rcases KLt.total (e2 x hx) with h1 | ⟨h1, h2⟩
    · exact h1
    · simp [other, h1.symm, h2.symm] at ho
  rw [List.pairwise_append] at hs
  constructor
  · rw [List.nil_append, List.pairwise_append, List.pairwise_cons]
    refine ⟨hs.1, ⟨e3, hs.2.1⟩, fun a ha b hb => ?_⟩
    rcases List.mem_cons.1 hb with rfl | hb
    · exact hlo a ha
    · exact hs.2.2 a ha b hb
  · rw [List.nil_append]
    exact List.perm_middle.trans (List.perm_append_singleton me (lo ++ hi)).symm
theorem since_eq (now : Int) (s : SR) (ks : List KR) : sinceR now s.rr (ks.map KR.rr) = sinceF now s ks := by
  unfold sinceR sinceF
  rw [List.foldl_map]
  rfl
theorem other_same (s : SR) (k : KR) (v : Int) : other { s.rr with since := v } k.rr = !same s.home s.n k := rfl
theorem note_perm (now : Int) (ks : List KR) (ss : List SR) : ∀ (l : List KR) (l' : List RR), l'.Pairwise RLt → l'.Perm (l.map KR.rr) →
    ((ss.map SR.rr).foldl (refStep now (ks.map KR.rr)) l').Pairwise RLt ∧ ((ss.map SR.rr).foldl (refStep now (ks.map KR.rr)) l').Perm ((ss.foldl (noteStep now ks) l).map KR.rr) := by
  induction ss with
  | nil => intro l l' h1 h2; exact ⟨h1, h2⟩
  | cons s ss ih =>
    intro l l' h1 h2
    rw [List.map_cons, List.foldl_cons, List.foldl_cons]
    obtain ⟨a1, a2⟩ := insAll_sorted { s.rr with since := sinceR now s.rr (ks.map KR.rr) } h1
    refine ih _ _ a1 (a2.trans ?_)
    have e1 : ({ s.rr with since := sinceR now s.rr (ks.map KR.rr) } : RR) = (mkK now ks s).rr := by rw [since_eq]; rfl
    unfold noteStep
    rw [List.map_append, List.map_cons, List.map_nil]
    refine List.Perm.append ?_ (by rw [e1])
    have e2 : (l.filter (fun y => !same s.home s.n y)).map KR.rr = (l.map KR.rr).filter (other { s.rr with since := sinceR now s.rr (ks.map KR.rr) }) := by
      rw [List.filter_map]; rfl
    rw [e2]
    exact h2.filter _
theorem same_eq {l : List RR} (h : l.Pairwise RLt) {a b : RR} (ha : a ∈ l) (hb : b ∈ l) (h1 : ¬ RLt a b) (h2 : ¬ RLt b a) : a = b := by
  induction l with
  | nil => cases ha
  | cons o l ih =>
    rw [List.pairwise_cons] at h
    rcases List.mem_cons.1 ha with rfl | ha
    · rcases List.mem_cons.1 hb with rfl | hb
      · rfl
      · exact absurd (h.1 b hb) h1
    · rcases List.mem_cons.1 hb with e | hb
      · exact absurd (e ▸ h.1 a ha) h2
      · exact ih h.2 ha hb
theorem note_eq (now : Int) (ks : List KR) (ss : List SR) {ys : List KR} (hp : ys.Perm (noteL now ks ss)) (hs : ys.Pairwise (fun a b => ¬ KLt b.home b.n a.home a.n)) :
    refL now (ks.map KR.rr) (ss.map SR.rr) = ys.map KR.rr := by
  obtain ⟨h1, h2⟩ := note_perm now ks ss [] [] List.Pairwise.nil (List.Perm.refl _)
  have h3 : (refL now (ks.map KR.rr) (ss.map SR.rr)).Perm (ys.map KR.rr) := h2.trans (hp.symm.map _)
  have h4 : (ys.map KR.rr).Pairwise (fun a b => ¬ RLt b a) := by rw [List.pairwise_map]; exact hs
  refine List.Perm.eq_of_pairwise (le := fun a b => ¬ RLt b a) (fun a b ha hb k1 k2 => ?_) (h1.imp (fun {a b} (h : RLt a b) (k : RLt b a) => KLt.irr (KLt.trans h k))) h4 h3
  exact same_eq h1 ha (h3.symm.subset hb) k2 k1
theorem sinceF_ok (now : Int) (s : SR) (P : Int → Prop) : ∀ (ks : List KR), (∀ k ∈ ks, P k.since) → ∀ now, P now → P (sinceF now s ks) := by
  intro ks
  induction ks with
  | nil => intro _ now h; exact h
  | cons k ks ih =>
    intro h now hn
    have := ih (fun k hk => h k (List.mem_cons_of_mem _ hk)) (since1 s.home s.n s.beats now k) (by
      unfold since1
      split
      · exact h k (List.mem_cons_self)
      · exact hn)
    exact this
theorem noteL_mem {now : Int} {ks : List KR} {ss : List SR} {y : KR} (h : y ∈ noteL now ks ss) : ∃ s ∈ ss, y = mkK now ks s := by
  unfold noteL at h
  suffices k : ∀ (ss : List SR) (l : List KR), y ∈ ss.foldl (noteStep now ks) l → y ∈ l ∨ ∃ s ∈ ss, y = mkK now ks s by
    rcases k ss [] h with h | h
    · cases h
    · exact h
  intro ss
  induction ss with
  | nil => intro l h; exact .inl h
  | cons s ss ih =>
    intro l h
    rw [List.foldl_cons] at h
    rcases ih _ h with h | ⟨t, h1, h2⟩
    · unfold noteStep at h
      rcases List.mem_append.1 h with h | h
      · exact .inl ((List.mem_filter.1 h).1)
      · exact .inr ⟨s, List.mem_cons_self, List.mem_singleton.1 h⟩
    · exact .inr ⟨t, List.mem_cons_of_mem _ h1, h2⟩
theorem note_ok {now : Int} {ks : List KR} {ss : List SR} (hn : tm now = true) (hk : ∀ k ∈ ks, KR.Ok k) (hs : ∀ s ∈ ss, 1 ≤ s.lease ∧ s.lease ≤ 1048576) {y : KR} (h : y ∈ noteL now ks ss) : KR.Ok y := by
  obtain ⟨s, h1, rfl⟩ := noteL_mem h
  exact ⟨hs s h1, sinceF_ok now s (fun x => 0 ≤ x ∧ x ≤ 1099511627776) ks (fun k hk2 => (hk k hk2).since) now (tm_true hn)⟩
theorem due_map (a : Int) (ks : List KR) : (ks.map KR.rr).filter (dueR a) = (ks.filter (due a)).map KR.rr := by
  rw [List.filter_map]; rfl
theorem rr_ok {k : KR} (h : KR.Ok k) : RR.Ok k.rr := ⟨h.lease, h.since⟩
/-- one that is due first is due at its time -/
theorem due_first {ks : List KR} {m : KR} (hm : m ∈ ks) (hok : KR.Ok m) (hle : m.at ≤ 1099511627776) : 0 < (ks.filter (due m.at)).length := by
  have h1 : due m.at m = true := by
    unfold due tm
    have := hok.lease; have := hok.since
    unfold KR.at at *
    simp; omega
  exact List.length_pos_of_mem (List.mem_filter.2 ⟨hm, h1⟩)
theorem due_before {ks : List KR} {a : Int} (h : ∀ y ∈ ks, a ≤ y.at) : (ks.filter (due (a - 1))).length = 0 := by
  rw [List.length_eq_zero_iff, List.filter_eq_nil_iff]
  intro y hy hd
  have := h y hy
  unfold due at hd
  unfold KR.at at this
  simp at hd; omega
end Go.Proofs.Ytngganllammcpaa

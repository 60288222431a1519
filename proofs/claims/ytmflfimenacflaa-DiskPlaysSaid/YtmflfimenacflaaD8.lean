/- The walk of Rename. -/
import Derived.Test.YtmflfimenacflaaD7
set_option linter.unusedVariables false
set_option linter.unusedSimpArgs false
namespace Go.Proofs.Ytmflfimenacflaa
open Go.RowKit Gb
def renE (V : View) (a b : ByteArray) : Int := if okName a && okName b then (if (mget V a).isSome then 0 else 31) else 30
def vren (V : View) (a b : ByteArray) : View := mput (mdel V a) b (vget V a)
theorem used_mput_le (fs : Files) (s : ByteArray) (f : FileG) (hn : (fs.map Prod.fst).Nodup) : used (mput fs s f) ≤ used fs + f.data.length := by
  cases h : mget fs s with
  | none => rw [mput_none h]; simp [used]
  | some g => have := used_mput_some hn h f; omega
theorem used_mdel_some {fs : Files} {s : ByteArray} {f : FileG} (hn : (fs.map Prod.fst).Nodup) (h : mget fs s = some f) : used (mdel fs s) + f.data.length = used fs := by
  have := used_filter fs hn (s, f) (mem_of_lookup h)
  simp at this; omega
theorem apart_of {w : World} {mb : Nat} {fs : Files} (h : TableAt w mb fs) {s : ByteArray} {f : FileG} (hf : mget fs s = some f) : ∀ p ∈ fs, p.1 ≠ s → ∀ k, Owns p.2 k → ¬ Owns f k := by
  have hm := mem_of_lookup hf
  have h1 : fs.Pairwise (fun p q => p.1 ≠ q.1 → ∀ k, Owns p.2 k → ¬ Owns q.2 k) := by
    refine h.apart.imp ?_; intro a b hh _; exact hh
  have h2 : fs.Pairwise (fun p q => q.1 ≠ p.1 → ∀ k, Owns q.2 k → ¬ Owns p.2 k) := by
    refine h.apart.imp ?_; intro a b hh _ k x y; exact hh k y x
  exact fun p hp hps => List.Pairwise.forall_of_forall_of_flip (fun x _ e => absurd rfl e) h1 h2 hp hm hps
def RenPost (db mb : Nat) (cap : Int) (fs : Files) (a b : ByteArray) (w : World) : Ending → World → Prop :=
  ChPost db mb cap fs w (renE (view fs) a b) (if renE (view fs) a b = 0 then vren (view fs) a b else view fs)
theorem ren_end {db mb : Nat} {cap : Int} {fs : Files} {a b : ByteArray} {f : FileG} {w w1 w2 w3 : World} (h : DiskAt w db mb cap fs) (h1 : Step No w w1) (hf : mget fs a = some f) (s2 : Step (At mb) w1 w2) (s3 : Step (At mb) w2 w3) (m3 : FMap w3 mb (mput (mdel fs a) b f)) :
    DiskPost db mb cap fs w w3 (vren (view fs) a b) := by
  have hm := mem_of_lookup hf
  have hs : Step (At mb) w1 w3 := s2.trans' s3
  have hd := h.step h1 (fun _ _ h => h)
  have hnd := hd.table.map.nodup
  have hmem : ∀ p ∈ mput (mdel fs a) b f, ∃ q ∈ fs, p.2 = q.2 := by
    intro p hp
    rcases mem_mput hp with rfl | ⟨hp, _⟩
    · exact ⟨_, hm, rfl⟩
    · exact ⟨p, (mdel_sub fs a).subset hp, rfl⟩
  have hu1 := used_mput_le (mdel fs a) b f (mdel_nodup hnd a)
  have hu2 := used_mdel_some hnd hf
  have hfits := hd.fits
  have hroom : used fs ≤ 1073741824 := hd.table.room
  have hne := apart_of hd.table hf
  have hda : ∀ p ∈ mdel fs a, p.1 ≠ a := fun p hp => by simpa [mdel] using (List.mem_filter.1 hp).2
  have hT : TableAt w3 mb (mput (mdel fs a) b f) := by
    refine ⟨m3, fun p hp => ?_, ?_, Nat.le_trans (show used _ ≤ used fs by omega) hroom⟩
    · obtain ⟨q, hq, e⟩ := hmem p hp
      rw [e]
      refine (hd.table.file q hq).step hs (fun k hk e => ?_)
      obtain ⟨es, clock, hmap, _⟩ := hd.table.map
      cases e
      rcases hk with rfl | hk
      · rw [(hd.table.file q hq).blk] at hmap; cases hmap
      · obtain ⟨cs, hc⟩ := (hd.table.file q hq).own.typed hk
        rw [hc] at hmap; cases hmap
    · refine pairwise_mput (mdel_nodup hnd a) (hd.table.apart.sublist (mdel_sub fs a)) (fun p hp _ => ?_) (fun p hp _ k hk hk' => ?_)
      · exact hne p ((mdel_sub fs a).subset hp) (hda p hp)
      · exact hne p ((mdel_sub fs a).subset hp) (hda p hp) k hk' hk
  refine ⟨_, ⟨hs.keep hd.blk hd.mb_ne, hT, hd.cap0, hd.cap1, by omega⟩, ?_, (h1.mono (fun _ h => h.elim)).trans' (hs.mono (fun k hk => .inr (.inl hk))), ?_⟩
  · rw [view_mput, view_mdel]
    unfold vren vget
    rw [mget_view, hf]; rfl
  · rintro k (rfl | rfl | ⟨p, hp, hk⟩)
    · exact .inl (.inl rfl)
    · exact .inl (.inr (.inl rfl))
    · obtain ⟨q, hq, e⟩ := hmem p hp
      exact .inl (.inr (.inr ⟨q, hq, e ▸ hk⟩))
set_option maxRecDepth 100000 in
theorem f16_any (db mb : Nat) (cap : Int) (fs : Files) (a b : ByteArray) (w : World) (ha : StrOk a) (hb : StrOk b) (h : DiskAt w db mb cap fs) :
    Calls Try.prog 16 #[.pointer (some ⟨db, 0, none⟩), .string a, .string b] w (RenPost db mb cap fs a b w) := by
  have c0 := blk_cell h.blk 0
  simp only [List.getElem?_toArray, List.getElem?_cons_zero] at c0
  have HD := Hd.mk h
  clear h
  cases hna : okName a with
  | false =>
    have HE : Hd (renE (view fs) a b = 30) := ⟨by simp [renE, hna]⟩
    have HNA := Hd.mk hna
    clear hna
    go_enter Try.func16, Try.ntmps16
    go_wp2_with (go_at_call 28; refine (f28_any a _ ha).mono ?_; rw [HNA.out]; rintro e w1 ⟨rfl, hs⟩; refine Stop.back ?_)
    have HS := Hd.mk hs
    clear hs
    refine Stop.go ?_
    go_wp2
    go_ret
    exact ⟨by rw [HE.out]; rfl, by rw [HE.out]; exact DiskPost.same HD.out HS.out⟩
  | true =>
    have HNA := Hd.mk hna
    clear hna
    cases hnb : okName b with
    | false =>
      have HE : Hd (renE (view fs) a b = 30) := ⟨by simp [renE, hnb]⟩
      have HNB := Hd.mk hnb
      clear hnb
      go_enter Try.func16, Try.ntmps16
      go_wp2_with (go_at_call 28; refine (f28_any a _ ha).mono ?_; rw [HNA.out]; rintro e w1 ⟨rfl, hs⟩; refine Stop.back ?_)
      have HS := Hd.mk hs
      clear hs
      refine Stop.go ?_
      go_wp2_with (go_at_call 28; refine (f28_any b _ hb).mono ?_; rw [HNB.out]; rintro e w2 ⟨rfl, hs⟩; refine Stop.back ?_)
      have HS2 : Hd (Step No w w2) := ⟨HS.out.trans' hs⟩
      clear hs
      refine Stop.go ?_
      go_wp2
      go_ret
      exact ⟨by rw [HE.out]; rfl, by rw [HE.out]; exact DiskPost.same HD.out HS2.out⟩
    | true =>
      have HNB := Hd.mk hnb
      clear hnb
      cases hf : mget fs a with
      | none =>
        have HE : Hd (renE (view fs) a b = 31) := ⟨by simp [renE, HNA.out, HNB.out, mget_view, hf]⟩
        have HF := Hd.mk hf
        clear hf
        go_enter Try.func16, Try.ntmps16
        go_wp2_with (go_at_call 28; refine (f28_any a _ ha).mono ?_; rw [HNA.out]; rintro e w1 ⟨rfl, hs⟩; refine Stop.back ?_)
        have HS := Hd.mk hs
        clear hs
        refine Stop.go ?_
        go_wp2_with (go_at_call 28; refine (f28_any b _ hb).mono ?_; rw [HNB.out]; rintro e w2 ⟨rfl, hs⟩; refine Stop.back ?_)
        have HS2 : Hd (Step No w w2) := ⟨HS.out.trans' hs⟩
        have HD2 : Hd (DiskAt w2 db mb cap fs) := ⟨HD.out.step HS2.out (fun _ _ h => h)⟩
        have c2 := HS2.out.cell c0 (fun h => h)
        clear hs c0
        refine Stop.go ?_
        go_wp2_with (at_lookup; refine wp_look_none rfl _ _ 55 67 rfl Try.underlying55 law9 str_inj rfl a rfl HD2.out.table.map (keyV9 ha) _ (zero67 _) HF.out ?_)
        go_ret
        exact ⟨by rw [HE.out]; rfl, by rw [HE.out]; exact DiskPost.same HD.out HS2.out⟩
      | some f =>
        have HE : Hd (renE (view fs) a b = 0) := ⟨by simp [renE, HNA.out, HNB.out, mget_view, hf]⟩
        have HF := Hd.mk hf
        clear hf
        go_enter Try.func16, Try.ntmps16
        go_wp2_with (go_at_call 28; refine (f28_any a _ ha).mono ?_; rw [HNA.out]; rintro e w1 ⟨rfl, hs⟩; refine Stop.back ?_)
        have HS := Hd.mk hs
        clear hs
        refine Stop.go ?_
        go_wp2_with (go_at_call 28; refine (f28_any b _ hb).mono ?_; rw [HNB.out]; rintro e w2 ⟨rfl, hs⟩; refine Stop.back ?_)
        have HS2 : Hd (Step No w w2) := ⟨HS.out.trans' hs⟩
        have HD2 : Hd (DiskAt w2 db mb cap fs) := ⟨HD.out.step HS2.out (fun _ _ h => h)⟩
        have c2 := HS2.out.cell c0 (fun h => h)
        clear hs c0
        refine Stop.go ?_
        go_wp2_with (first | (at_lookup; refine wp_look_some rfl _ _ 55 67 rfl Try.underlying55 law9 str_inj rfl a rfl HD2.out.table.map (keyV9 ha) _ (zero67 _) f HF.out ?_; unfold FileG.ptr) | (at_delete; refine Stop.back ?_))
        refine Stop.go (wp_delete rfl _ _ 55 67 rfl Try.underlying55 law9 str_inj rfl a rfl HD2.out.table.map (keyV9 ha) ?_)
        intro w3 m3 s3 _
        have c3 := s3.cell c2 (fun e => HD2.out.mb_ne e)
        have HM3 := Hd.mk m3
        have HS3 := Hd.mk s3
        clear m3 s3 c2
        refine Stop.go ?_
        go_wp2_with (at_mapUpdate; refine Stop.back ?_)
        refine Stop.go (wp_update (vv := FileG.ptr) rfl _ _ _ 55 67 rfl Try.underlying55 law9 str_inj rfl b rfl f rfl HM3.out (keyV9 hb) ?_)
        intro w4 m4 s4 _
        have HZ := Hd.mk (ren_end HD.out HS2.out HF.out HS3.out s4 m4)
        clear m4 s4 c3
        refine Stop.go ?_
        go_wp2
        go_ret
        exact ⟨by rw [HE.out]; rfl, by rw [HE.out]; exact HZ.out⟩
end Go.Proofs.Ytmflfimenacflaa

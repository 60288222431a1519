/- The walk of Remove, for names that are read within what the call was handed. -/
import Derived.Test.YtmflfimenacflaaD6
set_option linter.unusedVariables false
set_option linter.unusedSimpArgs false
namespace Go.Proofs.Ytmflfimenacflaa
open Go.RowKit Gb
theorem pairwise_mput {κ ν : Type} [DecidableEq κ] {R : κ × ν → κ × ν → Prop} {m : List (κ × ν)} {k : κ} {v : ν} (hn : (m.map Prod.fst).Nodup) (h : m.Pairwise R) (h1 : ∀ p ∈ m, p.1 ≠ k → R p (k, v)) (h2 : ∀ p ∈ m, p.1 ≠ k → R (k, v) p) : (mput m k v).Pairwise R := by
  cases hg : mget m k with
  | none =>
    rw [mput_none hg, List.pairwise_append]
    exact ⟨h, List.pairwise_singleton _ _, fun p hp q hq => by rw [List.mem_singleton.1 hq]; exact h1 p hp (lookup_none_ne hg p hp)⟩
  | some y =>
    rw [mput_some hg, List.pairwise_map]
    refine (h.and (List.pairwise_map.1 hn)).imp_of_mem ?_
    intro p q hp hq ⟨hr, hne⟩
    by_cases ep : p.1 = k
    · have eq : q.1 ≠ k := fun e => hne (ep.trans e.symm)
      rw [if_pos ep, if_neg eq]; exact h2 q hq eq
    · rw [if_neg ep]
      split
      · exact h1 p hp ep
      · exact hr
theorem view_mdel (fs : Files) (s : ByteArray) : view (mdel fs s) = mdel (view fs) s := by
  simp [view, mdel, List.filter_map, Function.comp_def]
theorem used_sub {fs fs' : Files} (h : fs'.Sublist fs) : used fs' ≤ used fs := by
  unfold used
  induction h with
  | slnil => exact Nat.le_refl _
  | cons a _ ih => simp only [List.map_cons, List.sum_cons]; omega
  | cons_cons a _ ih => simp only [List.map_cons, List.sum_cons]; omega
theorem TableAt.sub {w w' : World} {mb : Nat} {fs fs' : Files} (h : TableAt w mb fs) (hs : Step (At mb) w w') (hsub : fs'.Sublist fs) (hm : FMap w' mb fs') : TableAt w' mb fs' := by
  refine ⟨hm, fun p hp => ?_, h.apart.sublist hsub, Nat.le_trans (used_sub hsub) h.room⟩
  refine (h.file p (hsub.subset hp)).step hs (fun k hk e => ?_)
  obtain ⟨es, clock, hmap, _⟩ := h.map
  cases e
  rcases hk with rfl | hk
  · rw [(h.file p (hsub.subset hp)).blk] at hmap; cases hmap
  · obtain ⟨cs, hc⟩ := (h.file p (hsub.subset hp)).own.typed hk
    rw [hc] at hmap; cases hmap
theorem foot_sub {mb : Nat} {fs fs' : Files} (hsub : fs'.Sublist fs) : ∀ k, FootT mb fs' k → FootT mb fs k := by
  rintro k (rfl | ⟨p, hp, hk⟩)
  · exact .inl rfl
  · exact .inr ⟨p, hsub.subset hp, hk⟩
theorem DiskAt.mb_ne {w : World} {db mb : Nat} {cap : Int} {fs : Files} (h : DiskAt w db mb cap fs) : ¬ At mb db := fun e => by
  obtain ⟨es, c, hm, _⟩ := h.table.map
  have := h.blk
  cases e
  rw [hm] at this; cases this
theorem DiskAt.sub {w w' : World} {db mb : Nat} {cap : Int} {fs fs' : Files} (h : DiskAt w db mb cap fs) (hs : Step (At mb) w w') (hsub : fs'.Sublist fs) (hm : FMap w' mb fs') : DiskAt w' db mb cap fs' :=
  ⟨hs.keep h.blk h.mb_ne, h.table.sub hs hsub hm, h.cap0, h.cap1, by have := used_sub hsub; have := h.fits; omega⟩
/-! Remove -/
def vdels (V : View) (ss : List ByteArray) : View := ss.foldl mdel V
def fdels (fs : Files) (ss : List ByteArray) : Files := ss.foldl mdel fs
theorem view_dels (fs : Files) (ss : List ByteArray) : view (fdels fs ss) = vdels (view fs) ss := by
  induction ss generalizing fs with
  | nil => rfl
  | cons s ss ih =>
    show view (fdels (mdel fs s) ss) = vdels (mdel (view fs) s) ss
    rw [ih, view_mdel]
theorem fdels_sub (fs : Files) (ss : List ByteArray) : (fdels fs ss).Sublist fs := by
  induction ss generalizing fs with
  | nil => exact List.Sublist.refl _
  | cons s ss ih => exact (ih (mdel fs s)).trans (mdel_sub fs s)
theorem fdels_snoc (fs : Files) {ss : List ByteArray} {k : Nat} {s : ByteArray} (hx : ss[k]? = some s) : fdels fs (ss.take (k + 1)) = mdel (fdels fs (ss.take k)) s := by
  have hk : k < ss.length := (List.getElem?_eq_some_iff.1 hx).1
  have hxe : ss[k] = s := (List.getElem?_eq_some_iff.1 hx).2
  rw [List.take_succ_eq_append_getElem hk, hxe]
  simp [fdels, List.foldl_append]
def vfindE (V : View) (ss : List ByteArray) : Int := if ss.all okName then (if ss.all (fun s => (mget V s).isSome) then 0 else 31) else 30
theorem vfindE_view (fs : Files) (ss : List ByteArray) : vfindE (view fs) ss = findE fs ss := by
  unfold vfindE findE
  have : (fun s => (mget (view fs) s).isSome) = (fun s => (mget fs s).isSome) := by
    funext s; rw [mget_view]; cases mget fs s <;> rfl
  rw [this]
def ChPost (db mb : Nat) (cap : Int) (fs : Files) (w : World) (n : Int) (V' : View) (e : Ending) (w' : World) : Prop :=
  e = .returned (.int .i64 n) ∧ DiskPost db mb cap fs w w' V'
def RemPost (db mb : Nat) (cap : Int) (fs : Files) (ss : List ByteArray) (w : World) : Ending → World → Prop :=
  ChPost db mb cap fs w (findE fs ss) (if findE fs ss = 0 then vdels (view fs) ss else view fs)
set_option maxRecDepth 100000 in
theorem f17_any (db mb : Nat) (cap : Int) (fs : Files) (nv : Value) (ss : List ByteArray) (w : World) {F : Nat → Prop} (hn : Rd Rep.str w F nv ss) (h : DiskAt w db mb cap fs) (hsz : ss.length * 8 ≤ 140737488355328) (hF : ∀ k, F k → k ≠ mb) :
    Calls Try.prog 17 #[.pointer (some ⟨db, 0, none⟩), nv] w (RemPost db mb cap fs ss w) := by
  have c0 := blk_cell h.blk 0
  simp only [List.getElem?_toArray, List.getElem?_cons_zero] at c0
  have HD := Hd.mk h
  have HN := Hd.mk hn
  have HFm := Hd.mk hF
  clear h hn hF
  by_cases he : findE fs ss = 0
  · obtain ⟨gs, hg⟩ := find_gs he
    have HE := Hd.mk he
    have HG := Hd.mk hg
    clear he hg
    have hm := HN.out.le
    obtain ⟨A, c, rfl, hc, _, _⟩ := HN.out.slice
    unfold maxLen at hm
    go_enter Try.func17, Try.ntmps17
    go_wp2_with (go_at_call 34; refine (f34_ok mb fs _ ss gs _ HN.out HD.out.table hsz HE.out HG.out).mono ?_; rintro e w1 ⟨v, rfl, _, _, hs⟩; refine Stop.back ?_)
    have HS := Hd.mk hs
    clear hs
    refine Stop.go ?_
    go_wp2
    go_loopg [23] ss.length (fun kq i wr => ∃ k : Nat, k ≤ ss.length ∧ i = .int .i64 k ∧ Hd (kq = ss.length - k) ∧ Hd (DiskAt wr db mb cap (fdels fs (ss.take k))) ∧ Hd (Step (At mb) w wr))
    case atStart => exact ⟨0, Nat.zero_le _, rfl, ⟨rfl⟩, ⟨by simpa [fdels] using HD.out.step HS.out (fun _ _ h => h)⟩, ⟨HS.out.mono (fun _ h => h.elim)⟩⟩
    case round =>
      obtain ⟨k, hk, rfl, HK, HDk, HSk⟩ := hrel
      by_cases hlt : k < ss.length
      · obtain ⟨ad, rfl, _, hcell, hok⟩ := Rd.at (HN.out.step HSk.out (fun k hk e => HFm.out k hk e)) hlt
        obtain ⟨x, hx⟩ : ∃ x, x = ss[k] := ⟨_, rfl⟩
        rw [← hx] at hcell hok
        have HX : Hd (ss[k]? = some x) := ⟨by rw [hx]; simp⟩
        have HO := Hd.mk hok
        have c0k := blk_cell HDk.out.blk 0
        simp only [List.getElem?_toArray, List.getElem?_cons_zero] at c0k
        clear hx hok
        go_wp2_with (at_delete; refine Stop.back ?_)
        refine Stop.go (wp_delete rfl _ _ 55 67 rfl Try.underlying55 law9 str_inj rfl x rfl HDk.out.table.map (keyV9 HO.out) ?_)
        intro w2 m2 s2 _
        have HD2 : Hd (DiskAt w2 db mb cap (fdels fs (ss.take (k + 1)))) := ⟨by rw [fdels_snoc fs HX.out]; exact HDk.out.sub s2 (mdel_sub _ _) m2⟩
        have HS2 : Hd (Step (At mb) w w2) := ⟨HSk.out.trans' s2⟩
        clear m2 s2
        refine Stop.go ?_
        go_wp2
        go_roundg (ss.length - (k + 1))
        case measure => have := HK.out; omega
        case rel => exact ⟨k + 1, by omega, by go_num, ⟨rfl⟩, HD2, HS2⟩
      · obtain rfl : k = ss.length := by omega
        go_wp2
        go_ret
        refine ⟨by rw [HE.out]; rfl, fdels fs ss, by have := HDk.out; rwa [List.take_length] at this, by rw [HE.out, if_pos rfl, view_dels], HSk.out.mono (fun k hk => .inr (.inl hk)), ?_⟩
        rintro k (rfl | hk)
        · exact .inl (.inl rfl)
        · exact .inl (.inr (foot_sub (fdels_sub _ _) k hk))
  · have HE := Hd.mk he
    have hne : findE fs ss = 30 ∨ findE fs ss = 31 := by
      unfold findE at he ⊢
      split
      · split
        · rename_i h1 h2; rw [if_pos h1, if_pos h2] at he; exact absurd rfl he
        · exact .inr rfl
      · exact .inl rfl
    clear he
    obtain ⟨n, hn⟩ : ∃ n, n = findE fs ss := ⟨_, rfl⟩
    have HN2 := Hd.mk hn
    rw [← hn] at hne
    have hb : (n != 0) = true := by rcases hne with rfl | rfl <;> rfl
    clear hn
    go_enter Try.func17, Try.ntmps17
    go_wp2_with (go_at_call 34; refine (f34_err mb fs _ ss _ HN.out HD.out.table hsz HE.out).mono ?_; rw [← HN2.out]; rintro e w' ⟨rfl, hs⟩; refine Stop.back ?_)
    have HS := Hd.mk hs
    clear hs
    refine Stop.go ?_
    go_wp2
    go_ret
    exact ⟨by rw [← HN2.out]; rfl, by rw [if_neg HE.out]; exact DiskPost.same HD.out HS.out⟩
end Go.Proofs.Ytmflfimenacflaa

/- The walks of bytes.Clone, Read and Safe. -/
import Derived.Test.YtmflfimenacflaaD5
import Derived.Test.YtmflfimenacflaaShelf
set_option linter.unusedVariables false
set_option linter.unusedSimpArgs false
namespace Go.Proofs.Ytmflfimenacflaa
open Go.RowKit Gb
def ints (l : List UInt8) : List Int := l.map (fun b => (b.toNat : Int))
theorem ints_enc (l : List UInt8) : (ints l).map (Value.int .u8) = l.map u8 := by simp [ints, List.map_map, Function.comp_def, u8]
theorem f35_any (v : Value) (l : List UInt8) (w : World) {F : Nat → Prop} (h : Rd Rep.u8 w F v l) (hsz : l.length ≤ 140737488355328) :
    Calls Try.prog 35 #[v] w fun e w' => ∃ v', e = .returned v' ∧ RowAt w' 5 1 v' l.length (l.map u8) ∧ Fresh w v' ∧ Step No w w' ∧ (v' = .slice none 0 0 ↔ v = .slice none 0 0) := by
  obtain ⟨A, c, rfl, hc, hm, hA⟩ := h.slice
  cases A with
  | none =>
    have hc0 := hA rfl
    have hl0 : l = [] := List.eq_nil_of_length_eq_zero (by omega)
    subst hl0; subst hc0
    refine (Try.bytes_Clone_nil _ _ w).mono ?_
    rintro e w' ⟨rfl, rfl⟩
    exact ⟨_, rfl, RowAt.nil _ _ _, Fresh.nil _, Step.refl _ _, by simp⟩
  | some ad =>
    have hlen : (ints l).length = l.length := by simp [ints]
    refine (Try.bytes_Clone_at ad l.length c (ints l) w hlen hsz (fun i hi => ?_)).mono ?_
    · have := h.cells ad rfl i (u8 l[i]) (by simp [hi])
      rw [this]
      simp [ints, u8, List.getD_eq_getElem?_getD, hi]
    · rintro e w' ⟨v', rfl, h1, h2, h3⟩
      rw [ints_enc] at h1
      exact ⟨v', rfl, RowAt.of_own h1, fresh_of_own h1, Step.of_below h3 _, by simp [h2]⟩
theorem rd_one (w : World) (s : ByteArray) (h : StrOk s) : Rd Rep.str (w.alloc (.cells #[.string s] 9)) (fun k => k = w.heap.size) (.slice (some ⟨w.heap.size, 0, none⟩) 1 1) [s] := by
  refine ⟨some ⟨w.heap.size, 0, none⟩, 1, rfl, Nat.le_refl _, by unfold maxLen; omega, (by intro h; cases h), fun i x hx => ⟨_, _, rfl, rfl, ⟨rfl, ?_⟩, fun j u hu => ?_⟩⟩
  · cases i with
    | zero => simp at hx; subst hx; exact h
    | succ i => simp at hx
  · cases i with
    | zero =>
      simp at hx; subst hx
      cases j with
      | zero =>
        simp at hu; subst hu
        rw [add_plain, blk_cell (blk_new w _)]; rfl
      | succ j => simp at hu
    | succ i => simp at hx
theorem f34_err (mb : Nat) (fs : Files) (nv : Value) (ss : List ByteArray) (w : World) {F : Nat → Prop} (hn : Rd Rep.str w F nv ss) (h : TableAt w mb fs) (hsz : ss.length * 8 ≤ 140737488355328) (he : findE fs ss ≠ 0) :
    Calls Try.prog 34 #[.map (some mb), nv] w fun e w' => e = .returned (.tuple #[.slice none 0 0, .int .i64 (findE fs ss)]) ∧ Step No w w' := by
  refine (f34_any mb fs nv ss w hn h hsz).mono ?_
  rintro e w' ⟨hs, ⟨_, rfl⟩ | ⟨h0, _⟩⟩
  · exact ⟨rfl, hs⟩
  · exact absurd h0 he
theorem f34_ok (mb : Nat) (fs : Files) (nv : Value) (ss : List ByteArray) (gs : List FileG) (w : World) {F : Nat → Prop} (hn : Rd Rep.str w F nv ss) (h : TableAt w mb fs) (hsz : ss.length * 8 ≤ 140737488355328) (he : findE fs ss = 0) (hg : ss.map (mget fs) = gs.map some) :
    Calls Try.prog 34 #[.map (some mb), nv] w fun e w' => ∃ v, e = .returned (.tuple #[v, .int .i64 0]) ∧ RowAt w' 67 1 v gs.length (gs.map FileG.ptr) ∧ Fresh w v ∧ Step No w w' := by
  refine (f34_any mb fs nv ss w hn h hsz).mono ?_
  rintro e w' ⟨hs, ⟨h0, _⟩ | ⟨_, v, gs', rfl, hm, ho, hfr⟩⟩
  · exact absurd he h0
  · have : gs' = gs := by
      have h1 : gs'.map some = gs.map some := hm.symm.trans hg
      exact (List.map_inj_right (by intro a b h; exact Option.some.inj h)).1 h1
    subst this
    exact ⟨v, rfl, ho, hfr, hs⟩
theorem find_gs {fs : Files} {ss : List ByteArray} (he : findE fs ss = 0) : ∃ gs : List FileG, ss.map (mget fs) = gs.map some := by
  have h1 : ss.all (fun s => (mget fs s).isSome) = true := by
    unfold findE at he
    split at he
    · split at he
      · assumption
      · cases he
    · cases he
  clear he
  induction ss with
  | nil => exact ⟨[], rfl⟩
  | cons s ss ih =>
    simp only [List.all_cons, Bool.and_eq_true] at h1
    obtain ⟨gs, hg⟩ := ih h1.2
    obtain ⟨f, hf⟩ := Option.isSome_iff_exists.1 h1.1
    exact ⟨f :: gs, by simp [hf, hg]⟩
def readE (V : View) (name : ByteArray) : Int := if okName name then (if (mget V name).isSome then 0 else 31) else 30
theorem readE_find (fs : Files) (name : ByteArray) : readE (view fs) name = findE fs [name] := by
  simp only [readE, findE, mget_view]
  cases h1 : okName name <;> cases h2 : mget fs name <;> simp [h1, h2]
def ReadPost (V : View) (name : ByteArray) (w : World) (e : Ending) (w' : World) : Prop :=
  ∃ v, e = .returned (.tuple #[v, .int .i64 (readE V name)]) ∧ RowAt w' 5 1 v (if readE V name = 0 then (vget V name).1 else []).length ((if readE V name = 0 then (vget V name).1 else []).map u8) ∧ Fresh w v ∧ Step No w w'
set_option maxRecDepth 100000 in
theorem f9_any (db mb : Nat) (cap : Int) (fs : Files) (name : ByteArray) (w : World) (hok : StrOk name) (h : DiskAt w db mb cap fs) :
    Calls Try.prog 9 #[.pointer (some ⟨db, 0, none⟩), .string name] w (ReadPost (view fs) name w) := by
  have c0 := blk_cell h.blk 0
  simp only [List.getElem?_toArray, List.getElem?_cons_zero] at c0
  have HD := Hd.mk h
  have HR := Hd.mk (rd_one w name hok)
  have HT : Hd (TableAt (w.alloc (.cells #[.string name] 9)) mb fs) := ⟨h.table.step (Step.alloc No w _) (fun _ _ h => h)⟩
  clear h
  by_cases he : findE fs [name] = 0
  · obtain ⟨gs, hg⟩ := find_gs he
    obtain ⟨f, rfl, hf⟩ : ∃ f, gs = [f] ∧ mget fs name = some f := by
      cases gs with
      | nil => simp at hg
      | cons f t =>
        simp only [List.map_cons, List.map_nil, List.cons.injEq] at hg
        have ht : t = [] := by cases t with | nil => rfl | cons _ _ => simp at hg
        exact ⟨f, by rw [ht], hg.1⟩
    have HE := Hd.mk he
    have HG := Hd.mk hg
    have HF := Hd.mk hf
    clear he hg hf
    go_enter Try.func9, Try.ntmps9
    go_wp2_with (go_at_call 34; refine (f34_ok mb fs _ [name] [f] _ HR.out HT.out (by simp) HE.out HG.out).mono ?_; rintro e w' ⟨v, rfl, hv, _, hs⟩; refine Stop.back ?_)
    have hst : Step No w w' := (Step.alloc No w _).trans' hs
    have hfa : FileAt w' f := (HD.out.step hst (fun _ _ h => h)).table.file _ (mem_of_lookup HF.out)
    have hlen : f.data.length ≤ used fs := by
      have := used_filter fs HD.out.table.map.nodup _ (mem_of_lookup HF.out)
      simp at this; omega
    have hroom : used fs ≤ 1073741824 := HD.out.table.room
    obtain ⟨g, c, rfl, hg0⟩ : ∃ g c, v = .slice (some ⟨g, 0, none⟩) 1 c ∧ w'.cell? ⟨g, 0, none⟩ = some f.ptr := by
      obtain ⟨g, cap, hv', _, _, _, h5⟩ := hv.form (by simp)
      exact ⟨g, cap, hv', h5 0 f.ptr rfl⟩
    unfold FileG.ptr at hg0
    have cf := blk_cell hfa.blk 0
    simp only [List.getElem?_toArray, List.getElem?_cons_zero] at cf
    have HFA := Hd.mk hfa
    have HS := Hd.mk hst
    clear hv hs hst hfa
    refine Stop.go ?_
    go_wp2_with (go_at_call 35; refine (f35_any f.v f.data _ (Rd.of_row (F := fun _ => True) HFA.out.own (fun _ _ => trivial) (fun _ _ => trivial)) (by omega)).mono ?_; rintro e w2 ⟨v', rfl, ho, hfr, hs, _⟩; refine Stop.back ?_)
    have hE : readE (view fs) name = 0 := by rw [readE_find]; exact HE.out
    have hvg : (vget (view fs) name).1 = f.data := by unfold vget; rw [mget_view, HF.out]; rfl
    have HX : Hd (ReadPost (view fs) name w (.returned (.tuple #[v', .int .i64 0])) w2) := by
      refine ⟨v', by rw [hE], ?_, hfr.step HS.out.size, HS.out.trans' hs⟩
      rw [if_pos hE, hvg]
      exact ho
    clear ho hfr hs hE hvg
    refine Stop.go ?_
    go_wp2
    go_ret2
    exact HX.out
  · have HE := Hd.mk he
    have hne : findE fs [name] = 30 ∨ findE fs [name] = 31 := by
      unfold findE at he ⊢
      split
      · split
        · rename_i h1 h2; rw [if_pos h1, if_pos h2] at he; exact absurd rfl he
        · exact .inr rfl
      · exact .inl rfl
    have hE : readE (view fs) name = findE fs [name] := readE_find _ _
    have HE2 := Hd.mk hE
    clear he hE
    obtain ⟨n, hn⟩ : ∃ n, n = findE fs [name] := ⟨_, rfl⟩
    have HN := Hd.mk hn
    rw [← hn] at hne
    have hb : (n != 0) = true := by rcases hne with rfl | rfl <;> rfl
    clear hn
    go_enter Try.func9, Try.ntmps9
    go_wp2_with (go_at_call 34; refine (f34_err mb fs _ [name] _ HR.out HT.out (by simp) HE.out).mono ?_; rw [← HN.out]; rintro e w' ⟨rfl, hs⟩; refine Stop.back ?_)
    have HS : Hd (Step No w w') := ⟨(Step.alloc No w _).trans' hs⟩
    clear hs
    have HX : Hd (ReadPost (view fs) name w (.returned (.tuple #[.slice none 0 0, .int .i64 n])) w') := by
      have h0 : readE (view fs) name ≠ 0 := by rw [HE2.out]; exact HE.out
      refine ⟨⟨_, by rw [HE2.out, ← HN.out], ?_, Fresh.nil _, HS.out⟩⟩
      rw [if_neg h0]; exact RowAt.nil _ _ _
    refine Stop.go ?_
    go_wp2
    go_ret2
    exact HX.out
def SafePost (V : View) (name : ByteArray) (w : World) (e : Ending) (w' : World) : Prop :=
  e = .returned (.tuple #[.int .i64 (if readE V name = 0 then ((vget V name).2 : Int) else 0), .int .i64 (readE V name)]) ∧ Step No w w'
set_option maxRecDepth 100000 in
theorem f10_any (db mb : Nat) (cap : Int) (fs : Files) (name : ByteArray) (w : World) (hok : StrOk name) (h : DiskAt w db mb cap fs) :
    Calls Try.prog 10 #[.pointer (some ⟨db, 0, none⟩), .string name] w (SafePost (view fs) name w) := by
  have c0 := blk_cell h.blk 0
  simp only [List.getElem?_toArray, List.getElem?_cons_zero] at c0
  have HD := Hd.mk h
  have HR := Hd.mk (rd_one w name hok)
  have HT : Hd (TableAt (w.alloc (.cells #[.string name] 9)) mb fs) := ⟨h.table.step (Step.alloc No w _) (fun _ _ h => h)⟩
  clear h
  by_cases he : findE fs [name] = 0
  · obtain ⟨gs, hg⟩ := find_gs he
    obtain ⟨f, rfl, hf⟩ : ∃ f, gs = [f] ∧ mget fs name = some f := by
      cases gs with
      | nil => simp at hg
      | cons f t =>
        simp only [List.map_cons, List.map_nil, List.cons.injEq] at hg
        have ht : t = [] := by cases t with | nil => rfl | cons _ _ => simp at hg
        exact ⟨f, by rw [ht], hg.1⟩
    have HE := Hd.mk he
    have HG := Hd.mk hg
    have HF := Hd.mk hf
    clear he hg hf
    go_enter Try.func10, Try.ntmps10
    go_wp2_with (go_at_call 34; refine (f34_ok mb fs _ [name] [f] _ HR.out HT.out (by simp) HE.out HG.out).mono ?_; rintro e w' ⟨v, rfl, hv, _, hs⟩; refine Stop.back ?_)
    have hst : Step No w w' := (Step.alloc No w _).trans' hs
    have hfa : FileAt w' f := (HD.out.step hst (fun _ _ h => h)).table.file _ (mem_of_lookup HF.out)
    obtain ⟨g, c, rfl, hg0⟩ : ∃ g c, v = .slice (some ⟨g, 0, none⟩) 1 c ∧ w'.cell? ⟨g, 0, none⟩ = some f.ptr := by
      obtain ⟨g, cap, hv', _, _, _, h5⟩ := hv.form (by simp)
      exact ⟨g, cap, hv', h5 0 f.ptr rfl⟩
    unfold FileG.ptr at hg0
    have cf := blk_cell hfa.blk 1
    simp only [List.getElem?_toArray, List.getElem?_cons_zero, List.getElem?_cons_succ] at cf
    have hE : readE (view fs) name = 0 := by rw [readE_find]; exact HE.out
    have hvg : (vget (view fs) name).2 = f.safe := by unfold vget; rw [mget_view, HF.out]; rfl
    have HX : Hd (SafePost (view fs) name w (.returned (.tuple #[.int .i64 (f.safe : Int), .int .i64 0])) w') := by
      refine ⟨?_, hst⟩
      rw [hE, if_pos rfl, hvg]
    clear hv hs hst hfa hE hvg
    refine Stop.go ?_
    go_wp2
    go_ret2
    exact HX.out
  · have HE := Hd.mk he
    have hne : findE fs [name] = 30 ∨ findE fs [name] = 31 := by
      unfold findE at he ⊢
      split
      · split
        · rename_i h1 h2; rw [if_pos h1, if_pos h2] at he; exact absurd rfl he
        · exact .inr rfl
      · exact .inl rfl
    have hE : readE (view fs) name = findE fs [name] := readE_find _ _
    have HE2 := Hd.mk hE
    clear he hE
    obtain ⟨n, hn⟩ : ∃ n, n = findE fs [name] := ⟨_, rfl⟩
    have HN := Hd.mk hn
    rw [← hn] at hne
    have hb : (n != 0) = true := by rcases hne with rfl | rfl <;> rfl
    clear hn
    go_enter Try.func10, Try.ntmps10
    go_wp2_with (go_at_call 34; refine (f34_err mb fs _ [name] _ HR.out HT.out (by simp) HE.out).mono ?_; rw [← HN.out]; rintro e w' ⟨rfl, hs⟩; refine Stop.back ?_)
    have HS : Hd (Step No w w') := ⟨(Step.alloc No w _).trans' hs⟩
    clear hs
    have HX : Hd (SafePost (view fs) name w (.returned (.tuple #[.int .i64 0, .int .i64 n])) w') := by
      have h0 : readE (view fs) name ≠ 0 := by rw [HE2.out]; exact HE.out
      refine ⟨⟨?_, HS.out⟩⟩
      rw [if_neg h0, HE2.out, ← HN.out]
    refine Stop.go ?_
    go_wp2
    go_ret2
    exact HX.out
end Go.Proofs.Ytmflfimenacflaa

/- The walk of Append, for a disk whose table reads as a list of files. -/
import Derived.Test.YtmflfimenacflaaD4
import Derived.Deep.RegionHeld3
set_option linter.unusedVariables false
set_option linter.unusedSimpArgs false
namespace Go.Proofs.Ytmflfimenacflaa
open Go.RowKit Gb
/-! the disk's state as a plain list -/
abbrev View := List (ByteArray × (List UInt8 × Nat))
def view (fs : Files) : View := fs.map (fun p => (p.1, (p.2.data, p.2.safe)))
theorem mget_view (fs : Files) (s : ByteArray) : mget (view fs) s = (mget fs s).map (fun f => (f.data, f.safe)) := by
  unfold view
  induction fs with
  | nil => rfl
  | cons p m ih =>
    simp only [List.map_cons, mget]
    split
    · rfl
    · exact ih
theorem mput_some {κ ν : Type} [DecidableEq κ] {m : List (κ × ν)} {k : κ} {y : ν} (h : mget m k = some y) (v : ν) : mput m k v = m.map (fun p => if p.1 = k then (k, v) else p) := by
  unfold mput; rw [h]; rfl
theorem mput_none {κ ν : Type} [DecidableEq κ] {m : List (κ × ν)} {k : κ} (h : mget m k = none) (v : ν) : mput m k v = m ++ [(k, v)] := by
  unfold mput; rw [h]; rfl
theorem view_mput (fs : Files) (s : ByteArray) (f : FileG) : view (mput fs s f) = mput (view fs) s (f.data, f.safe) := by
  cases h : mget fs s with
  | none =>
    rw [mput_none h, mput_none (by rw [mget_view, h]; rfl)]
    simp [view]
  | some g =>
    rw [mput_some h, mput_some (y := (g.data, g.safe)) (by rw [mget_view, h]; rfl)]
    simp only [view, List.map_map]
    refine List.map_congr_left fun p _ => ?_
    simp only [Function.comp]
    split <;> rfl
def vused (V : View) : Nat := (V.map (fun p => p.2.1.length)).sum
theorem used_view (fs : Files) : used fs = vused (view fs) := by simp [used, vused, view, List.map_map, Function.comp_def]
theorem mem_mput {κ ν : Type} [DecidableEq κ] {m : List (κ × ν)} {k : κ} {v : ν} {p : κ × ν} (h : p ∈ mput m k v) : p = (k, v) ∨ (p ∈ m ∧ p.1 ≠ k) := by
  cases hg : mget m k with
  | none =>
    rw [mput_none hg] at h
    rcases List.mem_append.1 h with h | h
    · exact .inr ⟨h, lookup_none_ne hg p h⟩
    · exact .inl (List.mem_singleton.1 h)
  | some y =>
    rw [mput_some hg] at h
    obtain ⟨q, hq, rfl⟩ := List.mem_map.1 h
    split
    · exact .inl rfl
    · rename_i hne; exact .inr ⟨hq, hne⟩
theorem used_mput_some {fs : Files} {s : ByteArray} {f : FileG} (hn : (fs.map Prod.fst).Nodup) (hf : mget fs s = some f) (f' : FileG) : used (mput fs s f') + f.data.length = used fs + f'.data.length := by
  rw [mput_some hf]
  have hm := mem_of_lookup hf
  clear hf
  induction fs with
  | nil => cases hm
  | cons q m ih =>
    simp only [List.map_cons, List.nodup_cons] at hn
    rcases List.mem_cons.1 hm with rfl | hm
    · have : m.map (fun p => if p.1 = s then (s, f') else p) = m := by
        have : ∀ p ∈ m, (if p.1 = s then (s, f') else p) = p := fun p hp => by
          rw [if_neg]; intro e; exact hn.1 (e ▸ List.mem_map.2 ⟨p, hp, rfl⟩)
        rw [List.map_congr_left this]; simp
      simp only [List.map_cons, this, used, if_true, List.sum_cons]
      omega
    · have hne : q.1 ≠ s := fun e => hn.1 (e ▸ List.mem_map.2 ⟨(s, f), hm, rfl⟩)
      have := ih hn.2 hm
      simp only [List.map_cons, if_neg hne, used, List.sum_cons] at this ⊢
      omega
/-- one file is turned, in place -/
theorem TableAt.set_file {w w' : World} {mb : Nat} {fs : Files} (h : TableAt w mb fs) {s : ByteArray} {f f' : FileG} (hf : mget fs s = some f) (hb : f'.blk = f.blk) (hs : Step (Owns f) w w') (hf' : FileAt w' f')
    (hown : ∀ k, Owns f' k → Owns f k ∨ w.heap.size ≤ k) (hroom : used (mput fs s f') ≤ 1073741824) : TableAt w' mb (mput fs s f') := by
  have hm := mem_of_lookup hf
  have hnd := h.map.nodup
  have hptr : f'.ptr = f.ptr := by unfold FileG.ptr; rw [hb]
  have hmb : ∀ k, Owns f k → k ≠ mb := by
    rintro k hk rfl
    obtain ⟨es, clock, hmap, _⟩ := h.map
    rcases hk with rfl | hk
    · rw [(h.file _ hm).blk] at hmap; cases hmap
    · obtain ⟨cs, hc⟩ := (h.file _ hm).own.typed hk
      rw [hc] at hmap; cases hmap
  have hpw : fs.Pairwise (fun p q => p.1 ≠ q.1) := List.pairwise_map.1 hnd
  have hap := h.apart.and hpw
  have hne : ∀ p ∈ fs, p.1 ≠ s → ∀ k, Owns p.2 k → ¬ Owns f k := by
    have h1 : fs.Pairwise (fun p q => p.1 ≠ q.1 → ∀ k, Owns p.2 k → ¬ Owns q.2 k) := by
      refine h.apart.imp ?_; intro a b hh _; exact hh
    have h2 : fs.Pairwise (fun p q => q.1 ≠ p.1 → ∀ k, Owns q.2 k → ¬ Owns p.2 k) := by
      refine h.apart.imp ?_; intro a b hh _ k x y; exact hh k y x
    exact fun p hp hps => List.Pairwise.forall_of_forall_of_flip (fun x _ e => absurd rfl e) h1 h2 hp hm hps
  refine ⟨?_, ?_, ?_, hroom⟩
  · refine (h.map.step hs (fun hk => hmb _ hk rfl)).ghost ?_
    rw [mput_some hf, List.map_map]
    refine List.map_congr_left fun p hp => ?_
    simp only [Function.comp]
    split
    · rename_i e
      have : p = (s, f) := by
        have h1 := lookup_mem hnd hp
        rw [e, hf] at h1; cases h1; rw [← e]
      rw [this, hptr]
    · rfl
  · intro p hp
    rcases mem_mput hp with rfl | ⟨hp, hps⟩
    · exact hf'
    · exact (h.file p hp).step hs (hne p hp hps)
  · rw [mput_some hf, List.pairwise_map]
    refine hap.imp_of_mem ?_
    intro p q hp hq ⟨h1, h2⟩ k hk hk'
    by_cases ep : p.1 = s
    · have eq : q.1 ≠ s := fun e => h2 (ep.trans e.symm)
      rw [if_pos ep] at hk; rw [if_neg eq] at hk'
      rcases hown k hk with h3 | h3
      · exact hne q hq eq k hk' h3
      · have := (h.file q hq).lt hk'; omega
    · rw [if_neg ep] at hk
      by_cases eq : q.1 = s
      · rw [if_pos eq] at hk'
        rcases hown k hk' with h3 | h3
        · exact hne p hp ep k hk h3
        · have := (h.file p hp).lt hk; omega
      · rw [if_neg eq] at hk'; exact h1 k hk hk'
/-- a file more -/
theorem TableAt.add_file {w w' : World} {mb : Nat} {fs : Files} (h : TableAt w mb fs) {s : ByteArray} {f' : FileG} (hf : mget fs s = none) (hs : Step (At mb) w w') (hm' : FMap w' mb (mput fs s f')) (hf' : FileAt w' f')
    (hown : ∀ k, Owns f' k → w.heap.size ≤ k) (hroom : used (mput fs s f') ≤ 1073741824) : TableAt w' mb (mput fs s f') := by
  have hmb : ∀ p ∈ fs, ∀ k, Owns p.2 k → k ≠ mb := by
    rintro p hp k hk rfl
    obtain ⟨es, clock, hmap, _⟩ := h.map
    rcases hk with rfl | hk
    · rw [(h.file _ hp).blk] at hmap; cases hmap
    · obtain ⟨cs, hc⟩ := (h.file _ hp).own.typed hk
      rw [hc] at hmap; cases hmap
  refine ⟨hm', ?_, ?_, hroom⟩
  · intro p hp
    rcases mem_mput hp with rfl | ⟨hp, _⟩
    · exact hf'
    · exact (h.file p hp).step hs (fun k hk e => hmb p hp k hk e)
  · rw [mput_none hf, List.pairwise_append]
    refine ⟨h.apart, List.pairwise_singleton _ _, fun p hp q hq k hk hk' => ?_⟩
    rw [List.mem_singleton.1 hq] at hk'
    have h1 := hown k hk'
    have h2 := (h.file p hp).lt hk
    omega
theorem foot_set {mb : Nat} {fs : Files} {s : ByteArray} {f f' : FileG} {n : Nat} (hf : mget fs s = some f) (hown : ∀ k, Owns f' k → Owns f k ∨ n ≤ k) : ∀ k, FootT mb (mput fs s f') k → FootT mb fs k ∨ n ≤ k := by
  rintro k (rfl | ⟨p, hp, hk⟩)
  · exact .inl (.inl rfl)
  · rcases mem_mput hp with rfl | ⟨hp, _⟩
    · rcases hown k hk with h | h
      · exact .inl (.inr ⟨_, mem_of_lookup hf, h⟩)
      · exact .inr h
    · exact .inl (.inr ⟨p, hp, hk⟩)
theorem foot_add {mb : Nat} {fs : Files} {s : ByteArray} {f' : FileG} {n : Nat} (hown : ∀ k, Owns f' k → n ≤ k) : ∀ k, FootT mb (mput fs s f') k → FootT mb fs k ∨ n ≤ k := by
  rintro k (rfl | ⟨p, hp, hk⟩)
  · exact .inl (.inl rfl)
  · rcases mem_mput hp with rfl | ⟨hp, _⟩
    · exact .inr (hown k hk)
    · exact .inl (.inr ⟨p, hp, hk⟩)
def appE (V : View) (cap : Int) (name : ByteArray) (n : Nat) : Int := if okName name then (if (n : Int) > cap - vused V then 32 else 0) else 30
def vget (V : View) (name : ByteArray) : List UInt8 × Nat := (mget V name).getD ([], 0)
def vapp (V : View) (name : ByteArray) (l : List UInt8) : View := mput V name ((vget V name).1 ++ l, (vget V name).2)
/-- what a change of the disk leaves -/
def DiskPost (db mb : Nat) (cap : Int) (fs : Files) (w w' : World) (V' : View) : Prop :=
  ∃ fs', DiskAt w' db mb cap fs' ∧ view fs' = V' ∧ Step (Foot db mb fs) w w' ∧ ∀ k, Foot db mb fs' k → Foot db mb fs k ∨ w.heap.size ≤ k
def AppPost (db mb : Nat) (cap : Int) (fs : Files) (name : ByteArray) (l : List UInt8) (w : World) (e : Ending) (w' : World) : Prop :=
  e = .returned (.int .i64 (appE (view fs) cap name l.length)) ∧ DiskPost db mb cap fs w w' (if appE (view fs) cap name l.length = 0 then vapp (view fs) name l else view fs)
theorem DiskPost.same {db mb : Nat} {cap : Int} {fs : Files} {w w' : World} (h : DiskAt w db mb cap fs) (hs : Step No w w') : DiskPost db mb cap fs w w' (view fs) :=
  ⟨fs, h.step hs (fun _ _ h => h), rfl, hs.mono (fun _ h => h.elim), fun _ hk => .inl hk⟩
set_option maxHeartbeats 400000 in
set_option maxRecDepth 100000 in
theorem f7_bad (db mb : Nat) (cap : Int) (fs : Files) (name : ByteArray) (bv : Value) (l : List UInt8) (w : World) {F : Nat → Prop} (hok : StrOk name) (hb : Rd Rep.u8 w F bv l) (h : DiskAt w db mb cap fs) (he : appE (view fs) cap name l.length ≠ 0) :
    Calls Try.prog 7 #[.pointer (some ⟨db, 0, none⟩), .string name, bv] w (AppPost db mb cap fs name l w) := by
  have hm := hb.le
  obtain ⟨A, c, rfl, hc, _, _⟩ := hb.slice
  unfold maxLen at hm
  have c0 := blk_cell h.blk 0
  have c1 := blk_cell h.blk 1
  simp only [List.getElem?_toArray, List.getElem?_cons_zero, List.getElem?_cons_succ] at c0 c1
  have hcap0 := h.cap0
  have hcap1 := h.cap1
  have hu : used fs ≤ 1073741824 := h.table.room
  have HB := Hd.mk hb
  have HD := Hd.mk h
  have HE := Hd.mk he
  clear hb h he
  cases hn : okName name with
  | false =>
    have HE2 : Hd (appE (view fs) cap name l.length = 30) := ⟨by simp [appE, hn]⟩
    have HN := Hd.mk hn
    clear hn
    go_enter Try.func7, Try.ntmps7
    go_wp2_with (go_at_call 28; refine (f28_any _ _ hok).mono ?_; rw [HN.out]; rintro e w' ⟨rfl, hs⟩; refine Stop.back ?_)
    have HS := Hd.mk hs
    clear hs
    refine Stop.go ?_
    go_wp2
    go_ret
    exact ⟨by rw [HE2.out]; rfl, by rw [HE2.out]; exact DiskPost.same HD.out HS.out⟩
  | true =>
    have HE2 : Hd (cap - used fs < l.length) := ⟨by
      have := HE.out
      simp only [appE, hn, if_true, ← used_view] at this
      by_cases hgt : (l.length : Int) > cap - used fs
      · exact hgt
      · rw [if_neg hgt] at this; exact absurd rfl this⟩
    have HE3 : Hd (appE (view fs) cap name l.length = 32) := ⟨by
      have := HE2.out
      simp only [appE, hn, if_true, ← used_view]
      rw [if_pos this]⟩
    have HN := Hd.mk hn
    clear hn
    go_enter Try.func7, Try.ntmps7
    go_wp2_with (go_at_call 28; refine (f28_any _ _ hok).mono ?_; rw [HN.out]; rintro e w' ⟨rfl, hs⟩; refine Stop.back ?_)
    have c0' := hs.cell c0 (fun h => h)
    have c1' := hs.cell c1 (fun h => h)
    have HS := Hd.mk hs
    have HT : Hd (TableAt w' mb fs) := ⟨HD.out.table.step hs (fun _ _ h => h)⟩
    clear hs c0 c1
    refine Stop.go ?_
    go_wp2_with fail
    have hlt := decide_eq_true HE2.out
    have hw : IntKind.i64.wrap (cap - ↑(used fs)) = cap - ↑(used fs) := IntWalk.i64_in _ (by omega)
    go_region_held3 (fun W => W.cell? ⟨db, 0, none⟩ = some (.map (some mb)) ∧ W.cell? ⟨db, 1, none⟩ = some (.int .i64 cap) ∧ Step No w' W) ((refine ⟨?_, ?_, ?_⟩ <;> first | assumption | (simp only [World.cell?_drew]; assumption) | exact Step.drew No _)) (first | (go_at_call 20; refine (f20_any mb fs _ ?_).mono ?_; (refine HT.out.step ?_ (fun _ _ h => h); first | assumption | exact Step.drew No _); rintro e w1 ⟨rfl, hs⟩; have k0 := hs.cell (p := ⟨db, 0, none⟩) (by assumption) (fun h => h); have k1 := hs.cell (p := ⟨db, 1, none⟩) (by assumption) (fun h => h); have k2 : Step No w' w1 := (by refine Step.trans' ?_ hs; first | assumption | exact Step.drew No _)))
    have HK := Hd.mk k2
    clear hs k0 k1 k2
    go_wp2
    go_ret
    exact ⟨by rw [HE3.out]; rfl, by rw [HE3.out]; exact DiskPost.same HD.out (HS.out.trans' HK.out)⟩
theorem zero69 (w : World) : (zeroValue 69).run Try.prog w = .ok (.agg #[.slice none 0 0, .int .i64 0]) w := by kernel_rfl
theorem info5 : (Try.prog.info? 5).map (fun i => (i.zero, i.size, i.bytes)) = some (some (.int .u8 0), 1, 1) := by kernel_rfl
theorem u8_one (l : List UInt8) : ∀ u ∈ l.map u8, u.oneCell' = true := by
  intro u hu
  obtain ⟨b, _, rfl⟩ := List.mem_map.1 hu
  rfl
/-- the end of an append to a file that is there -/
theorem app_some {db mb : Nat} {cap : Int} {fs : Files} {name : ByteArray} {l : List UInt8} {w w1 w2 : World} {f : FileG} {v' : Value} (hd : DiskAt w1 db mb cap fs) (h01 : Step No w w1) (hf : mget fs name = some f) (hfit : (used fs : Int) + l.length ≤ cap)
    (k1 : RowAt w2 5 1 v' (f.data.length + l.length) (f.data.map u8 ++ l.map u8)) (k2 : Step (Own f.v) w1 w2) (k4 : ∀ k, Own v' k → Own f.v k ∨ w1.heap.size ≤ k) :
    DiskPost db mb cap fs w (w2.setCell ⟨f.blk, 0, none⟩ v') (vapp (view fs) name l) := by
  have hm := mem_of_lookup hf
  have hfa : FileAt w1 f := hd.table.file _ hm
  have hne : ¬ Own f.v f.blk := fun h => by
    obtain ⟨cs, hc⟩ := hfa.own.typed h
    have := hfa.blk
    rw [hc] at this; cases this
  have hb2 := k2.keep hfa.blk hne
  have hs3 : Step (Owns f) w1 (w2.setCell ⟨f.blk, 0, none⟩ v') := (k2.mono (fun k hk => .inr hk)).trans' (Step.set _ (.inl rfl) _)
  have hvb : ∀ k, Own v' k → k ≠ f.blk := by
    rintro k hk rfl
    obtain ⟨cs, hc⟩ := k1.typed hk
    rw [hb2] at hc; cases hc
  have hf' : FileAt (w2.setCell ⟨f.blk, 0, none⟩ v') { f with v := v', data := f.data ++ l } := by
    refine ⟨?_, ?_, ?_⟩
    · have := blk_set hb2 0 v'
      simpa using this
    · have := k1.step (Step.setAt w2 ⟨f.blk, 0, none⟩ v') (fun k hk e => hvb k hk e)
      simpa using this
    · have := hfa.safe
      simp; omega
  have hu := used_mput_some hd.table.map.nodup hf { f with v := v', data := f.data ++ l }
  have hu2 : used (mput fs name { f with v := v', data := f.data ++ l }) = used fs + l.length := by simp at hu; omega
  have hcap1 := hd.cap1
  have hown : ∀ k, Owns { f with v := v', data := f.data ++ l } k → Owns f k ∨ w1.heap.size ≤ k := by
    rintro k (rfl | hk)
    · exact .inl (.inl rfl)
    · rcases k4 k hk with h | h
      · exact .inl (.inr h)
      · exact .inr h
  have hT := hd.table.set_file hf (f' := { f with v := v', data := f.data ++ l }) rfl hs3 hf' hown (by rw [hu2]; omega)
  have hdb : ¬ Owns f db := by
    rintro (h | h)
    · have := hd.blk; rw [h] at this; rw [show w1.heap[f.blk]? = _ from hfa.blk] at this; simp at this
    · obtain ⟨cs, hc⟩ := hfa.own.typed h
      have := hd.blk; rw [hc] at this; cases this
  refine ⟨_, ⟨hs3.keep hd.blk hdb, hT, hd.cap0, hcap1, by rw [hu2]; omega⟩, ?_, ?_, ?_⟩
  · rw [view_mput]
    unfold vapp vget
    rw [mget_view, hf]; rfl
  · refine (h01.mono (fun _ h => h.elim)).trans' (hs3.mono fun k hk => .inr (.inr ⟨_, hm, hk⟩))
  · rintro k (rfl | hk)
    · exact .inl (.inl rfl)
    · rcases foot_set hf hown k hk with h | h
      · exact .inl (.inr h)
      · exact .inr (Nat.le_trans h01.size h)
set_option maxRecDepth 100000 in
theorem f7_some (db mb : Nat) (cap : Int) (fs : Files) (name : ByteArray) (bv : Value) (l : List UInt8) (w : World) {F : Nat → Prop} (hok : StrOk name) (hb : Rd Rep.u8 w F bv l) (h : DiskAt w db mb cap fs) (hE : appE (view fs) cap name l.length = 0) (hfit : (used fs : Int) + l.length ≤ cap) (hn : okName name = true) (f : FileG) (hf : mget fs name = some f) :
    Calls Try.prog 7 #[.pointer (some ⟨db, 0, none⟩), .string name, bv] w (AppPost db mb cap fs name l w) := by
  have hm := hb.le
  obtain ⟨A, c, rfl, hc, _, _⟩ := hb.slice
  unfold maxLen at hm
  have c0 := blk_cell h.blk 0
  have c1 := blk_cell h.blk 1
  simp only [List.getElem?_toArray, List.getElem?_cons_zero, List.getElem?_cons_succ] at c0 c1
  have hcap0 := h.cap0
  have hcap1 := h.cap1
  have hu : used fs ≤ 1073741824 := h.table.room
  have HB := Hd.mk hb
  have HD := Hd.mk h
  have HE := Hd.mk hE
  have HF := Hd.mk hf
  have HE2 : Hd ((l.length : Int) ≤ cap - used fs) := ⟨by omega⟩
  have HN := Hd.mk hn
  clear hb h hE hn hf
  · skip
    go_enter Try.func7, Try.ntmps7
    go_wp2_with (go_at_call 28; refine (f28_any _ _ hok).mono ?_; rw [HN.out]; rintro e w' ⟨rfl, hs⟩; refine Stop.back ?_)
    have c0' := hs.cell c0 (fun h => h)
    have c1' := hs.cell c1 (fun h => h)
    have HS := Hd.mk hs
    have HT : Hd (TableAt w' mb fs) := ⟨HD.out.table.step hs (fun _ _ h => h)⟩
    clear hs c0 c1
    refine Stop.go ?_
    go_wp2_with fail
    have hlt := decide_eq_false (Int.not_lt.2 HE2.out)
    have hw : IntKind.i64.wrap (cap - ↑(used fs)) = cap - ↑(used fs) := IntWalk.i64_in _ (by omega)
    go_region_held3 (fun W => W.cell? ⟨db, 0, none⟩ = some (.map (some mb)) ∧ W.cell? ⟨db, 1, none⟩ = some (.int .i64 cap) ∧ Step No w' W) ((refine ⟨?_, ?_, ?_⟩ <;> first | assumption | (simp only [World.cell?_drew]; assumption) | exact Step.drew No _)) (first | (go_at_call 20; refine (f20_any mb fs _ ?_).mono ?_; (refine HT.out.step ?_ (fun _ _ h => h); first | assumption | exact Step.drew No _); rintro e w1 ⟨rfl, hs⟩; have k0 := hs.cell (p := ⟨db, 0, none⟩) (by assumption) (fun h => h); have k1 := hs.cell (p := ⟨db, 1, none⟩) (by assumption) (fun h => h); have k2 : Step No w' w1 := (by refine Step.trans' ?_ hs; first | assumption | exact Step.drew No _)))
    have HK : Hd (Step No w w1) := ⟨HS.out.trans' k2⟩
    have HD1 : Hd (DiskAt w1 db mb cap fs) := ⟨HD.out.step HK.out (fun _ _ h => h)⟩
    have HB1 : Hd (Rd Rep.u8 w1 F (.slice A l.length c) l) := ⟨HB.out.stepNo HK.out⟩
    clear hs k2 c0' c1' hlt hw
    have hfa := HD1.out.table.file _ (mem_of_lookup HF.out)
    have cf := blk_cell hfa.blk 0
    simp only [List.getElem?_toArray, List.getElem?_cons_zero] at cf
    have HFA := Hd.mk hfa
    clear hfa
    go_wp2_with (first | (at_lookup; refine wp_look_some rfl _ _ 55 67 rfl Try.underlying55 law9 str_inj rfl name rfl HD1.out.table.map (keyV9 hok) _ (zero67 _) f HF.out ?_; unfold FileG.ptr) | (at_builtin; refine Stop.back ?_))
    have hlen : f.data.length ≤ used fs := by
      have := used_filter fs HD1.out.table.map.nodup _ (mem_of_lookup HF.out)
      simp at this; omega
    refine Stop.go (wp_append rfl _ _ 32 5 rfl (.int .u8 0) 1 1 Try.underlying32 info5 rfl (by decide) _ _ _ rfl HFA.out.own A l.length c (l.map u8) rfl (by simp) HB1.out.nilc HB1.out.cells (u8_one l) (by unfold maxLen; omega) (by omega) ?_)
    intro v' w2 k1 k2 _ k4
    have hne : ¬ Own f.v f.blk := fun h => by
      obtain ⟨cs, hc⟩ := HFA.out.own.typed h
      have := HFA.out.blk
      rw [hc] at this; cases this
    have hb2 := k2.keep HFA.out.blk hne
    have cf2 := blk_cell hb2 0
    have ff2 := blk_free hb2 0
    simp only [List.getElem?_toArray, List.getElem?_cons_zero] at cf2
    have HZ : Hd _ := ⟨app_some HD1.out HK.out HF.out hfit k1 k2 k4⟩
    obtain ⟨A', c', rfl, _⟩ := k1.slice
    clear k1 k2 k4 hne hb2 cf hlen
    refine Stop.go ?_
    go_wp2
    go_ret
    exact ⟨by rw [HE.out]; rfl, by rw [HE.out, if_pos rfl]; exact HZ.out⟩
/-- the end of an append to a new file -/
theorem app_none {db mb : Nat} {cap : Int} {fs : Files} {name : ByteArray} {l : List UInt8} {w w1 w2 w3 : World} {v' : Value} (hd : DiskAt w1 db mb cap fs) (h01 : Step No w w1) (hf : mget fs name = none) (hfit : (used fs : Int) + l.length ≤ cap)
    (m2 : FMap w2 mb (mput fs name ⟨w1.heap.size, .slice none 0 0, [], 0⟩)) (s2 : Step (At mb) (w1.alloc (.cells #[.slice none 0 0, .int .i64 0] 69)) w2) (z2 : w2.heap.size = (w1.alloc (.cells #[.slice none 0 0, .int .i64 0] 69)).heap.size)
    (k1 : RowAt w3 5 1 v' (0 + l.length) ([] ++ l.map u8)) (k2 : Step (Own (.slice none 0 0)) w2 w3) (k4 : ∀ k, Own v' k → Own (.slice none 0 0) k ∨ w2.heap.size ≤ k) :
    DiskPost db mb cap fs w (w3.setCell ⟨w1.heap.size, 0, none⟩ v') (vapp (view fs) name l) := by
  have hlt := hd.table.map.lt
  have k2' : Step No w2 w3 := k2.mono (fun k h => by cases h)
  have hb1 : (w1.alloc (.cells #[.slice none 0 0, .int .i64 0] 69)).heap[w1.heap.size]? = some (.cells #[.slice none 0 0, .int .i64 0] 69 (0, 0)) := blk_new _ _
  have hb2 := s2.keep hb1 (fun e => by cases e; omega)
  have hb3 := k2'.keep hb2 (fun h => h)
  have hsz : w2.heap.size = w1.heap.size + 1 := by rw [z2]; simp
  have hvn : ∀ k, Own v' k → w1.heap.size < k := by
    intro k hk
    rcases k4 k hk with h | h
    · cases h
    · omega
  have s1 : Step (At mb) w1 w2 := (Step.alloc _ _ _).trans' s2
  have s3 : Step (At mb) w1 (w3.setCell ⟨w1.heap.size, 0, none⟩ v') := (s1.transNo k2').trans (Step.setAt w3 ⟨w1.heap.size, 0, none⟩ v') (fun i hi hlt => by cases hi; simp at hlt)
  have hf' : FileAt (w3.setCell ⟨w1.heap.size, 0, none⟩ v') ⟨w1.heap.size, v', l, 0⟩ := by
    refine ⟨?_, ?_, Nat.zero_le _⟩
    · have := blk_set hb3 0 v'
      simpa using this
    · have := k1.step (Step.setAt w3 ⟨w1.heap.size, 0, none⟩ v') (fun k hk e => by have := hvn k hk; have e' : k = w1.heap.size := e; omega)
      simpa using this
  have hu2 : used (mput fs name ⟨w1.heap.size, v', l, 0⟩) = used fs + l.length := by
    rw [mput_none hf]; simp [used]
  have hcap1 := hd.cap1
  have hown : ∀ k, Owns ⟨w1.heap.size, v', l, 0⟩ k → w1.heap.size ≤ k := by
    rintro k (rfl | hk)
    · exact Nat.le_refl _
    · exact Nat.le_of_lt (hvn k hk)
  have m3 : FMap (w3.setCell ⟨w1.heap.size, 0, none⟩ v') mb (mput fs name ⟨w1.heap.size, v', l, 0⟩) := by
    refine ((m2.step k2' (fun h => h)).step (Step.setAt w3 ⟨w1.heap.size, 0, none⟩ v') (fun e => by have e' : mb = w1.heap.size := e; omega)).ghost ?_
    rw [mput_none hf, mput_none hf]; simp [FileG.ptr]
  have hT := hd.table.add_file hf s3 m3 hf' hown (by rw [hu2]; omega)
  have hdb : ¬ At mb db := fun e => by
    obtain ⟨es, c, hm, _⟩ := hd.table.map
    have := hd.blk
    cases e
    rw [hm] at this; cases this
  refine ⟨_, ⟨s3.keep hd.blk hdb, hT, hd.cap0, hcap1, by rw [hu2]; omega⟩, ?_, ?_, ?_⟩
  · rw [view_mput]
    unfold vapp vget
    rw [mget_view, hf]; rfl
  · exact (h01.mono (fun _ h => h.elim)).trans' (s3.mono fun k hk => .inr (.inl hk))
  · rintro k (rfl | hk)
    · exact .inl (.inl rfl)
    · rcases foot_add hown k hk with h | h
      · exact .inl (.inr h)
      · exact .inr (Nat.le_trans h01.size h)
set_option maxRecDepth 100000 in
theorem f7_none (db mb : Nat) (cap : Int) (fs : Files) (name : ByteArray) (bv : Value) (l : List UInt8) (w : World) {F : Nat → Prop} (hok : StrOk name) (hb : Rd Rep.u8 w F bv l) (h : DiskAt w db mb cap fs) (hE : appE (view fs) cap name l.length = 0) (hfit : (used fs : Int) + l.length ≤ cap) (hn : okName name = true) (hf : mget fs name = none) (hFm : ∀ k, F k → k ≠ mb) :
    Calls Try.prog 7 #[.pointer (some ⟨db, 0, none⟩), .string name, bv] w (AppPost db mb cap fs name l w) := by
  have hm := hb.le
  obtain ⟨A, c, rfl, hc, _, _⟩ := hb.slice
  unfold maxLen at hm
  have c0 := blk_cell h.blk 0
  have c1 := blk_cell h.blk 1
  simp only [List.getElem?_toArray, List.getElem?_cons_zero, List.getElem?_cons_succ] at c0 c1
  have hcap0 := h.cap0
  have hcap1 := h.cap1
  have hu : used fs ≤ 1073741824 := h.table.room
  have HB := Hd.mk hb
  have HD := Hd.mk h
  have HE := Hd.mk hE
  have HF := Hd.mk hf
  have HE2 : Hd ((l.length : Int) ≤ cap - used fs) := ⟨by omega⟩
  have HN := Hd.mk hn
  clear hb h hE hn hf
  · skip
    go_enter Try.func7, Try.ntmps7
    go_wp2_with (go_at_call 28; refine (f28_any _ _ hok).mono ?_; rw [HN.out]; rintro e w' ⟨rfl, hs⟩; refine Stop.back ?_)
    have c0' := hs.cell c0 (fun h => h)
    have c1' := hs.cell c1 (fun h => h)
    have HS := Hd.mk hs
    have HT : Hd (TableAt w' mb fs) := ⟨HD.out.table.step hs (fun _ _ h => h)⟩
    clear hs c0 c1
    refine Stop.go ?_
    go_wp2_with fail
    have hlt := decide_eq_false (Int.not_lt.2 HE2.out)
    have hw : IntKind.i64.wrap (cap - ↑(used fs)) = cap - ↑(used fs) := IntWalk.i64_in _ (by omega)
    go_region_held3 (fun W => W.cell? ⟨db, 0, none⟩ = some (.map (some mb)) ∧ W.cell? ⟨db, 1, none⟩ = some (.int .i64 cap) ∧ Step No w' W) ((refine ⟨?_, ?_, ?_⟩ <;> first | assumption | (simp only [World.cell?_drew]; assumption) | exact Step.drew No _)) (first | (go_at_call 20; refine (f20_any mb fs _ ?_).mono ?_; (refine HT.out.step ?_ (fun _ _ h => h); first | assumption | exact Step.drew No _); rintro e w1 ⟨rfl, hs⟩; have k0 := hs.cell (p := ⟨db, 0, none⟩) (by assumption) (fun h => h); have k1 := hs.cell (p := ⟨db, 1, none⟩) (by assumption) (fun h => h); have k2 : Step No w' w1 := (by refine Step.trans' ?_ hs; first | assumption | exact Step.drew No _)))
    have HK : Hd (Step No w w1) := ⟨HS.out.trans' k2⟩
    have HD1 : Hd (DiskAt w1 db mb cap fs) := ⟨HD.out.step HK.out (fun _ _ h => h)⟩
    have HB1 : Hd (Rd Rep.u8 w1 F (.slice A l.length c) l) := ⟨HB.out.stepNo HK.out⟩
    clear hs k2 c0' c1' hlt hw
    have hz69 := zero69
    have hcd : ∀ O, (w1.alloc O).cell? ⟨db, 0, none⟩ = some (.map (some mb)) := fun O => (Step.alloc No w1 O).cell k0 (fun h => h)
    go_wp2_with (first | (at_lookup; refine wp_look_none rfl _ _ 55 67 rfl Try.underlying55 law9 str_inj rfl name rfl HD1.out.table.map (keyV9 hok) _ (zero67 _) HF.out ?_) | (at_mapUpdate; refine Stop.back ?_) | (at_builtin; refine Stop.back ?_))
    refine Stop.go (wp_update (vv := FileG.ptr) rfl _ _ _ 55 67 rfl Try.underlying55 law9 str_inj rfl name rfl ⟨w1.heap.size, .slice none 0 0, [], 0⟩ rfl (HD1.out.table.map.step (Step.alloc No _ _) (fun h => h)) (keyV9 hok) ?_)
    intro w2 m2 s2 z2
    have hltm := HD1.out.table.map.lt
    have hb1 : (w1.alloc (.cells #[.slice none 0 0, .int .i64 0] 69)).heap[w1.heap.size]? = some (.cells #[.slice none 0 0, .int .i64 0] 69 (0, 0)) := blk_new _ _
    have hb2 := s2.keep hb1 (fun e => by cases e; omega)
    have cn := blk_cell hb2 0
    simp only [List.getElem?_toArray, List.getElem?_cons_zero] at cn
    have HB2 := Hd.mk hb2
    have HM2 := Hd.mk m2
    have HS2 := Hd.mk s2
    have HZ2 := Hd.mk z2
    clear hb1 hb2 m2 s2 z2 hltm
    refine Stop.go ?_
    go_wp2_with (first | (at_builtin; refine Stop.back ?_))
    have hB2 : Rd Rep.u8 w2 F (.slice A l.length c) l := HB1.out.step ((Step.alloc (At mb) w1 _).trans' HS2.out) (fun k hk e => hFm k hk e)
    refine Stop.go (wp_append rfl _ _ 32 5 rfl (.int .u8 0) 1 1 Try.underlying32 info5 rfl (by decide) _ _ _ rfl (RowAt.nil _ _ _) A l.length c (l.map u8) rfl (by simp) hB2.nilc hB2.cells (u8_one l) (by unfold maxLen; omega) (by omega) ?_)
    intro v' w3 k1 k2 _ k4
    have k2' : Step No w2 w3 := k2.mono (fun k h => by cases h)
    have hb3 := k2'.keep HB2.out (fun h => h)
    have cf2 := blk_cell hb3 0
    have ff2 := blk_free hb3 0
    simp only [List.getElem?_toArray, List.getElem?_cons_zero] at cf2
    have HZ : Hd _ := ⟨app_none HD1.out HK.out HF.out hfit HM2.out HS2.out HZ2.out k1 k2 k4⟩
    obtain ⟨A', c', rfl, _⟩ := k1.slice
    clear k1 k2 k4 k2' hb3 cn hB2
    refine Stop.go ?_
    go_wp2
    go_ret
    exact ⟨by rw [HE.out]; rfl, by rw [HE.out, if_pos rfl]; simpa using HZ.out⟩
theorem appE_zero {V : View} {cap : Int} {name : ByteArray} {n : Nat} (h : appE V cap name n = 0) : okName name = true ∧ (vused V : Int) + n ≤ cap := by
  unfold appE at h
  split at h
  · rename_i hn
    refine ⟨hn, ?_⟩
    split at h
    · cases h
    · omega
  · cases h
/-- Append: the contract. F: where the bytes lie; not in the disk. -/
theorem f7_any (db mb : Nat) (cap : Int) (fs : Files) (name : ByteArray) (bv : Value) (l : List UInt8) (w : World) {F : Nat → Prop} (hok : StrOk name) (hb : Rd Rep.u8 w F bv l) (h : DiskAt w db mb cap fs) (hF : ∀ k, F k → ¬ Foot db mb fs k) :
    Calls Try.prog 7 #[.pointer (some ⟨db, 0, none⟩), .string name, bv] w (AppPost db mb cap fs name l w) := by
  by_cases he : appE (view fs) cap name l.length = 0
  · obtain ⟨hn, hfit⟩ := appE_zero he
    rw [← used_view] at hfit
    cases hf : mget fs name with
    | some f => exact f7_some db mb cap fs name bv l w hok hb h he hfit hn f hf
    | none => exact f7_none db mb cap fs name bv l w hok hb h he hfit hn hf (fun k hk e => hF k hk (.inr (.inl e)))
  · exact f7_bad db mb cap fs name bv l w hok hb h he
end Go.Proofs.Ytmflfimenacflaa

/- The walks of Used and find, for a disk whose table reads as a list of files. -/
import Derived.Test.YtmflfimenacflaaD2
set_option linter.unusedVariables false
set_option linter.unusedSimpArgs false
namespace Go.Proofs.Ytmflfimenacflaa
open Go.RowKit Gb
/-- a file: its block, its slice, its bytes, how many are safe -/
structure FileG where
  blk : Nat
  v : Value
  data : List UInt8
  safe : Nat
def FileG.ptr (f : FileG) : Value := .pointer (some ⟨f.blk, 0, none⟩)
structure FileAt (w : World) (f : FileG) : Prop where
  blk : w.heap[f.blk]? = some (.cells #[f.v, .int .i64 (f.safe : Int)] 69 (0, 0))
  own : RowAt w 5 1 f.v f.data.length (f.data.map u8)
  safe : f.safe ≤ f.data.length
abbrev Files := List (ByteArray × FileG)
abbrev FMap (w : World) (mb : Nat) (fs : Files) : Prop := MapAt Try.prog 9 Value.string FileG.ptr w mb fs
def Owns (f : FileG) (k : Nat) : Prop := k = f.blk ∨ Own f.v k
structure TableAt (w : World) (mb : Nat) (fs : Files) : Prop where
  map : FMap w mb fs
  file : ∀ p ∈ fs, FileAt w p.2
  apart : fs.Pairwise (fun p q => ∀ k, Owns p.2 k → ¬ Owns q.2 k)
  room : (fs.map (fun p => p.2.data.length)).sum ≤ 1073741824
def used (fs : Files) : Nat := (fs.map (fun p => p.2.data.length)).sum
def FootT (mb : Nat) (fs : Files) (k : Nat) : Prop := k = mb ∨ ∃ p ∈ fs, Owns p.2 k
structure DiskAt (w : World) (db mb : Nat) (cap : Int) (fs : Files) : Prop where
  blk : w.heap[db]? = some (.cells #[.map (some mb), .int .i64 cap] 57 (0, 0))
  table : TableAt w mb fs
  cap0 : 0 ≤ cap
  cap1 : cap ≤ 1073741824
  fits : (used fs : Int) ≤ cap
def Foot (db mb : Nat) (fs : Files) (k : Nat) : Prop := k = db ∨ FootT mb fs k
theorem str_inj (a b : ByteArray) (h : Value.string a = Value.string b) : a = b := by cases h; rfl
theorem law9 : Maps.Keyed Try.prog 9 := Maps.string_keyed Try.underlying9
theorem zero67 (w : World) : (zeroValue 67).run Try.prog w = .ok (.pointer none) w := by kernel_rfl
theorem FileAt.step {S : Nat → Prop} {w w' : World} {f : FileG} (h : FileAt w f) (hs : Step S w w') (hn : ∀ k, Owns f k → ¬ S k) : FileAt w' f :=
  ⟨hs.keep h.blk (hn _ (.inl rfl)), h.own.step hs (fun k hk => hn k (.inr hk)), h.safe⟩
theorem TableAt.step {S : Nat → Prop} {w w' : World} {mb : Nat} {fs : Files} (h : TableAt w mb fs) (hs : Step S w w') (hn : ∀ k, FootT mb fs k → ¬ S k) : TableAt w' mb fs :=
  ⟨h.map.step hs (hn _ (.inl rfl)), fun p hp => (h.file p hp).step hs (fun k hk => hn k (.inr ⟨p, hp, hk⟩)), h.apart, h.room⟩
theorem DiskAt.step {S : Nat → Prop} {w w' : World} {db mb : Nat} {cap : Int} {fs : Files} (h : DiskAt w db mb cap fs) (hs : Step S w w') (hn : ∀ k, Foot db mb fs k → ¬ S k) : DiskAt w' db mb cap fs :=
  ⟨hs.keep h.blk (hn _ (.inl rfl)), h.table.step hs (fun k hk => hn k (.inr hk)), h.cap0, h.cap1, h.fits⟩
theorem FileAt.lt {w : World} {f : FileG} (h : FileAt w f) {k : Nat} (hk : Owns f k) : k < w.heap.size := by
  rcases hk with rfl | hk
  · exact lt_of_blk h.blk
  · exact h.own.lt hk
theorem TableAt.lt {w : World} {mb : Nat} {fs : Files} (h : TableAt w mb fs) {k : Nat} (hk : FootT mb fs k) : k < w.heap.size := by
  rcases hk with rfl | ⟨p, hp, hk⟩
  · exact h.map.lt
  · exact (h.file p hp).lt hk
theorem DiskAt.lt {w : World} {db mb : Nat} {cap : Int} {fs : Files} (h : DiskAt w db mb cap fs) {k : Nat} (hk : Foot db mb fs k) : k < w.heap.size := by
  rcases hk with rfl | hk
  · exact lt_of_blk h.blk
  · exact h.table.lt hk

theorem f6_bad (c : Int) (w : World) (hc : c < 0 ∨ 1073741824 < c) :
    Calls Try.prog 6 #[.int .i64 c] w fun e w' => e = .returned (.tuple #[.pointer none, .int .i64 32]) ∧ w = w' := by
  have hmm := @run_makeMap Try.prog
  rcases hc with h | h
  · go_enter Try.func6, Try.ntmps6
    go_wp2
    go_ret2
    exact ⟨rfl, rfl⟩
  · have h' : ¬ c < 0 := by omega
    go_enter Try.func6, Try.ntmps6
    go_wp2
    go_ret2
    exact ⟨rfl, rfl⟩
theorem f6_good (c : Int) (w : World) (h0 : 0 ≤ c) (h1 : c ≤ 1073741824) :
    Calls Try.prog 6 #[.int .i64 c] w fun e w' => e = .returned (.tuple #[.pointer (some ⟨w.heap.size + 1, 0, none⟩), .int .i64 0]) ∧ DiskAt w' (w.heap.size + 1) w.heap.size c [] ∧ Step No w w' ∧ w'.heap.size = w.heap.size + 2 := by
  have hmm := @run_makeMap Try.prog
  go_enter Try.func6, Try.ntmps6
  go_wp2
  go_ret2
  refine ⟨rfl, ⟨?_, ⟨?_, by simp, by simp, by simp⟩, h0, h1, by simpa [used] using h0⟩, (Step.alloc No w _).trans' (Step.alloc No _ _), by simp⟩
  · have := blk_new (w.alloc (.map #[] 0)) (.cells #[.map (some w.heap.size), .int .i64 c] 57)
    simpa using this
  · exact (MapAt.made _ _ _ _ w).step (Step.alloc No _ _) (fun h => h)

/-- the bytes of those entries that are still to come -/
theorem used_filter (fs : Files) (hn : (fs.map Prod.fst).Nodup) (x : ByteArray × FileG) (hx : x ∈ fs) : used fs = x.2.data.length + used (mdel fs x.1) := by
  unfold mdel
  induction fs with
  | nil => cases hx
  | cons q m ih =>
    simp only [List.map_cons, List.nodup_cons] at hn
    rcases List.mem_cons.1 hx with rfl | hx
    · have : m.filter (fun p => p.1 ≠ x.1) = m := List.filter_eq_self.2 fun p hp => by
        have : p.1 ≠ x.1 := fun e => hn.1 (e ▸ List.mem_map.2 ⟨p, hp, rfl⟩)
        simpa using this
      rw [List.filter_cons_of_neg (by simp), this]
      simp [used]
    · have hne : q.1 ≠ x.1 := fun e => hn.1 (e ▸ List.mem_map.2 ⟨x, hx, rfl⟩)
      rw [List.filter_cons_of_pos (by simpa using hne)]
      have := ih hn.2 hx
      simp only [used, List.map_cons, List.sum_cons] at this ⊢
      omega
set_option maxHeartbeats 400000 in
theorem f20_any (mb : Nat) (fs : Files) (w : World) (h : TableAt w mb fs) :
    Calls Try.prog 20 #[.map (some mb)] w fun e w' => e = .returned (.int .i64 (used fs)) ∧ Step No w w' := by
  have hroom : used fs ≤ 1073741824 := h.room
  have hN := Hd.mk h.map.nodup
  have HT := Hd.mk h
  clear h
  go_enter Try.func20, Try.ntmps20
  go_wp2_with (first | (at_range; refine wp_range rfl _ _ _ rfl Try.underlying55 rfl HT.out.map ?_; intro w0 hrg hst _))
  have HR := Hd.mk hrg
  have HS := Hd.mk hst
  clear hrg hst
  refine Stop.go ?_
  go_wp2_with fail
  go_loopg [3] fs.length (fun kq n wr => ∃ left last, RangeAt Try.prog 9 Value.string FileG.ptr wr mb w.heap.size fs left last ∧ Hd (left.length = kq) ∧ Hd (Step No w wr) ∧ used left ≤ used fs ∧ n = .int .i64 ((used fs : Int) - used left) ∧ Hd ((left.map Prod.fst).Nodup))
  case atStart => exact ⟨fs, none, HR.out, ⟨rfl⟩, HS, Nat.le_refl _, by go_num, hN⟩
  case round =>
    obtain ⟨left, last, hrg, HL, HST, hle, rfl, HND⟩ := hrel
    have HR1 := Hd.mk hrg
    clear hrg
    go_wp2_with (first | (at_next; refine wp_next rfl _ rfl str_inj rfl HR1.out ?_ ?_; intro h0; rotate_left; intro x w1 hx hrg1 hs1 hz1; rotate_left))
    · have H0 := Hd.mk h0
      clear h0
      refine Stop.go ?_
      go_wp2
      go_ret
      refine ⟨ret_int ?_, HST.out⟩
      simp [used]
    · have hen := hrg1.entry
      have hxf := HR1.out.sub x hx
      have hst1 := HST.out.trans hs1 (fun k hk hlt => by cases hk; omega)
      have hcell := blk_cell ((HT.out.file x hxf).step hst1 (fun _ _ h => h)).blk 0
      have hu := used_filter left HND.out x hx
      have hul : x.2.data.length ≤ used left := by omega
      have hdl : x.2.v = x.2.v := rfl
      obtain ⟨A, c, hv, _⟩ := (HT.out.file x hxf).own.slice
      rw [hv] at hcell
      simp only [List.getElem?_toArray, List.getElem?_cons_zero] at hcell
      have HX := Hd.mk hx
      have HR2 := Hd.mk hrg1
      have HS2 := Hd.mk hst1
      have HU := Hd.mk hu
      clear hx hrg1 hs1 hz1 hxf hst1 hu hv hdl
      unfold FileG.ptr at hen ⊢
      refine Stop.go ?_
      go_wp2
      go_roundg (mdel left x.1).length
      case measure =>
        rw [← HL.out]
        exact mdel_length HX.out
      case rel =>
        have h1 := HU.out
        refine ⟨_, _, HR2.out, ⟨rfl⟩, HS2, by omega, ?_, ⟨mdel_nodup HND.out _⟩⟩
        congr 1; omega
end Go.Proofs.Ytmflfimenacflaa

/- The state of the law DiskPlays: both disks in one memory; what each pair of calls leaves. -/
import Derived.Test.YtmflfimenacflaaR17
set_option linter.unusedVariables false
set_option linter.unusedSimpArgs false
namespace Go.Proofs.Ytmflfimenacflaa
open Go Go.RowKit Gb
structure PState (w : World) (db mb xb : Nat) (c : Int) (n : Nat) (wr : World) (fs : Files) (sv : Value) (rs : List RF) : Prop where
  both : Both w db mb xb c wr fs sv rs
  cpl : Cpl rs (view fs)
  ok : VOk (view fs)
  few : fs.length ≤ n
theorem PState.rfew {w : World} {db mb xb : Nat} {c : Int} {n : Nat} {wr : World} {fs : Files} {sv : Value} {rs : List RF} (h : PState w db mb xb c n wr fs sv rs) : rs.length ≤ n := by
  have := h.cpl.length
  have := h.few
  simp [view] at *
  omega
theorem PState.no {w : World} {db mb xb : Nat} {c : Int} {n : Nat} {wr W : World} {fs : Files} {sv : Value} {rs : List RF} (h : PState w db mb xb c n wr fs sv rs) (hs : Step No wr W) : PState w db mb xb c n W fs sv rs :=
  ⟨h.both.no hs, h.cpl, h.ok, h.few⟩
theorem PState.off {w : World} {db mb xb : Nat} {c : Int} {n : Nat} {wr W : World} {fs : Files} {sv : Value} {rs : List RF} {S : Nat → Prop} (h : PState w db mb xb c n wr fs sv rs) (hs : Step S wr W) (h1 : ∀ k, S k → ¬ Foot db mb fs k) (h2 : ∀ k, S k → ¬ RFoot xb sv rs k) (h3 : ∀ k, S k → w.heap.size ≤ k) : PState w db mb xb c n W fs sv rs :=
  ⟨⟨h.both.disk.step hs (fun k hk hS => h1 k hS hk), h.both.ref.step hs (fun k hk hS => h2 k hS hk), h.both.dOwn, h.both.rOwn, h.both.apart, h.both.step.trans hs (fun i hi hlt => by have := h3 i hi; omega)⟩, h.cpl, h.ok, h.few⟩
/-- behind the disk's call, ahead of the document's -/
def Mid (w : World) (db mb xb : Nat) (c : Int) (sv : Value) (rs : List RF) (V' : View) (K : Nat → Prop) (W0 W : World) : Prop :=
  (∃ fs', view fs' = V' ∧ Both w db mb xb c W fs' sv rs ∧ ∀ b, K b → ¬ Foot db mb fs' b) ∧ ∀ b, K b → W.heap[b]? = W0.heap[b]?
/-- behind both -/
def Fin (w : World) (db mb xb : Nat) (c : Int) (n : Nat) (K : Nat → Prop) (W0 W : World) : Prop :=
  (∃ fs' sv' rs', PState w db mb xb c n W fs' sv' rs' ∧ ∀ b, K b → ¬ Foot db mb fs' b ∧ ¬ RFoot xb sv' rs' b) ∧ ∀ b, K b → W.heap[b]? = W0.heap[b]?
/-- blocks that are new since wo, in W0 -/
def New (K : Nat → Prop) (wo W0 : World) : Prop := ∀ b, K b → wo.heap.size ≤ b ∧ b < W0.heap.size
section
variable {w wo W0 W W' : World} {db mb xb k : Nat} {c : Int} {fs : Files} {sv : Value} {rs : List RF} {K : Nat → Prop}
theorem mid_of {V' : View} (h : PState w db mb xb c k wo fs sv rs) (h0 : Step No wo W0) (hK : New K wo W0) (hW : Step No W0 W) (hp : DiskPost db mb c fs W W' V') : Mid w db mb xb c sv rs V' K W0 W' := by
  obtain ⟨fs', hd, hv, hs, hf⟩ := hp
  obtain ⟨fs2, hv2, hb⟩ := (h.both.no (h0.trans' hW)).toDisk (V' := V') ⟨fs', hd, hv, hs, hf⟩
  have hnf : ∀ b, K b → ¬ Foot db mb fs b := fun b hb hf => by
    have := (hK b hb).1
    have := h.both.disk.lt hf
    omega
  refine ⟨⟨fs', hv, ?_, fun b hb hf' => ?_⟩, fun b hb => ?_⟩
  · have := (h.both.no (h0.trans' hW))
    exact ⟨hd, this.ref.step hs (fun j hj hF => h.both.apart j hF hj), fun j hj => by
      rcases hf j hj with h1 | h1
      · exact h.both.dOwn j h1
      · exact Nat.le_trans (this.step.size) h1, h.both.rOwn, fun j hj hr => by
      rcases hf j hj with h1 | h1
      · exact h.both.apart j h1 hr
      · have := this.ref.lt hr; omega, this.step.trans hs (fun i hi hlt => by have := h.both.dOwn i hi; omega)⟩
  · rcases hf b hf' with h1 | h1
    · exact hnf b hb h1
    · have := (hK b hb).2
      have := hW.size
      omega
  · have hb2 := (hK b hb).2
    rw [hs.block b (Nat.lt_of_lt_of_le hb2 hW.size) (hnf b hb), hW.block b hb2 (fun h => h)]
theorem fin_of {V' : View} {p : List RF → Prop} {n' : Nat} (h : PState w db mb xb c k wo fs sv rs) (hK : New K wo W0) (hW0 : W0.heap.size ≤ W.heap.size) (hm : Mid w db mb xb c sv rs V' K W0 W) (hp : RPost xb c sv rs W W' p) (hc : ∀ rs', p rs' → Cpl rs' V') (hok : VOk V') (hl : V'.length ≤ n') : Fin w db mb xb c n' K W0 W' := by
  obtain ⟨⟨fs', hv, hb, hnf⟩, hk⟩ := hm
  obtain ⟨sv', rs', hr, hs, hf, hp⟩ := hp
  have hnr : ∀ b, K b → ¬ RFoot xb sv rs b := fun b hb hf => by
    have := (hK b hb).1
    have := h.both.ref.lt hf
    omega
  refine ⟨⟨fs', sv', rs', ⟨⟨hb.disk.step hs (fun j hj hF => hb.apart j hj hF), hr, hb.dOwn, fun j hj => ?_, fun j hj hr' => ?_, hb.step.trans hs (fun i hi hlt => by have := hb.rOwn i hi; omega)⟩, by rw [hv]; exact hc rs' hp, by rw [hv]; exact hok, by have h9 : (view fs').length = fs'.length := (by simp [view]); rw [← h9, hv]; exact hl⟩, fun b hb2 => ⟨hnf b hb2, fun hr' => ?_⟩⟩, fun b hb2 => ?_⟩
  · rcases hf j hj with h1 | h1
    · exact hb.rOwn j h1
    · exact Nat.le_trans hb.step.size h1
  · rcases hf j hr' with h1 | h1
    · exact hb.apart j hj h1
    · have := hb.disk.lt hj; omega
  · rcases hf b hr' with h1 | h1
    · exact hnr b hb2 h1
    · have := (hK b hb2).2; omega
  · have hb3 := (hK b hb2).2
    rw [hs.block b (by omega) (hnr b hb2), hk b hb2]
/-- two calls, the disk's and the document's: what they answer is one number, and they leave both disks alike -/
def Pair (w W0 : World) (db mb xb : Nat) (c : Int) (n : Nat) (sv : Value) (rs : List RF) (K : Nat → Prop) (F1 F2 : FuncId) (a1 a2 : Array Value) : Prop :=
  ∃ ev V', (∀ W, Step No W0 W → Calls Try.prog F1 a1 W fun e w' => e = .returned (.int .i64 ev) ∧ Mid w db mb xb c sv rs V' K W0 w' ∧ W0.heap.size ≤ w'.heap.size) ∧
    (∀ W, Mid w db mb xb c sv rs V' K W0 W → W0.heap.size ≤ W.heap.size → Calls Try.prog F2 a2 W fun e w' => e = .returned (.int .i64 ev) ∧ Fin w db mb xb c n K W0 w')
theorem post_size {V' : View} (hp : DiskPost db mb c fs W W' V') : W.heap.size ≤ W'.heap.size := by
  obtain ⟨_, _, _, hs, _⟩ := hp
  exact hs.size
theorem pair_sync (h : PState w db mb xb c k wo fs sv rs) (h0 : Step No wo W0) (hK : New K wo W0) {v : Value} {l : List ByteArray} (hl : l.length * 8 ≤ 140737488355328) (hv : Rd Rep.str w (fun k => k < w.heap.size) v l) :
    Pair w W0 db mb xb c (k + 1) sv rs K 15 21 #[.pointer (some ⟨db, 0, none⟩), v] #[.pointer (some ⟨xb, 0, none⟩), v] := by
  have hnod : ((view fs).map Prod.fst).Nodup := h.ok.2
  have hvl : (view fs).length ≤ k := by have := h.few; simpa [view] using this
  have hall := all_same h.cpl hnod l
  have hfe := vfindE_view fs l
  refine ⟨findE fs l, if findE fs l = 0 then vsyncs (view fs) l else view fs, fun W hW => ?_, fun W hm hsz => ?_⟩
  · have hb := h.both.no (h0.trans' hW)
    refine (f15_any db mb c fs v l W (hv.stepNo hb.step) hb.disk hl).mono ?_
    rintro e w' ⟨rfl, hp⟩
    exact ⟨rfl, mid_of h h0 hK hW hp, Nat.le_trans hW.size (post_size hp)⟩
  · obtain ⟨⟨fs', _, hb, _⟩, _⟩ := id hm
    refine (f21_any xb c sv rs v l W hb.ref (hv.stepNo hb.step) (fun j hj ho => by have := hb.rOwn j (.inr (.inl ho)); omega)).mono ?_
    rintro e w' ⟨rfl, hp⟩
    refine ⟨by rw [hall, hfe], fin_of h hK hsz hm hp (fun rs' hr => ?_) ?_ ?_⟩
    · have hr' : rs' = if rallE rs l = 0 then rsyncs rs l else rs := hr
      rw [hr', hall, hfe]
      split
      · exact h.cpl.syncs hnod l
      · exact h.cpl
    · split
      · exact h.ok.syncs _
      · exact h.ok
    · split
      · rw [len_vsyncs]; omega
      · omega
theorem pair_ren (h : PState w db mb xb c k wo fs sv rs) (h0 : Step No wo W0) (hK : New K wo W0) (hk : k ≤ 1300000000000) {a b : ByteArray} (ha : StrOk a) (hb' : StrOk b) :
    Pair w W0 db mb xb c (k + 1) sv rs K 16 22 #[.pointer (some ⟨db, 0, none⟩), .string a, .string b] #[.pointer (some ⟨xb, 0, none⟩), .string a, .string b] := by
  have hnod : ((view fs).map Prod.fst).Nodup := h.ok.2
  have hvl : (view fs).length ≤ k := by have := h.few; simpa [view] using this
  have hrs := ren_same h.cpl hnod a b
  refine ⟨renE (view fs) a b, if renE (view fs) a b = 0 then vren (view fs) a b else view fs, fun W hW => ?_, fun W hm hsz => ?_⟩
  · have hb := h.both.no (h0.trans' hW)
    refine (f16_any db mb c fs a b W ha hb' hb.disk).mono ?_
    rintro e w' ⟨rfl, hp⟩
    exact ⟨rfl, mid_of h h0 hK hW hp, Nat.le_trans hW.size (post_size hp)⟩
  · obtain ⟨⟨fs', _, hb, _⟩, _⟩ := id hm
    refine (f22_any xb c sv rs a b W ha hb' hb.ref (Nat.le_trans h.rfew hk)).mono ?_
    rintro e w' ⟨rfl, hp⟩
    refine ⟨by rw [hrs], fin_of h hK hsz hm hp (fun rs' hr => ?_) ?_ ?_⟩
    · rw [hr, hrs]
      split
      · rename_i h0
        refine h.cpl.ren hnod ?_
        rw [← hrs] at h0
        unfold rrenE at h0
        by_cases hl : rplace rs a < rs.length
        · exact hl
        · exfalso
          have : rhas rs a = false := decide_eq_false hl
          rw [this] at h0
          split at h0 <;> simp at h0
      · exact h.cpl
    · split
      · rename_i he; exact h.ok.ren (renE_ok he)
      · exact h.ok
    · split
      · refine Nat.le_trans (len_mput_le _ _ _) (Nat.succ_le_succ ?_)
        exact Nat.le_trans (List.Sublist.length_le (mdel_sub _ _)) hvl
      · omega
theorem pair_rem (h : PState w db mb xb c k wo fs sv rs) (h0 : Step No wo W0) (hK : New K wo W0) (hk : k ≤ 1300000000000) {v : Value} {l : List ByteArray} (hl : l.length * 8 ≤ 140737488355328) (hv : Rd Rep.str w (fun k => k < w.heap.size) v l) :
    Pair w W0 db mb xb c (k + 1) sv rs K 17 23 #[.pointer (some ⟨db, 0, none⟩), v] #[.pointer (some ⟨xb, 0, none⟩), v] := by
  have hnod : ((view fs).map Prod.fst).Nodup := h.ok.2
  have hvl : (view fs).length ≤ k := by have := h.few; simpa [view] using this
  have hall := all_same h.cpl hnod l
  have hfe := vfindE_view fs l
  refine ⟨findE fs l, if findE fs l = 0 then vdels (view fs) l else view fs, fun W hW => ?_, fun W hm hsz => ?_⟩
  · have hb := h.both.no (h0.trans' hW)
    refine (f17_any db mb c fs v l W (hv.stepNo hb.step) hb.disk hl (fun j hj e => by have := h.both.dOwn mb (.inr (.inl rfl)); omega)).mono ?_
    rintro e w' ⟨rfl, hp⟩
    exact ⟨rfl, mid_of h h0 hK hW hp, Nat.le_trans hW.size (post_size hp)⟩
  · obtain ⟨⟨fs', _, hb, _⟩, _⟩ := id hm
    refine (f23_any xb c sv rs v l W hb.ref (hv.stepNo hb.step) (fun j hj e => by have := hb.rOwn xb (.inl rfl); omega) (Nat.le_trans h.rfew hk)).mono ?_
    rintro e w' ⟨rfl, hp⟩
    refine ⟨by rw [hall, hfe], fin_of h hK hsz hm hp (fun rs' hr => ?_) ?_ ?_⟩
    · have hr' : rs' = if rallE rs l = 0 then rdels rs l else rs := hr
      rw [hr', hall, hfe]
      split
      · exact h.cpl.dels hnod l
      · exact h.cpl
    · split
      · exact h.ok.dels _
      · exact h.ok
    · split
      · have := len_vdels (view fs) l; omega
      · omega
/-- Append: the disk is handed a copy, the document the bytes themselves -/
theorem pair_app (h : PState w db mb xb c k wo fs sv rs) (h0 : Step No wo W0) (hK : New K wo W0) (hk : k ≤ 1300000000000) {a : ByteArray} (ha : StrOk a) {v vc : Value} {l : List UInt8} (hl : l.length ≤ 140737488355328) (hv : Rd Rep.u8 w (fun k => k < w.heap.size) v l)
    (hvc : RowAt W0 5 1 vc l.length (l.map Gb.u8)) (hfr : ∀ j, Own vc j → wo.heap.size ≤ j) :
    Pair w W0 db mb xb c (k + 1) sv rs K 7 8 #[.pointer (some ⟨db, 0, none⟩), .string a, vc] #[.pointer (some ⟨xb, 0, none⟩), .string a, v] := by
  have hnod : ((view fs).map Prod.fst).Nodup := h.ok.2
  have hvl : (view fs).length ≤ k := by have := h.few; simpa [view] using this
  have has := app_same h.cpl c a l.length
  refine ⟨appE (view fs) c a l.length, if appE (view fs) c a l.length = 0 then vapp (view fs) a l else view fs, fun W hW => ?_, fun W hm hsz => ?_⟩
  · have hb := h.both.no (h0.trans' hW)
    refine (f7_any (F := Own vc) db mb c fs a vc l W ha (Rd.of_row (hvc.stepNo hW) (fun _ h => h) (fun _ _ => trivial)) hb.disk (fun j hj hf => by
      have := hfr j hj
      have := h.both.disk.lt hf
      omega)).mono ?_
    rintro e w' ⟨rfl, hp⟩
    exact ⟨rfl, mid_of h h0 hK hW hp, Nat.le_trans hW.size (post_size hp)⟩
  · obtain ⟨⟨fs', _, hb, _⟩, _⟩ := id hm
    refine (f8_any xb c sv rs a v l W ha hb.ref (Nat.le_trans h.rfew hk) ((hv.stepNo hb.step).mono (fun j hj => Nat.lt_of_lt_of_le hj hb.step.size)) hl).mono ?_
    rintro e w' ⟨rfl, hp⟩
    refine ⟨by rw [has], fin_of h hK hsz hm hp (fun rs' hr => h.cpl.appP hnod hr) ?_ ?_⟩
    · split
      · rename_i he; exact h.ok.app (appE_ok he) _
      · exact h.ok
    · split
      · exact Nat.le_trans (len_mput_le _ _ _) (Nat.succ_le_succ hvl)
      · omega
/-- Crash -/
theorem crash_disk (h : PState w db mb xb c k wo fs sv rs) (h0 : Step No wo W0) (hK : New K wo W0) (hk : k ≤ 1300000000000) {vc : Value} {l : List Int} (hvc : RowAt W0 3 1 vc l.length (l.map (Value.int .i64))) (hi : ∀ x ∈ l, I64 x) (hfr : ∀ j, Own vc j → wo.heap.size ≤ j) (hKW : Step No W0 W) :
    Calls Try.prog 18 #[.pointer (some ⟨db, 0, none⟩), vc] W fun e w' => e = .returned (.tuple #[]) ∧ Mid w db mb xb c sv rs (vcrs (view fs) l (snames (view fs))).1 K W0 w' ∧ W0.heap.size ≤ w'.heap.size := by
  have hb := h.both.no (h0.trans' hKW)
  refine (f18_any (F := Own vc) db mb c fs vc l W (Rd.of_row (hvc.stepNo hKW) (fun _ h => h) hi) hb.disk (by have := h.few; omega) (fun j hj hf => by
    have := hfr j hj
    have := h.both.disk.lt hf
    omega)).mono ?_
  rintro e w' ⟨rfl, hp⟩
  exact ⟨rfl, mid_of h h0 hK hKW hp, Nat.le_trans hKW.size (post_size hp)⟩
theorem crash_ref (h : PState w db mb xb c k wo fs sv rs) (hK : New K wo W0) (hk : k ≤ 1300000000000) {v : Value} {l : List Int} (hv : Rd Rep.int w (fun k => k < w.heap.size) v l) (hm : Mid w db mb xb c sv rs (vcrs (view fs) l (snames (view fs))).1 K W0 W) (hsz : W0.heap.size ≤ W.heap.size) :
    Calls Try.prog 25 #[.pointer (some ⟨xb, 0, none⟩), v] W fun e w' => e = .returned (.tuple #[]) ∧ Fin w db mb xb c (k + 1) K W0 w' := by
  have hvl : (view fs).length ≤ k := by have := h.few; simpa [view] using this
  obtain ⟨⟨fs', _, hb, _⟩, _⟩ := id hm
  refine (f25_any xb c sv rs v l W hb.ref (hv.stepNo hb.step) (fun j hj ho => by have := hb.rOwn j (.inr (.inl ho)); omega) (Nat.le_trans h.rfew hk)).mono ?_
  rintro e w' ⟨rfl, hp⟩
  refine ⟨rfl, fin_of h hK hsz hm hp (fun rs' hr => h.cpl.crash h.ok l hr) (h.ok.crs _ _) (by rw [len_vcrs]; omega)⟩
end
end Go.Proofs.Ytmflfimenacflaa

/- The walks of CopyInts and of the disk's Clone. -/
import Derived.Test.YtmflfimenacflaaR15
import Derived.Laws.CopyOwn
import Derived.Laws.MakeOwn
set_option linter.unusedVariables false
set_option linter.unusedSimpArgs false
namespace Gb
open Go Go.RowKit
/-- copy into a row, elements of one cell -/
theorem wp_copy {P : Program} {w : World} {ops : Array Oper} {rest : List Oper} {o : Oper} {a : Act} {Q : Exit → Act → World → Prop} (hgd : o.guard = none) (d s : Operand) (dT sT e : TypeId)
    (ho : o.op = .call { callee := .builtin .copy, args := #[d, s], argTypes := #[dT, sT] }) (hu : P.underlying dT = some (.slice e)) (hsz : (P.info? e).map (·.size) = some 1)
    (v : Value) (n : Nat) (xs : List Value) (hd : a.eval d = v) (hown : RowAt w e 1 v n xs) (A : Option Addr) (m c : Nat) (hs : a.eval s = .slice A m c) (cs : List Value) (hl : cs.length = Nat.min m n)
    (hA : A = none → m = 0) (hc : ∀ ad, A = some ad → ∀ j u, cs[j]? = some u → w.cell? (ad.add j) = some u) (h1 : ∀ u ∈ cs, u.oneCell' = true)
    (h : ∀ w', RowAt w' e 1 v n (cs ++ xs.drop cs.length) → Step (Own v) w w' → w'.heap.size = w.heap.size → Stop (wpList P ops Q rest (a.put o.dst (.int .i64 (cs.length : Int))) w')) : wpList P ops Q (o :: rest) a w := by
  by_cases h0 : cs.length = 0
  · have hcs : cs = [] := List.eq_nil_of_length_eq_zero h0
    subst hcs
    obtain ⟨A2, c2, rfl, _⟩ := hown.slice
    refine wpList_copy_nothing hgd d s dT sT ho e hu hsz A2 A n c2 m c hd hs (by simpa using hl.symm) ?_
    exact h w (by simpa using hown) (Step.refl _ _) rfl
  · have hmin : Nat.min m n ≤ m ∧ Nat.min m n ≤ n := ⟨Nat.min_le_left _ _, Nat.min_le_right _ _⟩
    cases A with
    | none => have := hA rfl; omega
    | some ad =>
      rcases hown.2 with ⟨_, hn⟩ | ⟨g, cap, cur, rfl, hg, hnc, hcm, hcs, htake⟩
      · omega
      · have hsize : cs.length ≤ cur.size := by omega
        have hxl := hown.1
        refine wpList_copy_own hgd d s dT sT ho e hu hsz g 0 n cap ad m c hd hs cur e hg cs hl (hc ad rfl) (by omega) h1 ?_
        refine h _ ⟨?_, .inr ⟨g, cap, _, rfl, setRow_heap w g cur _ e _ hg, hnc, hcm, ?_, ?_⟩⟩ ⟨rfl, rfl, rfl, by simp [World.setRow], fun k _ hk => setRow_other w g k _ (fun e => hk (by simp [Own, Value.ownBlock, e]))⟩ (by simp [World.setRow])
        · simp only [List.length_append, List.length_drop, hxl]; omega
        · simp only [List.size_toArray, List.length_append, List.length_take, List.length_drop, Array.length_toList]; omega
        · simp only [List.take_zero, List.nil_append, Nat.zero_add]
          rw [List.take_append, List.take_of_length_le (by omega), ← htake, List.drop_take]
/-- make([]T, n), elements of one cell -/
theorem run_make_row {P : Program} (t e : TypeId) (ht : P.underlying t = some (.slice e)) (z : Value) (bytes : Nat) (hi : (P.info? e).map (fun i => (i.zero, i.size, i.bytes)) = some (some z, 1, bytes)) (hz : z.cells = #[z]) (n : Nat) (hb : n * bytes ≤ 281474976710656) (hm : n ≤ maxLen) (W : World) :
    (Instr.makeSlice t (.int .i64 (n : Int)) (.int .i64 (n : Int))).run P W = .ok (.slice (some ⟨W.heap.size, 0, none⟩) n n) (W.alloc (.cells (madeCells #[z] n) e)) := by
  obtain ⟨i, hi', hz0, hz1, hz2⟩ := info_open hi
  have hb' : (i.bytes : Int) * (n : Int) ≤ 281474976710656 := by
    rw [hz2]
    have : ((bytes * n : Nat) : Int) ≤ 281474976710656 := by rw [Nat.mul_comm]; omega
    simpa using this
  have h := run_make (P := P) W t e i z ht hi' hz0 .i64 .i64 (n : Int) (n : Int) (by omega) (Int.le_refl _) hb' (by unfold maxLen at hm; omega)
  simpa [hz1, hz] using h
end Gb
namespace Go.Proofs.Ytmflfimenacflaa
open Go Go.RowKit Gb
theorem info3' : (Try.prog.info? 3).map (fun i => (i.zero, i.size, i.bytes)) = some (some (.int .i64 0), 1, 8) := by kernel_rfl
theorem info3s : (Try.prog.info? 3).map (·.size) = some 1 := by kernel_rfl
theorem int_one (l : List Int) : ∀ u ∈ l.map (Value.int .i64), u.oneCell' = true := by
  intro u hu
  obtain ⟨b, _, rfl⟩ := List.mem_map.1 hu
  rfl
set_option maxRecDepth 100000 in
theorem f24_any (v : Value) (l : List Int) (w : World) {F : Nat → Prop} (h : Rd Rep.int w F v l) (hsz : l.length * 8 ≤ 140737488355328) :
    Calls Try.prog 24 #[v] w fun e w' => ∃ v', e = .returned v' ∧ RowAt w' 3 1 v' l.length (l.map (Value.int .i64)) ∧ Fresh w v' ∧ Step No w w' := by
  have hm := h.le
  obtain ⟨A, c, rfl, hc, _, hA⟩ := h.slice
  have hmk := run_make_row (P := Try.prog) 46 3 Try.underlying46 (.int .i64 0) 8 info3' rfl l.length (by omega) hm
  unfold maxLen at hm
  have hA' := h.nilc
  have HR := Hd.mk h
  have HA := Hd.mk hA'
  clear h hA hA'
  go_enter Try.func24, Try.ntmps24
  have hrow : RowAt (w.alloc (.cells (madeCells #[.int .i64 0] l.length) 3)) 3 1 (.slice (some ⟨w.heap.size, 0, none⟩) l.length l.length) l.length (madeCells #[.int .i64 0] l.length).toList :=
    RowAt.lit w _ 3 l.length (by rw [size_madeCells]; omega) (by unfold maxLen; omega)
  have hcl : ∀ ad, A = some ad → ∀ j u, (l.map (Value.int .i64))[j]? = some u → (w.alloc (.cells (madeCells #[.int .i64 0] l.length) 3)).cell? (ad.add j) = some u := fun ad had j u hu =>
    (Step.alloc No w _).cell (HR.out.cells ad had j u hu) (fun h => h)
  have hln : (l.map (Value.int .i64)).length = Nat.min l.length l.length := by simp
  have HRow := Hd.mk hrow
  have HCl := Hd.mk hcl
  have HLn := Hd.mk hln
  clear hrow hcl hln
  go_upto_region 2 with (fail)
  go_wp2_with (refine wp_copy rfl (.tmp 7) (.tmp 8) 46 46 3 rfl Try.underlying46 info3s _ l.length _ rfl HRow.out A l.length c rfl (l.map (Value.int .i64)) HLn.out (fun e => (HA.out e).2) HCl.out (int_one l) ?_; intro w1 k1 k2 k3)
  have hk : RowAt w1 3 1 (.slice (some ⟨w.heap.size, 0, none⟩) l.length l.length) l.length (l.map (Value.int .i64)) := by
    rw [List.drop_eq_nil_of_le (by rw [Array.length_toList, size_madeCells]; simp), List.append_nil] at k1
    exact k1
  have hs : Step No w w1 := (Step.alloc No w _).trans k2 (fun i hi hlt => by have e : w.heap.size = i := Option.some.inj hi; omega)
  have HK := Hd.mk hk
  have HS := Hd.mk hs
  clear k1 k2 k3 hk hs
  refine Stop.go ?_
  go_wp2
  go_ret
  exact ⟨_, rfl, HK.out, fun k hk => by cases hk; exact Nat.le_refl _, HS.out⟩
theorem RangeAt.it {κ ν : Type} {P : Program} {k : TypeId} {kv : κ → Value} {vv : ν → Value} {w : World} {b r : Nat} {m left : List (κ × ν)} {last : Option (κ × ν)} (h : RangeAt P k kv vv w b r m left last) : ∃ x y z u, w.heap[r]? = some (.mapIter x y z u) := by
  obtain ⟨_, _, _, _, _, _, _, hr, _⟩ := h
  exact ⟨_, _, _, _, hr⟩
theorem TableAt.noIt {w : World} {mb r : Nat} {fs : Files} (h : TableAt w mb fs) (hr : ∃ x y z u, w.heap[r]? = some (.mapIter x y z u)) : ¬ FootT mb fs r := by
  obtain ⟨x, y, z, u, hr⟩ := hr
  rintro (rfl | ⟨p, hp, rfl | hk⟩)
  · obtain ⟨es, clock, hm, _⟩ := h.map
    rw [hm] at hr; cases hr
  · have := (h.file p hp).blk
    rw [this] at hr; cases hr
  · obtain ⟨cs, hc⟩ := (h.file p hp).own.typed hk
    rw [hc] at hr; cases hr
def ClonePost (cap : Int) (fs : Files) (w : World) (e : Ending) (w' : World) : Prop :=
  ∃ db' mb' fs', e = .returned (.pointer (some ⟨db', 0, none⟩)) ∧ DiskAt w' db' mb' cap fs' ∧ (view fs').Perm (view fs) ∧ (∀ k, Foot db' mb' fs' k → w.heap.size ≤ k) ∧ Step No w w'
/-- how far the cloning has come -/
structure CloneK (w : World) (g : Nat) (fs left : Files) (wr : World) (fs' : Files) : Prop where
  step : Step No w wr
  table : TableAt wr g fs'
  perm : (view fs' ++ view left).Perm (view fs)
  foot : ∀ k, FootT g fs' k → w.heap.size ≤ k
theorem view_left {left : Files} (hn : (left.map Prod.fst).Nodup) {x : ByteArray × FileG} (hx : x ∈ left) : (view left).Perm ((x.1, (x.2.data, x.2.safe)) :: view (mdel left x.1)) := by
  have h : left.Perm (x :: mdel left x.1) := by
    induction left with
    | nil => cases hx
    | cons p left ih =>
      simp only [List.map_cons, List.nodup_cons] at hn
      rcases List.mem_cons.1 hx with rfl | hx
      · have : mdel (x :: left) x.1 = left := by
          unfold mdel
          rw [List.filter_cons_of_neg (by simp)]
          exact mdel_none fun q hq e => hn.1 (e ▸ List.mem_map.2 ⟨q, hq, rfl⟩)
        rw [this]
      · have hne : p.1 ≠ x.1 := fun e => hn.1 (e ▸ List.mem_map.2 ⟨x, hx, rfl⟩)
        have : mdel (p :: left) x.1 = p :: mdel left x.1 := by
          unfold mdel
          rw [List.filter_cons_of_pos (by simpa using hne)]
        rw [this]
        exact (List.Perm.cons p (ih hn.2 hx)).trans (List.Perm.swap _ _ _)
  exact h.map _
/-- one file more is cloned -/
theorem CloneK.more {w wr w1 w2 : World} {g : Nat} {fs left fs' : Files} {x : ByteArray × FileG} {v' : Value} (h : CloneK w g fs left wr fs') (hnd : ((view fs).map Prod.fst).Nodup) (hnl : (left.map Prod.fst).Nodup) (hx : x ∈ left) (hroom : vused (view fs) ≤ 1073741824) (hsafe : x.2.safe ≤ x.2.data.length)
    (h1 : Step No wr w1) (hv : RowAt w1 5 1 v' x.2.data.length (x.2.data.map u8)) (hf : Fresh wr v')
    (hs : Step (At g) (w1.alloc (.cells #[v', .int .i64 (x.2.safe : Int)] 69)) w2) (hm : FMap w2 g (mput fs' x.1 ⟨w1.heap.size, v', x.2.data, x.2.safe⟩)) :
    CloneK w g fs (mdel left x.1) w2 (mput fs' x.1 ⟨w1.heap.size, v', x.2.data, x.2.safe⟩) := by
  have hp2 := (List.Perm.append_left (view fs') (view_left hnl hx)).symm.trans h.perm
  have hnone : mget fs' x.1 = none := by
    refine lookup_none fun p hp e => ?_
    have hn2 := (hp2.map Prod.fst).nodup_iff.2 hnd
    rw [List.map_append, List.nodup_append] at hn2
    exact hn2.2.2 p.1 (by rw [view, List.map_map]; exact List.mem_map.2 ⟨p, hp, rfl⟩) x.1 (by simp) e
  have hv2 : view (mput fs' x.1 ⟨w1.heap.size, v', x.2.data, x.2.safe⟩) = view fs' ++ [(x.1, (x.2.data, x.2.safe))] := by
    rw [mput_none hnone]; simp [view]
  have hp3 : (view (mput fs' x.1 ⟨w1.heap.size, v', x.2.data, x.2.safe⟩) ++ view (mdel left x.1)).Perm (view fs) := by
    rw [hv2, List.append_assoc]; exact hp2
  have hgl := h.table.map.lt
  have hsz := h1.size
  have hst : Step (At g) wr w2 := (h1.noTrans (Step.alloc (At g) w1 _)).trans' hs
  have hne : ¬ At g w1.heap.size := fun e => by have e' : w1.heap.size = g := e; omega
  have hv3 : ∀ k, Own v' k → k < w1.heap.size := fun k hk => hv.lt hk
  have hgv : ∀ k, Own v' k → ¬ At g k := fun k hk e => by
    have e' : k = g := e
    subst e'
    obtain ⟨cs, hc⟩ := hv.typed hk
    obtain ⟨es, clock, hmm, _⟩ := h.table.map.step h1 (fun h => h)
    rw [hc] at hmm; cases hmm
  have hfa : FileAt w2 ⟨w1.heap.size, v', x.2.data, x.2.safe⟩ :=
    ⟨hs.keep (blk_new w1 _) hne, (hv.stepNo (Step.alloc _ _ _)).step hs hgv, hsafe⟩
  refine ⟨h.step.trans hst (fun i hi hlt => ?_), ?_, hp3, ?_⟩
  · have e' : i = g := hi
    have := h.foot g (.inl rfl)
    omega
  · refine TableAt.add_file h.table hnone hst hm hfa ?_ ?_
    · rintro k (rfl | hk)
      · exact hsz
      · exact hf k hk
    · rw [used_view]
      have hq := (hp3.map (fun p => p.2.1.length)).sum_nat
      rw [List.map_append, List.sum_append] at hq
      unfold vused at hroom ⊢
      omega
  · intro k hk
    rcases foot_add (n := wr.heap.size) (fun j hj => by
      rcases hj with rfl | hj
      · exact hsz
      · exact hf j hj) k hk with h1 | h1
    · exact h.foot k h1
    · exact Nat.le_trans h.step.size h1
set_option maxHeartbeats 2000000 in
set_option maxRecDepth 100000 in
theorem f26_any (db mb : Nat) (cap : Int) (fs : Files) (w : World) (h : DiskAt w db mb cap fs) :
    Calls Try.prog 26 #[.pointer (some ⟨db, 0, none⟩)] w (ClonePost cap fs w) := by
  have hmm := @run_makeMap Try.prog
  have c0 := blk_cell h.blk 0
  have c1 := blk_cell h.blk 1
  simp only [List.getElem?_toArray, List.getElem?_cons_zero, List.getElem?_cons_succ] at c0 c1
  have e0 : ∀ O, (w.alloc O).cell? ⟨db, 0, none⟩ = some (.map (some mb)) := fun O => (Step.alloc No w O).cell c0 (fun h => h)
  have HD := Hd.mk h
  have hD1 := h.step (Step.alloc No w (.map #[] 0)) (fun _ _ h => h)
  have HD1 := Hd.mk hD1
  clear h hD1
  go_enter Try.func26, Try.ntmps26
  go_wp2_with (first | (at_range; refine wp_range rfl _ _ _ rfl Try.underlying55 rfl HD1.out.table.map ?_; intro w0 hrg hst hz))
  obtain ⟨g, hg⟩ : ∃ g, g = w.heap.size := ⟨_, rfl⟩
  obtain ⟨rI, hrI⟩ : ∃ rI, rI = w.heap.size + 1 := ⟨_, rfl⟩
  have hri : (w.alloc (.map #[] 0)).heap.size = rI := by rw [hrI]; simp
  rw [hri] at hrg
  have hK0 : CloneK w g fs fs w0 [] := by
    refine ⟨(Step.alloc No w _).trans' hst, ⟨?_, by simp, by simp, by simp⟩, by simp [view], ?_⟩
    · rw [hg]; exact (MapAt.made _ _ _ _ w).step hst (fun h => h)
    · rintro k (rfl | ⟨p, hp, _⟩)
      · omega
      · cases hp
  have HR := Hd.mk hrg
  have HK0 := Hd.mk hK0
  have HN := Hd.mk HD.out.table.map.nodup
  have HG := Hd.mk hg
  have HRI := Hd.mk hrI
  refine Stop.go ?_
  go_wp2_with fail
  rw [← hrI, ← hg]
  clear hrg hst hz hK0 hg hrI hri
  go_loopg [4] fs.length (fun kq _ wr => ∃ left last fs', RangeAt Try.prog 9 Value.string FileG.ptr wr mb rI fs left last ∧ Hd (left.length = kq) ∧ Hd (CloneK w g fs left wr fs') ∧ Hd ((left.map Prod.fst).Nodup))
  case atStart => exact ⟨fs, none, [], HR.out, ⟨rfl⟩, HK0, HN⟩
  case round =>
    obtain ⟨left, last, fs', hrg, HL, HC, HND⟩ := hrel
    have HR1 := Hd.mk hrg
    clear hrg
    go_wp2_with (first | (at_next; refine wp_next rfl _ rfl str_inj rfl HR1.out ?_ ?_; intro h0; rotate_left; intro x w1 hx hrg1 hs1 hz1; rotate_left))
    · have H0 := Hd.mk h0
      have b1 := blk_cell (HC.out.step.keep HD.out.blk (fun h => h)) 1
      simp only [List.getElem?_toArray, List.getElem?_cons_zero, List.getElem?_cons_succ] at b1
      clear h0
      refine Stop.go ?_
      have hst1 := HC.out.step
      have HP : Hd (ClonePost cap fs w (.returned (.pointer (some ⟨wr.heap.size, 0, none⟩))) (wr.alloc (.cells #[.map (some g), .int .i64 cap] 57))) := ⟨by
        have hl : view left = [] := by rw [H0.out]; rfl
        have hp := HC.out.perm
        rw [hl, List.append_nil] at hp
        have hu : used fs' = used fs := by rw [used_view, used_view]; unfold vused; exact (hp.map _).sum_nat
        refine ⟨wr.heap.size, g, fs', rfl, ⟨blk_new wr _, HC.out.table.step (Step.alloc No _ _) (fun _ _ h => h), HD.out.cap0, HD.out.cap1, by rw [hu]; exact HD.out.fits⟩, hp, ?_, hst1.trans' (Step.alloc _ _ _)⟩
        rintro k (rfl | hk)
        · exact hst1.size
        · exact HC.out.foot k hk⟩
      clear hst1
      go_wp2
      go_ret
      exact HP.out
    · have hen := hrg1.entry
      have hxf := HR1.out.sub x hx
      have hC1 : CloneK w g fs left w1 fs' := ⟨HC.out.step.trans hs1 (fun k hk hlt => by have := HRI.out; cases hk; omega), HC.out.table.step hs1 (fun k hk e => by cases e; exact HC.out.table.noIt (RangeAt.it HR1.out) hk), HC.out.perm, HC.out.foot⟩
      have hfile := (HD.out.table.file x hxf).step hC1.step (fun _ _ h => h)
      have hcell0 := blk_cell hfile.blk 0
      have hcell1 := blk_cell hfile.blk 1
      obtain ⟨A, c, hv, _⟩ := hfile.own.slice
      have hrd : Rd Rep.u8 w1 (fun k => k < w1.heap.size) x.2.v x.2.data := Rd.of_row hfile.own (fun k hk => hfile.own.lt hk) (fun _ _ => trivial)
      rw [hv] at hcell0 hrd
      simp only [List.getElem?_toArray, List.getElem?_cons_zero, List.getElem?_cons_succ] at hcell0 hcell1
      have hlen : x.2.data.length ≤ 1073741824 := by
        have := used_filter fs HN.out x hxf
        have hr : used fs ≤ 1073741824 := HD.out.table.room
        omega
      have HRd := Hd.mk hrd
      have HX := Hd.mk hx
      have HLen := Hd.mk hlen
      have HR2 := Hd.mk hrg1
      have HC1 := Hd.mk hC1
      have HSf := Hd.mk hfile.safe
      obtain ⟨nx, hnx⟩ : ∃ nx, nx = x.2.data.length := ⟨_, rfl⟩
      obtain ⟨sx, hsx⟩ : ∃ sx, sx = x.2.safe := ⟨_, rfl⟩
      obtain ⟨bx, hbx⟩ : ∃ bx, bx = x.2.blk := ⟨_, rfl⟩
      obtain ⟨kx, hkx⟩ : ∃ kx, kx = x.1 := ⟨_, rfl⟩
      rw [← hnx, ← hbx] at hcell0
      rw [← hsx, ← hbx] at hcell1
      unfold FileG.ptr at hen ⊢
      rw [← hbx, ← hkx] at hen
      rw [← hbx, ← hkx]
      have HNx := Hd.mk hnx
      have HSx := Hd.mk hsx
      have HKx := Hd.mk hkx
      have HKV : Hd (KeyV Try.prog 9 (.string kx)) := ⟨by rw [hkx]; exact HD.out.table.map.keyV hxf⟩
      have H35 : Hd (∀ W, Step No w1 W → Calls Try.prog 35 #[.slice A nx c] W fun e w' => ∃ A6 c6, e = .returned (.slice A6 nx c6) ∧ RowAt w' 5 1 (.slice A6 nx c6) nx (x.2.data.map u8) ∧ Fresh w1 (.slice A6 nx c6) ∧ Step No w1 w') := ⟨fun W hW => by
        rw [hnx]
        refine (f35_any _ x.2.data W (HRd.out.stepNo hW) (by have := HLen.out; omega)).mono ?_
        rintro e w' ⟨v', rfl, h1, h2, h3, _⟩
        obtain ⟨A6, c6, rfl, _⟩ := h1.slice
        exact ⟨A6, c6, rfl, h1, h2.step hW.size, hW.trans' h3⟩⟩
      have HMu : Hd (∀ (W : World) A6 c6, Step No w1 W → ∃ es' cl', (Instr.mapUpdate 55 (.map (some g)) (.string kx) (.pointer (some ⟨W.heap.size, 0, none⟩))).run Try.prog (W.alloc (.cells #[.slice A6 nx c6, .int .i64 (sx : Int)] 69)) = .ok () (ChangeMaps.setBlock (W.alloc (.cells #[.slice A6 nx c6, .int .i64 (sx : Int)] 69)) g (.map es' cl')) ∧
          FMap (ChangeMaps.setBlock (W.alloc (.cells #[.slice A6 nx c6, .int .i64 (sx : Int)] 69)) g (.map es' cl')) g (mput fs' kx ⟨W.heap.size, .slice A6 nx c6, x.2.data, x.2.safe⟩)) := ⟨fun W A6 c6 hW => by
        have hm := (HC1.out.table.map.step hW (fun h => h)).step (Step.alloc No W (.cells #[.slice A6 nx c6, .int .i64 (sx : Int)] 69)) (fun h => h)
        obtain ⟨es', cl', h1, h2⟩ := hm.update law9 str_inj Try.underlying55 HKV.out ⟨W.heap.size, .slice A6 nx c6, x.2.data, x.2.safe⟩
        exact ⟨es', cl', h1, h2⟩⟩
      have HBg : Hd (¬ At g bx) := ⟨fun e => by
        have e' : bx = g := e
        obtain ⟨es, clock, hmm, _⟩ := HC1.out.table.map
        have := hfile.blk
        rw [← hbx, e', hmm] at this; cases this⟩
      clear hx hrg1 hs1 hz1 hxf hC1 hfile hv hrd hlen hnx hsx hbx hkx
      refine Stop.go ?_
      go_upto_region 5 with (fail)
      go_region_held3 (fun W => W.cell? ⟨bx, 0, none⟩ = some (.slice A nx c) ∧ W.cell? ⟨bx, 1, none⟩ = some (.int .i64 (sx : Int))) ((refine ⟨?_, ?_⟩ <;> first | assumption | (simp only [World.cell?_drew]; assumption))) (first | (go_at_call 35; refine (H35.out _ ?_).mono ?_; (first | exact Step.drew No _ | assumption); rintro e w2 ⟨A6, c6, rfl, hv', hf', hs'⟩; have k0 := hs'.cell (p := ⟨bx, 0, none⟩) (v := .slice A nx c) (by assumption) (fun h => h); have k1 := hs'.cell (p := ⟨bx, 1, none⟩) (v := .int .i64 (sx : Int)) (by assumption) (fun h => h); obtain ⟨es', cl', hmu, hmm2⟩ := HMu.out w2 A6 c6 hs'; have m0 := (Step.alloc No w2 (.cells #[.slice A6 nx c6, .int .i64 (sx : Int)] 69)).cell k0 (fun h => h); have m1 := (Step.alloc No w2 (.cells #[.slice A6 nx c6, .int .i64 (sx : Int)] 69)).cell k1 (fun h => h); have n0 := (step_setBlock (w2.alloc (.cells #[.slice A6 nx c6, .int .i64 (sx : Int)] 69)) g (.map es' cl')).cell m0 HBg.out; have n1 := (step_setBlock (w2.alloc (.cells #[.slice A6 nx c6, .int .i64 (sx : Int)] 69)) g (.map es' cl')).cell m1 HBg.out))
      go_wp2
      go_roundg (mdel left x.1).length
      case measure =>
        rw [← HL.out]
        exact mdel_length HX.out
      case rel =>
        have hsz2 := hs'.size
        have hst : Step (At g) w1 (ChangeMaps.setBlock (w2.alloc (.cells #[.slice A6 nx c6, .int .i64 (sx : Int)] 69)) g (.map es' cl')) := (hs'.noTrans (Step.alloc (At g) w2 _)).trans' (step_setBlock _ _ _)
        have hmbg : ¬ At g mb := fun e => by
          have e' : mb = g := e
          have := HD.out.table.map.lt
          have := HG.out
          omega
        have hrig : ¬ At g rI := fun e => by
          have e' : rI = g := e
          have := HG.out
          have := HRI.out
          omega
        have hrs : vused (view fs) ≤ 1073741824 := by rw [← used_view]; exact HD.out.table.room
        have hfr : Fresh w1 (.slice A6 nx c6) := hf'
        refine ⟨_, _, mput fs' x.1 ⟨w2.heap.size, .slice A6 nx c6, x.2.data, x.2.safe⟩, HR2.out.step hst hmbg hrig, ⟨rfl⟩, ⟨?_⟩, ⟨mdel_nodup HND.out _⟩⟩
        refine HC1.out.more (v' := .slice A6 nx c6) ?_ HND.out HX.out hrs HSf.out hs' ?_ hfr ?_ ?_
        · have := HN.out; simpa [view, List.map_map, Function.comp_def] using this
        · rw [← HNx.out]; exact hv'
        · rw [← HSx.out]; exact step_setBlock _ _ _
        · rw [← HKx.out]; exact hmm2
end Go.Proofs.Ytmflfimenacflaa

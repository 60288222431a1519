/- A known session, its place in the order, when it is due; the fixed answer. -/
import Derived.Test.YtngganllammcpaaL1
import Derived.Sort.Grow
import Derived.Sort.Row
set_option linter.unusedVariables false
set_option linter.unusedSimpArgs false
set_option linter.unusedVariables false
set_option linter.unusedSimpArgs false
namespace Go.Proofs.Ytngganllammcpaa
open Go Go.RowKit Gb
/-- w' is w with draws and new blocks -/
def Grows (w w' : World) : Prop := ∃ q os', w' = Go.Sort.grow (w.drewN q) os'
theorem Grows.refl (w : World) : Grows w w := ⟨0, #[], by simp [Go.Sort.grow, World.drewN]⟩
theorem Grows.alloc {w w' : World} (h : Grows w w') (o : Obj) : Grows w (w'.alloc o) := by
  obtain ⟨q, os, rfl⟩ := h
  exact ⟨q, os.push o, by simp [Go.Sort.grow, World.alloc]⟩
theorem Grows.drew {w w' : World} (h : Grows w w') : Grows w w'.drew := by
  obtain ⟨q, os, rfl⟩ := h
  exact ⟨q + 1, os, rfl⟩
theorem Grows.step {w w' : World} (h : Grows w w') : Step No w w' := by
  obtain ⟨q, os, rfl⟩ := h
  exact ⟨rfl, rfl, rfl, by simp [Go.Sort.grow, World.drewN], fun k hk _ => by simp [Go.Sort.grow, World.drewN, Array.getElem?_append, hk]⟩
/-- a session that a keeper knows -/
structure KR where
  home : ByteArray
  n : Int
  nonce : Int
  lease : Int
  beats : Int
  req : Int
  since : Int
def KR.val (k : KR) : Value := .agg #[.string k.home, .int .i64 k.n, .int .i64 k.nonce, .int .i64 k.lease, .int .i64 k.beats, .int .i64 k.req, .slice none 0 0, .int .i64 k.since]
def KR.cells (k : KR) : List Value := [.string k.home, .int .i64 k.n, .int .i64 k.nonce, .int .i64 k.lease, .int .i64 k.beats, .int .i64 k.req, .slice none 0 0, .int .i64 k.since]
theorem KR.len (k : KR) : k.cells.length = 8 := rfl
theorem KR.one (k : KR) : ∀ u ∈ k.cells, u.oneCell' = true := by
  intro u hu
  simp [KR.cells] at hu
  rcases hu with rfl | rfl | rfl | rfl | rfl | rfl | rfl | rfl <;> rfl
def KR.at (k : KR) : Int := k.since + k.lease
def byKey (a b : KR) : Int := orI (cmpS a.home b.home) (cmpI a.n b.n)
/-- numbers that do not overflow -/
structure KR.Ok (k : KR) : Prop where
  lease : 1 ≤ k.lease ∧ k.lease ≤ 1048576
  since : 0 ≤ k.since ∧ k.since ≤ 1099511627776
theorem f34_any (k : KR) (w : World) (h : k.Ok) : Calls Try.prog 34 #[k.val] w fun e w' => e = .returned (.int .i64 k.at) ∧ Step No w w' := by
  obtain ⟨⟨h1, h2⟩, h3, h4⟩ := h
  obtain ⟨home, n, nonce, lease, beats, req, since⟩ := k
  simp only at h1 h2 h3 h4
  unfold KR.val KR.at
  go_enter Try.func34, Try.ntmps34
  go_wp2
  go_ret
  exact ⟨rfl, Step.alloc _ _ _⟩
theorem KR.blk {w : World} {g : Nat} (k : KR) (h : w.heap[g]? = some (.cells k.cells.toArray 80 (0, 0))) : ∀ i v, k.cells[i]? = some v → ∀ W, Step No w W → W.cell? ⟨g, i, none⟩ = some v := fun i v hv W hs => by
  rw [blk_cell (hs.keep h (fun h => h))]
  simpa using hv
set_option maxRecDepth 100000 in
set_option maxHeartbeats 1000000 in
theorem f32_any (a b : KR) (w : World) (ha : a.Ok) (hb : b.Ok) : Calls Try.prog 32 #[a.val, b.val] w fun e w' => e = .returned (.int .i64 (cmpI a.at b.at)) ∧ Step No w w' := by
  have HA := Hd.mk ha
  have HB := Hd.mk hb
  clear ha hb
  obtain ⟨g, hg⟩ : ∃ g, g = w.heap.size := ⟨_, rfl⟩
  obtain ⟨W0, hW0⟩ : ∃ W0, W0 = (w.alloc (.cells a.cells.toArray 80)).alloc (.cells b.cells.toArray 80) := ⟨_, rfl⟩
  have b1 : W0.heap[g]? = some (.cells a.cells.toArray 80 (0, 0)) := by rw [hW0, hg]; exact blk_alloc (blk_new w _) _
  have b2 : W0.heap[g + 1]? = some (.cells b.cells.toArray 80 (0, 0)) := by
    have := blk_new (w.alloc (.cells a.cells.toArray 80)) (.cells b.cells.toArray 80)
    rw [hW0, hg]; simpa using this
  have hst : Step No w W0 := by rw [hW0]; exact (Step.alloc No _ _).trans' (Step.alloc No _ _)
  have HSt := Hd.mk hst
  have x0 := KR.blk a b1 0 _ rfl
  have x1 := KR.blk a b1 1 _ rfl
  have x2 := KR.blk a b1 2 _ rfl
  have x3 := KR.blk a b1 3 _ rfl
  have x4 := KR.blk a b1 4 _ rfl
  have x5 := KR.blk a b1 5 _ rfl
  have x6 := KR.blk a b1 6 _ rfl
  have x7 := KR.blk a b1 7 _ rfl
  have y0 := KR.blk b b2 0 _ rfl
  have y1 := KR.blk b b2 1 _ rfl
  have y2 := KR.blk b b2 2 _ rfl
  have y3 := KR.blk b b2 3 _ rfl
  have y4 := KR.blk b b2 4 _ rfl
  have y5 := KR.blk b b2 5 _ rfl
  have y6 := KR.blk b b2 6 _ rfl
  have y7 := KR.blk b b2 7 _ rfl
  unfold KR.cells at hW0
  clear b1 b2 hst
  unfold KR.val
  go_enter Try.func32, Try.ntmps32
  go_wp2
  rw [← hW0, ← hg]
  clear hW0 hg
  go_region_held3 (fun W => Step No W0 W) ((first | assumption | exact Step.drew No _)) (first | (go_at_call 34; (first | refine (f34_any a _ HA.out).mono ?_ | refine (f34_any b _ HB.out).mono ?_); rintro e w1 ⟨rfl, hs1⟩; have k1 : Step No W0 w1 := (by refine Step.trans' ?_ hs1; first | assumption | exact Step.drew No _)) | (go_at_call 33; refine (f33_any _ _ _).mono ?_; rintro e w1 ⟨rfl, rfl⟩))
  all_goals
    go_wp2
    go_ret
    exact ⟨rfl, HSt.out.trans' (by first | assumption | exact Step.trans' (by assumption) (by assumption))⟩
set_option maxRecDepth 100000 in
set_option maxHeartbeats 2000000 in
theorem f29_any (a b : KR) (w : World) : Calls Try.prog 29 #[a.val, b.val] w fun e w' => e = .returned (.int .i64 (byKey a b)) ∧ Grows w w' := by
  obtain ⟨g, hg⟩ : ∃ g, g = w.heap.size := ⟨_, rfl⟩
  obtain ⟨W0, hW0⟩ : ∃ W0, W0 = (w.alloc (.cells a.cells.toArray 80)).alloc (.cells b.cells.toArray 80) := ⟨_, rfl⟩
  have b1 : W0.heap[g]? = some (.cells a.cells.toArray 80 (0, 0)) := by rw [hW0, hg]; exact blk_alloc (blk_new w _) _
  have b2 : W0.heap[g + 1]? = some (.cells b.cells.toArray 80 (0, 0)) := by
    have := blk_new (w.alloc (.cells a.cells.toArray 80)) (.cells b.cells.toArray 80)
    rw [hW0, hg]; simpa using this
  have hgr : Grows w W0 := by rw [hW0]; exact ((Grows.refl w).alloc _).alloc _
  have HGr := Hd.mk hgr
  have x0 := KR.blk a b1 0 _ rfl
  have x1 := KR.blk a b1 1 _ rfl
  have y0 := KR.blk b b2 0 _ rfl
  have y1 := KR.blk b b2 1 _ rfl
  unfold KR.cells at hW0
  clear b1 b2 hgr
  have HB : Hd (byKey a b = orI (cmpS a.home b.home) (cmpI a.n b.n)) := ⟨rfl⟩
  unfold KR.val
  go_enter Try.func29, Try.ntmps29
  go_wp2
  rw [← hW0, ← hg]
  clear hW0 hg
  obtain ⟨cs, hcs⟩ : ∃ cs, cs = cmpS a.home b.home := ⟨_, rfl⟩
  obtain ⟨ci, hci⟩ : ∃ ci, ci = cmpI a.n b.n := ⟨_, rfl⟩
  have H47 : Hd (∀ W, Calls Try.prog 47 #[.string a.home, .string b.home] W fun e w' => e = .returned (.int .i64 cs) ∧ W = w') := ⟨fun W => by rw [hcs]; exact f47_any _ _ W⟩
  have H33 : Hd (∀ W, Calls Try.prog 33 #[.int .i64 a.n, .int .i64 b.n] W fun e w' => e = .returned (.int .i64 ci) ∧ W = w') := ⟨fun W => by rw [hci]; exact f33_any _ _ W⟩
  rw [← hcs, ← hci] at HB
  clear hcs hci
  go_region_held3 (fun W => Step No W0 W) ((first | assumption | exact Step.drew No _ | exact Step.trans' (by assumption) (Step.alloc _ _ _) | exact (Step.drew No _).trans' (Step.alloc _ _ _) | exact (Step.alloc _ _ _).trans' (Step.drew No _))) (first | (go_at_call 47; refine (H47.out _).mono ?_; rintro e w1 ⟨rfl, rfl⟩) | (go_at_call 33; refine (H33.out _).mono ?_; rintro e w1 ⟨rfl, rfl⟩) | (go_at_call 46; refine (f46_any _ cs ci _ ?_ ?_).mono ?_; ((try rw [World.cell?_drew]); rw [blk_cell (blk_new _ _)]; rfl); ((try rw [World.cell?_drew]); rw [blk_cell (blk_new _ _)]; rfl); rintro e w1 ⟨rfl, rfl⟩))
  all_goals
    go_wp2
    go_ret
    refine ⟨ret_int HB.out.symm, ?_⟩
    first | exact (HGr.out.alloc _).drew | exact HGr.out.drew.alloc _
theorem f42_any (p q : Int) (w : World) (h : 1 ≤ q ∧ q ≤ p ∧ p ≤ 1000) : Calls Try.prog 42 #[.agg #[.int .i64 p, .int .i64 q]] w fun e w' => e = .returned (.int .i64 0) ∧ Step No w w' := by
  obtain ⟨h1, h2, h3⟩ := h
  have b1 : decide (q < 1) = false := by simp; omega
  have b2 : decide (p < q) = false := by simp; omega
  have b3 : decide (1000 < p) = false := by simp; omega
  go_enter Try.func42, Try.ntmps42
  go_wp2
  go_ret
  exact ⟨rfl, Step.alloc _ _ _⟩
end Go.Proofs.Ytngganllammcpaa

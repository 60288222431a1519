/- awake: fixed numbers through the drift and the holder; the new keeper. -/
import Derived.Test.YtngganllammcpaaL9
set_option linter.unusedVariables false
set_option linter.unusedSimpArgs false
set_option linter.unusedVariables false
set_option linter.unusedSimpArgs false
namespace Go.Proofs.Ytngganllammcpaa
open Go Go.RowKit Gb
set_option maxHeartbeats 1000000 in
theorem f21_a (w : World) : Calls Try.prog 21 #[.agg #[.int .i64 3, .int .i64 2], .int .i64 100] w fun e w' => e = .returned (.tuple #[.int .i64 66, .int .i64 0]) ∧ Step No w w' := by
  have H42 : Hd (∀ W, Calls Try.prog 42 #[.agg #[.int .i64 3, .int .i64 2]] W fun e w' => e = .returned (.int .i64 0) ∧ Step No W w') := ⟨fun W => f42_any 3 2 W (by decide)⟩
  obtain ⟨g, hg⟩ : ∃ g, g = w.heap.size := ⟨_, rfl⟩
  obtain ⟨W0, hW0⟩ : ∃ W0, W0 = w.alloc (.cells #[.int .i64 3, .int .i64 2] 71) := ⟨_, rfl⟩
  have b1 : W0.heap[g]? = some (.cells #[.int .i64 3, .int .i64 2] 71 (0, 0)) := by rw [hW0, hg]; exact blk_new w _
  have st : Step No w W0 := by rw [hW0]; exact Step.alloc _ _ _
  have x0 : ∀ W, Step No W0 W → W.cell? ⟨g, 0, none⟩ = some (.int .i64 3) := fun W hs => by rw [blk_cell (hs.keep b1 (fun h => h))]; rfl
  have x1 : ∀ W, Step No W0 W → W.cell? ⟨g, 1, none⟩ = some (.int .i64 2) := fun W hs => by rw [blk_cell (hs.keep b1 (fun h => h))]; rfl
  have hself : Step No W0 W0 := Step.refl _ _
  have HSt := Hd.mk st
  clear b1 st
  go_enter Try.func21, Try.ntmps21
  go_upto_region 1 with (fail)
  rw [← hW0, ← hg]
  clear hW0 hg
  go_wp2_with (first | (go_at_call 42; refine (H42.out _).mono ?_; rintro e w1 ⟨rfl, hs1⟩))
  go_ret2
  exact ⟨rfl, HSt.out.trans' hs1⟩
set_option maxHeartbeats 1000000 in
theorem f21_b (w : World) : Calls Try.prog 21 #[.agg #[.int .i64 1, .int .i64 1], .int .i64 10] w fun e w' => e = .returned (.tuple #[.int .i64 10, .int .i64 0]) ∧ Step No w w' := by
  have H42 : Hd (∀ W, Calls Try.prog 42 #[.agg #[.int .i64 1, .int .i64 1]] W fun e w' => e = .returned (.int .i64 0) ∧ Step No W w') := ⟨fun W => f42_any 1 1 W (by decide)⟩
  obtain ⟨g, hg⟩ : ∃ g, g = w.heap.size := ⟨_, rfl⟩
  obtain ⟨W0, hW0⟩ : ∃ W0, W0 = w.alloc (.cells #[.int .i64 1, .int .i64 1] 71) := ⟨_, rfl⟩
  have b1 : W0.heap[g]? = some (.cells #[.int .i64 1, .int .i64 1] 71 (0, 0)) := by rw [hW0, hg]; exact blk_new w _
  have st : Step No w W0 := by rw [hW0]; exact Step.alloc _ _ _
  have x0 : ∀ W, Step No W0 W → W.cell? ⟨g, 0, none⟩ = some (.int .i64 1) := fun W hs => by rw [blk_cell (hs.keep b1 (fun h => h))]; rfl
  have x1 : ∀ W, Step No W0 W → W.cell? ⟨g, 1, none⟩ = some (.int .i64 1) := fun W hs => by rw [blk_cell (hs.keep b1 (fun h => h))]; rfl
  have hself : Step No W0 W0 := Step.refl _ _
  have HSt := Hd.mk st
  clear b1 st
  go_enter Try.func21, Try.ntmps21
  go_upto_region 1 with (fail)
  rw [← hW0, ← hg]
  clear hW0 hg
  go_wp2_with (first | (go_at_call 42; refine (H42.out _).mono ?_; rintro e w1 ⟨rfl, hs1⟩))
  go_ret2
  exact ⟨rfl, HSt.out.trans' hs1⟩
def HoldPost (w : World) (e : Ending) (w' : World) : Prop :=
  ∃ hb, e = .returned (.tuple #[.pointer (some ⟨hb, 0, none⟩), .int .i64 0]) ∧ w'.heap[hb]? = some (.cells #[.int .i64 1, .int .i64 1, .int .i64 0] 105 (0, 0)) ∧ Step No w w' ∧ w.heap.size ≤ hb
set_option maxHeartbeats 1000000 in
theorem f22_a (w : World) : Calls Try.prog 22 #[.agg #[.int .i64 1, .int .i64 1]] w (HoldPost w) := by
  have H42 : Hd (∀ W, Calls Try.prog 42 #[.agg #[.int .i64 1, .int .i64 1]] W fun e w' => e = .returned (.int .i64 0) ∧ Step No W w') := ⟨fun W => f42_any 1 1 W (by decide)⟩
  obtain ⟨g, hg⟩ : ∃ g, g = w.heap.size := ⟨_, rfl⟩
  obtain ⟨W0, hW0⟩ : ∃ W0, W0 = w.alloc (.cells #[.int .i64 1, .int .i64 1] 71) := ⟨_, rfl⟩
  have b1 : W0.heap[g]? = some (.cells #[.int .i64 1, .int .i64 1] 71 (0, 0)) := by rw [hW0, hg]; exact blk_new w _
  have st : Step No w W0 := by rw [hW0]; exact Step.alloc _ _ _
  have x0 : ∀ W, Step No W0 W → W.cell? ⟨g, 0, none⟩ = some (.int .i64 1) := fun W hs => by rw [blk_cell (hs.keep b1 (fun h => h))]; rfl
  have x1 : ∀ W, Step No W0 W → W.cell? ⟨g, 1, none⟩ = some (.int .i64 1) := fun W hs => by rw [blk_cell (hs.keep b1 (fun h => h))]; rfl
  have hself : Step No W0 W0 := Step.refl _ _
  have HSt := Hd.mk st
  clear b1 st
  go_enter Try.func22, Try.ntmps22
  go_upto_region 1 with (fail)
  rw [← hW0, ← hg]
  clear hW0 hg
  go_wp2_with (first | (go_at_call 42; refine (H42.out _).mono ?_; rintro e w1 ⟨rfl, hs1⟩))
  go_ret2
  exact ⟨_, rfl, blk_new w1 _, (HSt.out.trans' hs1).trans' (Step.alloc _ _ _), (HSt.out.trans' hs1).size⟩
set_option maxHeartbeats 1000000 in
theorem f23_a (hb : Nat) (w : World) (h : w.heap[hb]? = some (.cells #[.int .i64 1, .int .i64 1, .int .i64 0] 105 (0, 0))) :
    Calls Try.prog 23 #[.pointer (some ⟨hb, 0, none⟩), .int .i64 5, .int .i64 10] w fun e w' => e = .returned (.int .i64 0) ∧ w'.cell? ⟨hb, 2, none⟩ = some (.int .i64 15) ∧ Step (At hb) w w' := by
  have H21 : Hd (∀ W, Calls Try.prog 21 #[.agg #[.int .i64 1, .int .i64 1], .int .i64 10] W fun e w' => e = .returned (.tuple #[.int .i64 10, .int .i64 0]) ∧ Step No W w') := ⟨f21_b⟩
  have H25 : Hd (∀ W, Calls Try.prog 25 #[.int .i64 5] W fun e w' => e = .returned (.bool true) ∧ W = w') := ⟨fun W => f25_any 5 W⟩
  have x0 : ∀ W, Step No w W → W.cell? ⟨hb, 0, none⟩ = some (.int .i64 1) := fun W hs => by rw [blk_cell (hs.keep h (fun h => h))]; rfl
  have x1 : ∀ W, Step No w W → W.cell? ⟨hb, 1, none⟩ = some (.int .i64 1) := fun W hs => by rw [blk_cell (hs.keep h (fun h => h))]; rfl
  have x2 : ∀ W, Step No w W → W.cell? ⟨hb, 2, none⟩ = some (.int .i64 0) := fun W hs => by rw [blk_cell (hs.keep h (fun h => h))]; rfl
  have fz : ∀ W, Step No w W → W.frozen? ⟨hb, 2, none⟩ = false := fun W hs => blk_free (hs.keep h (fun h => h)) 2
  have HB := Hd.mk h
  have hself : Step No w w := Step.refl _ _
  clear h
  go_enter Try.func23, Try.ntmps23
  go_wp2_with (first | (go_at_call 21; refine (H21.out _).mono ?_; rintro e w1 ⟨rfl, hs1⟩) | (go_at_call 25; refine (H25.out _).mono ?_; rintro e w2 ⟨rfl, rfl⟩))
  go_ret
  refine ⟨rfl, ?_, (hs1.mono (fun _ h => h.elim)).trans' (Step.setAt w1 ⟨hb, 2, none⟩ _)⟩
  rw [blk_cell (blk_set (hs1.keep HB.out (fun h => h)) 2 _)]; rfl
theorem f24_a (hb : Nat) (w : World) (h : w.cell? ⟨hb, 2, none⟩ = some (.int .i64 15)) : Calls Try.prog 24 #[.pointer (some ⟨hb, 0, none⟩)] w fun e w' => e = .returned (.int .i64 15) ∧ w = w' := by
  go_enter Try.func24, Try.ntmps24
  go_wp2
  go_ret
  exact ⟨rfl, rfl⟩
set_option maxHeartbeats 2000000 in
set_option maxRecDepth 100000 in
theorem f6_any (w : World) : Calls Try.prog 6 #[] w fun e w' => e = .returned (.bool true) ∧ Step No w w' := by
  have H21 : Hd (∀ W, Calls Try.prog 21 #[.agg #[.int .i64 3, .int .i64 2], .int .i64 100] W fun e w' => e = .returned (.tuple #[.int .i64 66, .int .i64 0]) ∧ Step No W w') := ⟨f21_a⟩
  have H22 : Hd (∀ W, Calls Try.prog 22 #[.agg #[.int .i64 1, .int .i64 1]] W (HoldPost W)) := ⟨f22_a⟩
  go_enter Try.func6, Try.ntmps6
  go_wp2_with (first | (go_at_call 21; refine (H21.out _).mono ?_; rintro e w1 ⟨rfl, hs1⟩) | (go_at_call 22; refine (H22.out _).mono ?_; rintro e w2 ⟨hb, rfl, hbk, hs2, hfr⟩; have H23 := Hd.mk (f23_a hb w2 hbk); clear hbk) | (go_at_call 23; refine H23.out.mono ?_; rintro e w3 ⟨rfl, x2, hs3⟩; have H24 := Hd.mk (f24_a hb w3 x2)) | (go_at_call 24; refine H24.out.mono ?_; rintro e w4 ⟨rfl, rfl⟩))
  go_ret
  exact ⟨rfl, (hs1.trans' hs2).trans hs3 (fun k hk hl => by have h1 : k = hb := hk; have := hs1.size; omega)⟩
end Go.Proofs.Ytngganllammcpaa

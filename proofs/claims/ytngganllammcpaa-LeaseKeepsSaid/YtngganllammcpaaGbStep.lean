/- Frames: 'Step S w w'' says that w' is w with new blocks and with changes to old blocks in the set S alone; what follows of it for cells, rows and blocks. -/
import Derived.WalkKit
import Derived.OneCell
import Derived.Deep.Draws
import Derived.Deep.LoopGhost
set_option linter.unusedVariables false
set_option linter.unusedSimpArgs false
namespace Gb
open Go Go.RowKit

/-- w' is w with new blocks and with changes to the old blocks in S alone -/
structure Step (S : Nat → Prop) (w w' : World) : Prop where
  os : w'.os = w.os
  tape : w'.tape = w.tape
  output : w'.output = w.output
  size : w.heap.size ≤ w'.heap.size
  block : ∀ k, k < w.heap.size → ¬ S k → w'.heap[k]? = w.heap[k]?

/-- a fact kept from the walk's simp -/
structure Hd (p : Prop) : Prop where mk :: (out : p)

/-- a goal at which the walk halts: 'refine Stop.go ?_' goes on -/
def Stop (p : Prop) : Prop := p
theorem Stop.go {p : Prop} (h : p) : Stop p := h
theorem Stop.back {p : Prop} (h : Stop p) : p := h

/-- nothing -/
def No : Nat → Prop := fun _ => False
/-- one block -/
def At (b : Nat) : Nat → Prop := fun k => k = b

theorem Step.refl (S : Nat → Prop) (w : World) : Step S w w := ⟨rfl, rfl, rfl, Nat.le_refl _, fun _ _ _ => rfl⟩
theorem Step.mono {S S' : Nat → Prop} {w w' : World} (h : Step S w w') (hs : ∀ k, S k → S' k) : Step S' w w' :=
  ⟨h.os, h.tape, h.output, h.size, fun k hk hn => h.block k hk (fun hS => hn (hs k hS))⟩
/-- what the second step changes of the first world's blocks must be in S -/
theorem Step.trans {S S' : Nat → Prop} {a b c : World} (h : Step S a b) (k : Step S' b c) (hs : ∀ i, S' i → i < a.heap.size → S i) : Step S a c :=
  ⟨k.os.trans h.os, k.tape.trans h.tape, k.output.trans h.output, Nat.le_trans h.size k.size, fun i hi hn =>
    (k.block i (Nat.lt_of_lt_of_le hi h.size) (fun hS => hn (hs i hS hi))).trans (h.block i hi hn)⟩
theorem Step.trans' {S : Nat → Prop} {a b c : World} (h : Step S a b) (k : Step S b c) : Step S a c := h.trans k (fun _ h _ => h)
theorem Step.transNo {S : Nat → Prop} {a b c : World} (h : Step S a b) (k : Step No b c) : Step S a c := h.trans k (fun _ h _ => h.elim)
theorem Step.noTrans {S : Nat → Prop} {a b c : World} (h : Step No a b) (k : Step S b c) : Step S a c := (h.mono (fun _ h => h.elim)).trans' k
theorem Step.alloc (S : Nat → Prop) (w : World) (o : Obj) : Step S w (w.alloc o) := ⟨rfl, rfl, rfl, by simp, fun k hk _ => Below.heap_alloc w o k hk⟩
theorem Step.drew (S : Nat → Prop) (w : World) : Step S w w.drew := ⟨rfl, rfl, rfl, Nat.le_refl _, fun _ _ _ => rfl⟩
theorem Step.drewN (S : Nat → Prop) (w : World) (n : Nat) : Step S w (w.drewN n) := ⟨rfl, rfl, rfl, Nat.le_refl _, fun _ _ _ => rfl⟩
theorem Step.set {S : Nat → Prop} (w : World) {p : Addr} (hp : S p.block) (u : Value) : Step S w (w.setCell p u) :=
  ⟨rfl, rfl, rfl, by simp [World.setCell], fun k _ hn => Below.heap_setCell w p u k (fun e => hn (e ▸ hp))⟩
theorem Step.setAt (w : World) (p : Addr) (u : Value) : Step (At p.block) w (w.setCell p u) := Step.set (S := At p.block) w (show At p.block p.block from rfl) u
theorem Step.of_grown {w w' : World} {row : Option Nat} (h : w.grownBy w' row) : Step (fun k => row = some k) w w' :=
  ⟨h.os, h.tape, h.output, h.size, fun k hk hn => h.block k hk (fun e => hn e.symm)⟩
theorem Step.grown {S : Nat → Prop} {w w' : World} {row : Option Nat} (h : w.grownBy w' row) (hr : ∀ k, row = some k → S k) : Step S w w' := (Step.of_grown h).mono hr
theorem Step.of_below {w w' : World} (h : Below w.heap.size w w') (S : Nat → Prop) : Step S w w' := ⟨h.os, h.tape, h.output, h.size, fun k hk _ => h.block k hk⟩
theorem Step.below {S : Nat → Prop} {w w' : World} (h : Step S w w') {B : Nat} (hB : B ≤ w.heap.size) (hS : ∀ k, S k → B ≤ k) : Below B w w' :=
  ⟨h.os, h.tape, h.output, h.size, fun k hk => h.block k (Nat.lt_of_lt_of_le hk hB) (fun hs => Nat.not_lt.2 (hS k hs) hk)⟩
theorem Step.belowNo {w w' : World} (h : Step No w w') : Below w.heap.size w w' := h.below (Nat.le_refl _) (fun _ h => h.elim)
theorem Step.then_below {S : Nat → Prop} {w w1 w2 : World} (h : Step S w w1) (k : Below w1.heap.size w1 w2) : Step S w w2 := h.transNo (Step.of_below k _)
theorem Step.keep {S : Nat → Prop} {w w' : World} (h : Step S w w') {b : Nat} {o : Obj} (hb : w.heap[b]? = some o) (hn : ¬ S b) : w'.heap[b]? = some o :=
  (h.block b (Array.getElem?_eq_some_iff.1 hb).1 hn).trans hb
theorem Step.cell {S : Nat → Prop} {w w' : World} (h : Step S w w') {p : Addr} {v : Value} (hc : w.cell? p = some v) (hn : ¬ S p.block) : w'.cell? p = some v :=
  (World.cell?_of_block (w := w) (h.block p.block (World.block_lt_of_cell? w p hc) hn)).trans hc
theorem Step.own {S : Nat → Prop} {w w' : World} (h : Step S w w') {base : Nat} {e : TypeId} {size n : Nat} {v : Value} {xs : List Value} (ho : w.ownsRow base e size v n xs)
    (hn : ∀ k, v.ownBlock = some k → ¬ S k) : w'.ownsRow base e size v n xs := by
  refine ⟨ho.1, ?_⟩
  rcases ho.2 with h0 | ⟨g, cap, cur, rfl, hg, hh, r⟩
  · exact .inl h0
  · exact .inr ⟨g, cap, cur, rfl, hg, h.keep hh (hn g rfl), r⟩

/-! ### blocks -/
theorem lt_of_blk {w : World} {b : Nat} {o : Obj} (h : w.heap[b]? = some o) : b < w.heap.size := (Array.getElem?_eq_some_iff.1 h).1
theorem blk_cell {w : World} {b : Nat} {T : TypeId} {cs : Array Value} {fr : Nat × Nat} (h : w.heap[b]? = some (.cells cs T fr)) (i : Nat) : w.cell? ⟨b, i, none⟩ = cs[i]? := by simp [World.cell?, h]
theorem blk_free {w : World} {b : Nat} {T : TypeId} {cs : Array Value} (h : w.heap[b]? = some (.cells cs T (0, 0))) (i : Nat) : w.frozen? ⟨b, i, none⟩ = false := by simp [World.frozen?, h]
theorem blk_set {w : World} {b : Nat} {T : TypeId} {cs : Array Value} (h : w.heap[b]? = some (.cells cs T (0, 0))) (i : Nat) (u : Value) : (w.setCell ⟨b, i, none⟩ u).heap[b]? = some (.cells (cs.setIfInBounds i u) T (0, 0)) := by
  simp [World.setCell, Array.getElem?_modify, h]
theorem blk_far {w : World} {b : Nat} {o : Obj} (h : w.heap[b]? = some o) {p : Addr} (hp : b ≠ p.block) (u : Value) : (w.setCell p u).heap[b]? = some o := (Below.heap_setCell w p u b hp).trans h
theorem blk_alloc {w : World} {b : Nat} {o : Obj} (h : w.heap[b]? = some o) (o' : Obj) : (w.alloc o').heap[b]? = some o := (Below.heap_alloc w o' b (lt_of_blk h)).trans h
theorem blk_new (w : World) (o : Obj) : (w.alloc o).heap[w.heap.size]? = some o := heap_alloc_new w o
theorem blk_drew {w : World} {b : Nat} {o : Obj} (h : w.heap[b]? = some o) : w.drew.heap[b]? = some o := h
theorem blk_drewN {w : World} {b : Nat} {o : Obj} (h : w.heap[b]? = some o) (n : Nat) : (w.drewN n).heap[b]? = some o := h
theorem ne_of_types {w : World} {b b' : Nat} {T T' : TypeId} {cs cs' : Array Value} {f f' : Nat × Nat} (h : w.heap[b]? = some (.cells cs T f)) (h' : w.heap[b']? = some (.cells cs' T' f')) (hne : T ≠ T') : b ≠ b' := by
  rintro rfl; rw [h] at h'; cases h'; exact hne rfl
theorem ne_of_map {w : World} {b b' : Nat} {T : TypeId} {cs : Array Value} {f : Nat × Nat} {es : Array MapEntry} {c : Nat} (h : w.heap[b]? = some (.cells cs T f)) (h' : w.heap[b']? = some (.map es c)) : b ≠ b' := by
  rintro rfl; rw [h] at h'; cases h'

/-! ### own rows -/
theorem own_lt {w : World} {base : Nat} {e : TypeId} {size n : Nat} {v : Value} {xs : List Value} (h : w.ownsRow base e size v n xs) {k : Nat} (hk : v.ownBlock = some k) : k < w.heap.size := (h.lt k hk).2
theorem own_base {w : World} {base : Nat} {e : TypeId} {size n : Nat} {v : Value} {xs : List Value} (h : w.ownsRow base e size v n xs) {k : Nat} (hk : v.ownBlock = some k) : base ≤ k := (h.lt k hk).1
theorem own_lower {w : World} {base base' : Nat} {e : TypeId} {size n : Nat} {v : Value} {xs : List Value} (h : w.ownsRow base e size v n xs) (hb : base' ≤ base) : w.ownsRow base' e size v n xs := by
  refine ⟨h.1, ?_⟩
  rcases h.2 with h0 | ⟨g, cap, cur, rfl, hg, r⟩
  · exact .inl h0
  · exact .inr ⟨g, cap, cur, rfl, Nat.le_trans hb hg, r⟩
theorem own_typed {w : World} {base : Nat} {e : TypeId} {size n : Nat} {v : Value} {xs : List Value} (h : w.ownsRow base e size v n xs) {k : Nat} (hk : v.ownBlock = some k) : ∃ cells, w.heap[k]? = some (.cells cells e (0, 0)) := by
  rcases h.2 with ⟨rfl, _⟩ | ⟨g, cap, cur, rfl, _, hh, _⟩
  · simp [Value.ownBlock] at hk
  · simp only [Value.ownBlock, Option.some.injEq] at hk
    subst hk; exact ⟨cur, hh⟩
theorem own_slice {w : World} {base : Nat} {e : TypeId} {size n : Nat} {v : Value} {xs : List Value} (h : w.ownsRow base e size v n xs) : ∃ A c, v = .slice A n c ∧ n ≤ c ∧ n ≤ maxLen := by
  rcases h.2 with ⟨rfl, rfl⟩ | ⟨g, cap, cur, rfl, _, _, h1, h2, _⟩
  · exact ⟨_, _, rfl, Nat.le_refl _, Nat.zero_le _⟩
  · exact ⟨_, _, rfl, h1, Nat.le_trans h1 h2⟩
end Gb

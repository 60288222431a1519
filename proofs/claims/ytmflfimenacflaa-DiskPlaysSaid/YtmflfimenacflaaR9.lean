/- Both disks in one memory: what a change of the one leaves of the other. -/
import Derived.Test.YtmflfimenacflaaR8
set_option linter.unusedVariables false
set_option linter.unusedSimpArgs false
namespace Go.Proofs.Ytmflfimenacflaa
open Go.RowKit Gb
structure Both (w : World) (db mb xb : Nat) (cap : Int) (wr : World) (fs : Files) (sv : Value) (rs : List RF) : Prop where
  disk : DiskAt wr db mb cap fs
  ref : RefAt wr xb cap sv rs
  dOwn : ∀ k, Foot db mb fs k → w.heap.size ≤ k
  rOwn : ∀ k, RFoot xb sv rs k → w.heap.size ≤ k
  apart : ∀ k, Foot db mb fs k → ¬ RFoot xb sv rs k
  step : Step No w wr
section
variable {w wr W W' : World} {db mb xb : Nat} {cap : Int} {fs : Files} {sv : Value} {rs : List RF}
theorem Both.no (h : Both w db mb xb cap wr fs sv rs) (hs : Step No wr W) : Both w db mb xb cap W fs sv rs :=
  ⟨h.disk.step hs (fun _ _ h => h), h.ref.stepNo hs, h.dOwn, h.rOwn, h.apart, h.step.trans' hs⟩
theorem Both.toDisk {V' : View} (h : Both w db mb xb cap W fs sv rs) (hp : DiskPost db mb cap fs W W' V') : ∃ fs', view fs' = V' ∧ Both w db mb xb cap W' fs' sv rs := by
  obtain ⟨fs', hd, hv, hs, hf⟩ := hp
  refine ⟨fs', hv, hd, h.ref.step hs (fun k hk hf' => h.apart k hf' hk), fun k hk => ?_, h.rOwn, fun k hk hr => ?_, h.step.trans hs (fun k hk hlt => by have := h.dOwn k hk; omega)⟩
  · rcases hf k hk with h1 | h1
    · exact h.dOwn k h1
    · exact Nat.le_trans h.step.size h1
  · rcases hf k hk with h1 | h1
    · exact h.apart k h1 hr
    · have := h.ref.lt hr; omega
theorem Both.toRef {p : List RF → Prop} (h : Both w db mb xb cap W fs sv rs) (hp : RPost xb cap sv rs W W' p) : ∃ sv' rs', p rs' ∧ Both w db mb xb cap W' fs sv' rs' := by
  obtain ⟨sv', rs', hr, hs, hf, hp⟩ := hp
  refine ⟨sv', rs', hp, h.disk.step hs (fun k hk hf' => h.apart k hk hf'), hr, h.dOwn, fun k hk => ?_, fun k hk hr' => ?_, h.step.trans hs (fun k hk hlt => by have := h.rOwn k hk; omega)⟩
  · rcases hf k hk with h1 | h1
    · exact h.rOwn k h1
    · exact Nat.le_trans h.step.size h1
  · rcases hf k hr' with h1 | h1
    · exact h.apart k hk h1
    · have := h.disk.lt hk; omega
end
theorem app_same {rs : List RF} {V : View} (h : Cpl rs V) (cap : Int) (s : ByteArray) (n : Nat) : rappE rs cap s n = appE V cap s n := by
  unfold rappE appE
  rw [h.used]
  cases okName s
  · rfl
  · simp only [if_true]
    by_cases hc : cap < (vused V : Int) + n
    · rw [if_pos hc, if_pos (by omega)]
    · rw [if_neg hc, if_neg (by omega)]
theorem read_same {rs : List RF} {V : View} (h : Cpl rs V) (hn : (V.map Prod.fst).Nodup) (s : ByteArray) : rreadE rs s = readE V s := by
  unfold rreadE readE
  have e : rhas rs s = (mget V s).isSome := by
    rw [h.get hn]
    unfold rhas
    by_cases hl : rplace rs s < rs.length
    · rw [decide_eq_true hl, List.getElem?_eq_getElem hl]; rfl
    · rw [decide_eq_false hl, List.getElem?_eq_none (by omega)]; rfl
  rw [e]
/-- what Append leaves, on both sides -/
theorem Cpl.appP {rs rs' : List RF} {V : View} {cap : Int} {s : ByteArray} {l : List UInt8} (h : Cpl rs V) (hn : (V.map Prod.fst).Nodup) (ha : RAppP rs cap s l rs') : Cpl rs' (if appE V cap s l.length = 0 then vapp V s l else V) := by
  have e := app_same h cap s l.length
  split
  · rename_i h0
    exact h.app hn (ha.1 (by rw [e]; exact h0))
  · rename_i h0
    rw [ha.2 (by rw [e]; exact h0)]
    exact h
end Go.Proofs.Ytmflfimenacflaa

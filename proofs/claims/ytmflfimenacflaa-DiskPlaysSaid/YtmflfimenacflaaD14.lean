/- The law's operation as a representation, and the plain laws of its state. -/
import Derived.Test.YtmflfimenacflaaD13
import Derived.Test.YtmflfimenacflaaD16
import Derived.Deep.DeepCutAuto
import Derived.Deep.CutBlock
set_option linter.unusedVariables false
set_option linter.unusedSimpArgs false
namespace Go.Proofs.Ytmflfimenacflaa
open Go.RowKit Gb
structure OpR where
  kind : Int
  a : ByteArray
  b : ByteArray
  data : List UInt8
  names : List ByteArray
  cuts : List Int
def Rep.op : Rep OpR := Rep.iso (Rep.pair Rep.int (Rep.pair Rep.str (Rep.pair Rep.str (Rep.pair Rep.u8.slice (Rep.pair Rep.str.slice Rep.int.slice))))) (fun o => (o.kind, o.a, o.b, o.data, o.names, o.cuts))
theorem Rep.op_open {w : World} {F : Nat → Prop} {o : OpR} {cs : List Value} (h : Rep.op.K w F o cs) :
    ∃ v3 v4 v5, cs = [.int .i64 o.kind, .string o.a, .string o.b, v3, v4, v5] ∧ I64 o.kind ∧ StrOk o.a ∧ StrOk o.b ∧ Rd Rep.u8 w F v3 o.data ∧ Rd Rep.str w F v4 o.names ∧ Rd Rep.int w F v5 o.cuts := by
  obtain ⟨c0, r0, rfl, ⟨rfl, h0⟩, c1, r1, rfl, ⟨rfl, h1⟩, c2, r2, rfl, ⟨rfl, h2⟩, c3, r3, rfl, h3, c4, c5, rfl, h4, h5⟩ := h
  obtain ⟨A3, n3, e3, _⟩ := id h3
  obtain ⟨A4, n4, e4, _⟩ := id h4
  obtain ⟨A5, n5, e5, _⟩ := id h5
  subst e3 e4 e5
  exact ⟨_, _, _, rfl, h0, h1, h2, h3, h4, h5⟩
def OpSz (o : OpR) : Prop := o.data.length ≤ 140737488351232 ∧ o.names.length * 16 ≤ 140737488351232
theorem len_mput_le {κ ν : Type} [DecidableEq κ] (m : List (κ × ν)) (k : κ) (v : ν) : (mput m k v).length ≤ m.length + 1 := by
  cases h : mget m k with
  | none => rw [mput_none h]; simp
  | some y => rw [mput_some h]; simp
theorem len_mput_some {κ ν : Type} [DecidableEq κ] {m : List (κ × ν)} {k : κ} {y : ν} (h : mget m k = some y) (v : ν) : (mput m k v).length = m.length := by rw [mput_some h]; simp
theorem len_vsync (V : View) (s : ByteArray) : (vsync V s).length = V.length := by
  unfold vsync
  split
  · rename_i h; exact len_mput_some h _
  · rfl
theorem len_vsyncs (V : View) (ss : List ByteArray) : (vsyncs V ss).length = V.length := by
  induction ss generalizing V with
  | nil => rfl
  | cons s ss ih => show (vsyncs (vsync V s) ss).length = _; rw [ih, len_vsync]
theorem len_vdels (V : View) (ss : List ByteArray) : (vdels V ss).length ≤ V.length := by
  induction ss generalizing V with
  | nil => exact Nat.le_refl _
  | cons s ss ih =>
    show (vdels (mdel V s) ss).length ≤ _
    exact Nat.le_trans (ih _) (List.Sublist.length_le (mdel_sub V s))
theorem len_vcr (st : View × List Int) (s : ByteArray) : (vcr st s).1.length = st.1.length := by
  unfold vcr
  split
  · rfl
  · rename_i h
    split
    · rfl
    · exact len_mput_some h _
theorem len_vcrs (V : View) (cuts : List Int) (ss : List ByteArray) : (vcrs V cuts ss).1.length = V.length := by
  unfold vcrs
  suffices h : ∀ st : View × List Int, (ss.foldl vcr st).1.length = st.1.length from h (V, cuts)
  induction ss with
  | nil => intro st; rfl
  | cons s ss ih => intro st; rw [List.foldl_cons, ih, len_vcr]
/-- the state of the law's disk: its blocks are its own; it has few files -/
structure DState (w : World) (B : Nat) (db mb : Nat) (cap : Int) (n : Nat) (wr : World) (fs : Files) : Prop where
  disk : DiskAt wr db mb cap fs
  own : ∀ k, Foot db mb fs k → B ≤ k
  step : Step No w wr
  few : fs.length ≤ n
  ok : VOk (view fs)
theorem DState.post {w wr W W' : World} {B db mb n n' : Nat} {cap : Int} {fs : Files} {V' : View} (h : DState w B db mb cap n wr fs) (hB : B = w.heap.size) (hW : Step No wr W) (hp : DiskPost db mb cap fs W W' V') (hl : V'.length ≤ n') (hok : VOk V') : ∃ fs', DState w B db mb cap n' W' fs' ∧ view fs' = V' := by
  obtain ⟨fs', hd, hv, hs, hf⟩ := hp
  have := post_chain (h.step.trans' hW) (fun k hk => by have := h.own k hk; omega) hs hf
  refine ⟨fs', ⟨hd, fun k hk => by have := this.2 k hk; omega, this.1, ?_, by rw [hv]; exact hok⟩, hv⟩
  have := len_of_view hv
  omega
end Go.Proofs.Ytmflfimenacflaa

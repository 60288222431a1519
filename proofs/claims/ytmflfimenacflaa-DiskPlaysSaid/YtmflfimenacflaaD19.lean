/- The law DiskPlays as a row: whatever the capacity and the operations, it answers true and leaves its arguments as they were. -/
import Derived.Test.YtmflfimenacflaaR19
import Derived.Test.YtmflfimenacflaaRows
import Derived.Test.YtmflfimenacflaaGbOpen
import Derived.WalkKit
import Derived.ProofKit
import Derived.OpenShut
import Derived.ShutString
import Derived.ChangeOld
import Derived.Below
import Derived.SizedLaws
import Derived.Carry
set_option linter.unusedVariables false
set_option linter.unusedSimpArgs false
namespace Go.Proofs.Ytmflfimenacflaa.diskPlays
open Go.ChangeShapes Go.WideShapes Go.ChangeAt Go.RowKit
open Gb
theorem own : ownKnob Try.prog.godebug = none := by kernel_rfl
theorem laidOut : laidOutB Try.prog = true := by kernel_rfl
theorem opensOp : Opens Try.prog 48 Rep.op (fun o => OpSz2 o) := by
  have h := Opens.struct (P := Try.prog) (t := 48) Try.underlying48 (FOpens.cons (Opens.int Try.underlying3 (by kernel_rfl)) rfl (FOpens.cons (Opens.str Try.underlying9 (by kernel_rfl)) rfl (FOpens.cons (Opens.str Try.underlying9 (by kernel_rfl)) rfl
    (FOpens.cons (Opens.slice 1 (Opens.u8 Try.underlying5 (by kernel_rfl)) Try.underlying32 (by kernel_rfl) (by kernel_rfl) (by decide)) rfl (FOpens.cons (Opens.slice 16 (Opens.str Try.underlying9 (by kernel_rfl)) Try.underlying22 (by kernel_rfl) (by kernel_rfl) (by decide)) rfl
      (FOpens.last (Opens.slice 8 (Opens.int Try.underlying3 (by kernel_rfl)) Try.underlying46 (by kernel_rfl) (by kernel_rfl) (by decide)) rfl)))))) (by kernel_rfl)
  have h2 := h.iso (fun (o : OpR) => (o.kind, o.a, o.b, o.data, o.names, o.cuts)) (fun x => ⟨x.1, x.2.1, x.2.2.1, x.2.2.2.1, x.2.2.2.2.1, x.2.2.2.2.2⟩) (fun _ => rfl)
  refine h2.weaken fun o h => ?_
  obtain ⟨_, _, _, h3, h4, h5⟩ := h
  exact ⟨by simpa using h3.1, h4.1, h5.1⟩
theorem opensOps : Opens Try.prog 45 Rep.op.slice (fun l => l.length * 112 ≤ 140737488351232 ∧ ∀ o ∈ l, OpSz2 o) :=
  Opens.slice 112 opensOp Try.underlying45 (by kernel_rfl) (by kernel_rfl) (by decide)
set_option maxRecDepth 100000 in
theorem lifted (os : Os) (started : os.Started) (H : Type) (enc : TypeId × Value → H) :
    ReturnsInHanded {} Try.checked os 5 .any (Rows.diskPlaysSpec.pre6 enc Try.prog Try.f5 Rows.diskPlaysRow.domain false) (Rows.diskPlaysSpec.post enc Try.prog Try.f5 false true false false) := by
  refine returnsInHanded_of_change_sized (C := Try.checked) own started (by kernel_rfl) Try.func5
    (ChangeSpec.witness6 (enc := enc) (C := Try.checked) false ⟨#[], #[.int .i64 0, .slice none 0 0], []⟩ 8 (by kernel_rfl) (by kernel_rfl) (by kernel_rfl) (by kernel_rfl)) ?_
  intro W base args ds gs before hval0 hW hcnd hsz0 _
  have hsz : (DataW.weightsEach Try.prog (Try.f5.params.toList ++ Rows.diskPlaysSpec.plain.varTypes Try.prog) (ds ++ gs)).all (· ≤ reachBytes) = true := hsz0
  have hval : ∀ (j : Nat) t v, Try.f5.params[j]? = some t → args[j]? = some v → Value.okWide Try.prog W .any base t v := hval0
  have hW' := hW
  obtain ⟨p, q, hA0, hV, rfl, hfz, hnd⟩ := hW
  have hA : DataW.TrodAll enc Try.prog W 0 (fun _ => true) true Try.f5.params.toList args.toList ds p := hA0
  rw [Try.params5] at hA hval hsz
  obtain ⟨v0, vs0, d0, ds0, p0, q0, hargs, rfl, rfl, h0, r0⟩ := trodAll_cons hA
  obtain ⟨v1, vs1, d1, ds1, p1, q1, rfl, rfl, rfl, h1, r1⟩ := trodAll_cons r0
  obtain ⟨rfl, rfl, rfl⟩ := trodAll_nil r1
  obtain rfl : args = #[v0, v1] := by cases args; simp_all
  obtain ⟨rfl, rfl⟩ := trodVars_none hV
  obtain ⟨a0, rfl, rfl, rfl, w0⟩ := open_int Try.underlying3 (hval 0 3 v0 rfl rfl) h0
  obtain ⟨a1, len1, cap1, rfl⟩ := okWide_slice Try.underlying45 (hval 1 45 v1 rfl rfl)
  have k1 := h1
  have lt1 : ∀ x ∈ p1, x.block < W.heap.size := by obtain ⟨m, hm⟩ := k1; exact DataW.trod_lt m _ _ _ hm
  obtain ⟨ops, ho1, ho2, ho3⟩ := opensOps.arg h1 (weights_at hsz (j := 1) (t := 45) rfl rfl)
  clear hA0 hval0 hsz0 hsz
  refine (f5_any a0 _ ops W ho1 ho3 (by omega)).mono fun e W' ⟨he, hst⟩ => ?_
  have bel : Below W.heap.size W W' := hst.belowNo
  subst he
  exact ⟨_, rfl, _, _, _, [], _, [], hW', trodAll_mk1 (shut_bool Try.underlying4 _), (trodAll_cons_mk (shut_int Try.underlying3 w0) (trodAll_cons_mk (Below.trod laidOut (by kernel_rfl) (of_decide_eq_true (by kernel_rfl)) k1 bel lt1) trodAll_mk0)), rfl, bel.frame _, fun h => by cases h⟩
theorem over : Rows.diskPlaysRow.holds Try.pinned (OpenSpec.ofChange Rows.diskPlaysSpec) :=
  OpenClaim.holds_of_wide 5 Try.f5 rfl rfl rfl rfl rfl rfl rfl ⟨rfl, rfl, rfl, rfl, rfl⟩ rfl rfl rfl rfl rfl (by kernel_rfl) Try.func5 (by kernel_rfl)
    (of_decide_eq_true (by kernel_rfl)) (by unfold Func.isWrapper; first | (rw [if_pos (by decide +kernel)]; kernel_rfl) | (rw [if_neg (by decide +kernel)]; exact ⟨rfl, rfl⟩))
    (fun os started H enc _ => lifted os started H enc)
theorem proved : Rows.DiskPlaysSaid := over
end Go.Proofs.Ytmflfimenacflaa.diskPlays
namespace Go.Proofs.Ytmflfimenacflaa
theorem diskPlays_holds : Rows.DiskPlaysSaid := diskPlays.proved
end Go.Proofs.Ytmflfimenacflaa

/- The law LeaseKeeps as a row: whatever the notes, it answers true and leaves them as they were. -/
import Derived.Test.YtngganllammcpaaL13
import Derived.Test.YtngganllammcpaaRows
import Derived.Test.YtngganllammcpaaGbOpen
import Derived.WalkKit
import Derived.ProofKit
import Derived.OpenShut
import Derived.ShutString
import Derived.ChangeOld
import Derived.Below
import Derived.SizedLaws
import Derived.Carry
set_option linter.unusedVariables false
set_option linter.unusedSimpArgs false
namespace Go.Proofs.Ytngganllammcpaa.leaseKeeps
open Go.ChangeShapes Go.WideShapes Go.ChangeAt Go.RowKit
open Gb
theorem own : ownKnob Try.prog.godebug = none := by kernel_rfl
theorem laidOut : laidOutB Try.prog = true := by kernel_rfl
theorem conv {P : Program} {t : TypeId} {α : Type} {d d' : Rep α} {Sz : α → Prop} (ho : Opens P t d Sz) (hs : d.sz = d'.sz) (hk : ∀ w F x cs, d.K w F x cs → d'.K w F x cs) : Opens P t d' Sz :=
  ⟨by rw [ho.cells, hs], fun h hw => by
    obtain ⟨x, h1, h2⟩ := ho.get h hw
    exact ⟨x, hk _ _ _ _ h1, h2⟩⟩
theorem opensKey : Opens Try.prog 33 (Rep.pair Rep.str Rep.int) (fun _ => True) :=
  (Opens.struct (P := Try.prog) (t := 33) Try.underlying33 (FOpens.cons (Opens.str Try.underlying9 (by kernel_rfl)) rfl (FOpens.last (Opens.int Try.underlying3 (by kernel_rfl)) rfl)) (by kernel_rfl)).weaken fun _ _ => trivial
theorem opensSes : Opens Try.prog 36 Rep.ses (fun _ => True) := by
  have h := Opens.struct (P := Try.prog) (t := 36) Try.underlying36 (FOpens.cons opensKey rfl (FOpens.cons (Opens.int Try.underlying3 (by kernel_rfl)) rfl (FOpens.cons (Opens.int Try.underlying3 (by kernel_rfl)) rfl
    (FOpens.cons (Opens.int Try.underlying3 (by kernel_rfl)) rfl (FOpens.cons (Opens.int Try.underlying3 (by kernel_rfl)) rfl (FOpens.last (Opens.slice 1 (Opens.u8 Try.underlying5 (by kernel_rfl)) Try.underlying34 (by kernel_rfl) (by kernel_rfl) (by decide)) rfl)))))) (by kernel_rfl)
  have h2 := h.iso (fun (s : SR) => ((s.home, s.n), s.nonce, s.lease, s.beats, s.req, s.reply)) (fun x => ⟨x.1.1, x.1.2, x.2.1, x.2.2.1, x.2.2.2.1, x.2.2.2.2.1, x.2.2.2.2.2⟩) (fun _ => rfl)
  refine conv (h2.weaken fun _ _ => trivial) rfl fun w F s cs h => ?_
  obtain ⟨_, r, rfl, ⟨d1, d2, rfl, ha, hb⟩, hr⟩ := h
  exact ⟨d1, d2 ++ r, List.append_assoc _ _ _, ha, d2, r, rfl, hb, hr⟩
theorem opensNote : Opens Try.prog 31 Rep.note NSz := by
  have h := Opens.struct (P := Try.prog) (t := 31) Try.underlying31 (FOpens.cons (Opens.int Try.underlying3 (by kernel_rfl)) rfl (FOpens.cons (Opens.int Try.underlying3 (by kernel_rfl)) rfl
    (FOpens.last (Opens.slice 80 opensSes Try.underlying29 (by kernel_rfl) (by kernel_rfl) (by decide)) rfl))) (by kernel_rfl)
  have h2 := h.iso (fun (n : NR) => (n.now, n.ask, n.list)) (fun x => ⟨x.1, x.2.1, x.2.2⟩) (fun _ => rfl)
  refine h2.weaken fun n h => ?_
  obtain ⟨_, _, h3⟩ := h
  exact h3.1
theorem opensNotes : Opens Try.prog 22 Rep.note.slice (fun l => l.length * 40 ≤ 140737488351232 ∧ ∀ n ∈ l, NSz n) :=
  Opens.slice 40 opensNote Try.underlying22 (by kernel_rfl) (by kernel_rfl) (by decide)
set_option maxRecDepth 100000 in
theorem lifted (os : Os) (started : os.Started) (H : Type) (enc : TypeId × Value → H) :
    ReturnsInHanded {} Try.checked os 3 .any (Rows.leaseKeepsSpec.pre6 enc Try.prog Try.f3 Rows.leaseKeepsRow.domain false) (Rows.leaseKeepsSpec.post enc Try.prog Try.f3 false true false false) := by
  refine returnsInHanded_of_change_sized (C := Try.checked) own started (by kernel_rfl) Try.func3
    (ChangeSpec.witness6 (enc := enc) (C := Try.checked) false ⟨#[], #[.slice none 0 0], []⟩ 8 (by kernel_rfl) (by kernel_rfl) (by kernel_rfl) (by kernel_rfl)) ?_
  intro W base args ds gs before hval0 hW hcnd hsz0 _
  have hsz : (DataW.weightsEach Try.prog (Try.f3.params.toList ++ Rows.leaseKeepsSpec.plain.varTypes Try.prog) (ds ++ gs)).all (· ≤ reachBytes) = true := hsz0
  have hval : ∀ (j : Nat) t v, Try.f3.params[j]? = some t → args[j]? = some v → Value.okWide Try.prog W .any base t v := hval0
  have hW' := hW
  obtain ⟨p, q, hA0, hV, rfl, hfz, hnd⟩ := hW
  have hA : DataW.TrodAll enc Try.prog W 0 (fun _ => true) true Try.f3.params.toList args.toList ds p := hA0
  rw [Try.params3] at hA hval hsz
  obtain ⟨v1, vs1, d1, ds1, p1, q1, hargs, rfl, rfl, h1, r1⟩ := trodAll_cons hA
  obtain ⟨rfl, rfl, rfl⟩ := trodAll_nil r1
  obtain rfl : args = #[v1] := by cases args; simp_all
  obtain ⟨rfl, rfl⟩ := trodVars_none hV
  obtain ⟨a1, len1, cap1, rfl⟩ := okWide_slice Try.underlying22 (hval 0 22 v1 rfl rfl)
  have k1 := h1
  have lt1 : ∀ x ∈ p1, x.block < W.heap.size := by obtain ⟨m, hm⟩ := k1; exact DataW.trod_lt m _ _ _ hm
  obtain ⟨ns, ho1, ho2, ho3⟩ := opensNotes.arg h1 (weights_at hsz (j := 0) (t := 22) rfl rfl)
  clear hA0 hval0 hsz0 hsz
  refine (f3_any _ ns W ho1 ho3).mono fun e W' ⟨he, hst⟩ => ?_
  have bel : Below W.heap.size W W' := hst.belowNo
  subst he
  exact ⟨_, rfl, _, _, _, [], _, [], hW', trodAll_mk1 (shut_bool Try.underlying4 _), (trodAll_cons_mk (Below.trod laidOut (by kernel_rfl) (of_decide_eq_true (by kernel_rfl)) k1 bel lt1) trodAll_mk0), rfl, bel.frame _, fun h => by cases h⟩
theorem over : Rows.leaseKeepsRow.holds Try.pinned (OpenSpec.ofChange Rows.leaseKeepsSpec) :=
  OpenClaim.holds_of_wide 3 Try.f3 rfl rfl rfl rfl rfl rfl rfl ⟨rfl, rfl, rfl, rfl, rfl⟩ rfl rfl rfl rfl rfl (by kernel_rfl) Try.func3 (by kernel_rfl)
    (of_decide_eq_true (by kernel_rfl)) (by unfold Func.isWrapper; first | (rw [if_pos (by decide +kernel)]; kernel_rfl) | (rw [if_neg (by decide +kernel)]; exact ⟨rfl, rfl⟩))
    (fun os started H enc _ => lifted os started H enc)
theorem proved : Rows.LeaseKeepsSaid := over
end Go.Proofs.Ytngganllammcpaa.leaseKeeps
namespace Go.Proofs.Ytngganllammcpaa
theorem leaseKeeps_holds : Rows.LeaseKeepsSaid := leaseKeeps.proved
end Go.Proofs.Ytngganllammcpaa

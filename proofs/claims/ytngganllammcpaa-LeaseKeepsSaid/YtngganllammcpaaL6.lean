/- SortFunc over known sessions; the order of keys; what a keeper knows behind a note, as plain lists. -/
import Derived.Test.YtngganllammcpaaL5
import Derived.Test.YtngganllammcpaaGbSort
import Derived.Test.YtngganllammcpaaGbWide
import Derived.Test.YtngganllammcpaaLays
set_option linter.unusedVariables false
set_option linter.unusedSimpArgs false
set_option linter.unusedVariables false
set_option linter.unusedSimpArgs false
namespace Go.Proofs.Ytngganllammcpaa
open Go Go.RowKit Gb
/-- the order of keys -/
def KLt (h1 : ByteArray) (n1 : Int) (h2 : ByteArray) (n2 : Int) : Prop := bs h1 < bs h2 ∨ (h1 = h2 ∧ n1 < n2)
theorem lt_irr (a : List UInt8) : ¬ a < a := List.lt_irrefl a
theorem KLt.irr {h : ByteArray} {n : Int} : ¬ KLt h n h n := by
  rintro (h | ⟨_, h⟩)
  · exact lt_irr _ h
  · omega
theorem KLt.trans {h1 h2 h3 : ByteArray} {n1 n2 n3 : Int} (a : KLt h1 n1 h2 n2) (b : KLt h2 n2 h3 n3) : KLt h1 n1 h3 n3 := by
  rcases a with a | ⟨rfl, a⟩
  · rcases b with b | ⟨rfl, b⟩
    · exact .inl (List.lt_trans a b)
    · exact .inl a
  · rcases b with b | ⟨rfl, b⟩
    · exact .inl b
    · exact .inr ⟨rfl, by omega⟩
theorem KLt.total {h1 h2 : ByteArray} {n1 n2 : Int} (h : ¬ KLt h1 n1 h2 n2) : KLt h2 n2 h1 n1 ∨ (h1 = h2 ∧ n1 = n2) := by
  by_cases e : h1 = h2
  · subst e
    by_cases e2 : n1 = n2
    · exact .inr ⟨rfl, e2⟩
    · refine .inl (.inr ⟨rfl, ?_⟩)
      have : ¬ n1 < n2 := fun h2 => h (.inr ⟨rfl, h2⟩)
      omega
  · refine .inl (.inl ?_)
    have h1' : ¬ bs h1 < bs h2 := fun h2 => h (.inl h2)
    rcases List.le_iff_lt_or_eq.1 (List.not_lt.1 h1') with h3 | h3
    · exact h3
    · exact absurd (bs_inj h3).symm e
theorem byKey_lt (a b : KR) : byKey a b < 0 ↔ KLt a.home a.n b.home b.n := by
  unfold byKey orI cmpS KLt
  by_cases h1 : bs a.home < bs b.home
  · rw [if_pos h1]
    simp [h1]
  · rw [if_neg h1]
    by_cases h2 : bs b.home < bs a.home
    · rw [if_pos h2]
      have hne : a.home ≠ b.home := fun e => by rw [e] at h2; exact lt_irr _ h2
      simp [h1, hne]
    · rw [if_neg h2]
      have he : a.home = b.home := bs_inj (List.le_antisymm (List.not_lt.1 h2) (List.not_lt.1 h1))
      rw [if_pos rfl]
      unfold cmpI
      by_cases h3 : a.n < b.n
      · simp [h3, he]
      · by_cases h4 : b.n < a.n
        · simp [h3, h4]; rw [he]; exact lt_irr _
        · simp [h3, h4]; rw [he]; exact lt_irr _
theorem ltOf_iff (a b : KR) : Go.Proofs.ltOf byKey a b = true ↔ KLt a.home a.n b.home b.n := by
  unfold Go.Proofs.ltOf
  rw [decide_eq_true_iff, byKey_lt]
theorem ltOf_no (a b : KR) : Go.Proofs.ltOf byKey a b = false ↔ ¬ KLt a.home a.n b.home b.n := by
  rw [← ltOf_iff, Bool.not_eq_true]
theorem swoKey : Go.Sort.SWO (Go.Proofs.ltOf byKey) where
  irrefl x := (ltOf_no x x).2 KLt.irr
  trans x y z h1 h2 := (ltOf_iff x z).2 (((ltOf_iff x y).1 h1).trans ((ltOf_iff y z).1 h2))
  ntrans x y z h1 h2 := by
    rw [ltOf_no] at *
    intro h
    rcases KLt.total h1 with a | ⟨a, b⟩
    · rcases KLt.total h2 with c | ⟨c, d⟩
      · exact KLt.irr ((c.trans a).trans h)
      · rw [← c, ← d] at h; exact h1 h
    · rw [a, b] at h; exact h2 h
instance : Inhabited KR := ⟨KR.zero⟩
theorem isAgg80 (w : World) : (Go.isAgg 80).run Try.prog w = .ok true w := by kernel_rfl
theorem sizeOf80 (w : World) : (Go.sizeOf 80).run Try.prog w = .ok 8 w := by kernel_rfl
theorem f28_any (v : Value) (ks : List KR) (w : World) (h : SRow KR.cells 8 w 80 v ks) (hx : ks.length < 4611686018427387904) :
    Calls Try.prog 28 #[v, .func (.func 29) #[] #[]] w fun e w' => e = .returned (.tuple #[]) ∧ ∃ ys : List KR, ys.Perm ks ∧ ys.Pairwise (fun a b => ¬ KLt b.home b.n a.home a.n) ∧ SRow KR.cells 8 w' 80 v ys ∧ Step (Own v) w w' := by
  have eg : ∀ args w, (callFunc 29 args).run Try.prog w = .ok (.enter 29 args) w := enters_of Try.func29 (by kernel_rfl) rfl
  have hcon := sortFunc_row Try.sortKnown isAgg80 sizeOf80 KR.hl (by decide) KR.one byKey swoKey 29 #[] eg h hx (fun x y W _ => f29_any x y W)
  refine hcon.mono ?_
  rintro e w' ⟨rfl, ys, h1, h2, h3, h4⟩
  exact ⟨rfl, ys, h1, h2.imp (fun {a b} h => (ltOf_no b a).1 h), h3, h4⟩
end Go.Proofs.Ytngganllammcpaa

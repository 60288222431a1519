/- Maps as association lists: the laws of look-up, store, delete, len and range on a map's block, over any key type that has the bundle 'Keyed'. Conditions: each key is one that the key type reads. -/
import Derived.Maps.OwnSet
import Derived.Maps.RangeWalk
import Derived.WalkKit
import Derived.Test.YtngganllammcpaaGbStep
set_option linter.unusedVariables false
set_option linter.unusedSimpArgs false
namespace Gb
open Go Go.RowKit Go.Maps
open Go.ChangeMaps (setBlock)
open Go.MapKept (Stamped)

def KeyV (P : Program) (k : TypeId) (v : Value) : Prop := ∃ l, keyOf P k v = some l

section
variable {κ ν : Type}

/-- the entries of a map's block are those of an association list, in order -/
structure MapB (P : Program) (k : TypeId) (kv : κ → Value) (vv : ν → Value) (es : Array MapEntry) (clock : Nat) (m : List (κ × ν)) : Prop where
  ents : es.toList.map (fun e => (e.key, e.val)) = m.map (fun p => (kv p.1, vv p.2))
  keys : ∀ e ∈ es.toList, KeyV P k e.key
  stamped : Stamped es clock

def MapAt (P : Program) (k : TypeId) (kv : κ → Value) (vv : ν → Value) (w : World) (b : Nat) (m : List (κ × ν)) : Prop :=
  ∃ es clock, w.heap[b]? = some (.map es clock) ∧ MapB P k kv vv es clock m

def mget [DecidableEq κ] : List (κ × ν) → κ → Option ν
  | [], _ => none
  | p :: m, k => if p.1 = k then some p.2 else mget m k
def mput [DecidableEq κ] (m : List (κ × ν)) (k : κ) (v : ν) : List (κ × ν) :=
  if (mget m k).isSome then m.map (fun p => if p.1 = k then (k, v) else p) else m ++ [(k, v)]
def mdel [DecidableEq κ] (m : List (κ × ν)) (k : κ) : List (κ × ν) := m.filter (fun p => p.1 ≠ k)

theorem mdel_length [DecidableEq κ] {m : List (κ × ν)} {x : κ × ν} (hx : x ∈ m) : (mdel m x.1).length < m.length :=
  List.length_filter_lt_length_iff_exists.2 ⟨x, hx, by simp⟩
theorem mdel_sub [DecidableEq κ] (m : List (κ × ν)) (k : κ) : (mdel m k).Sublist m := List.filter_sublist
theorem mdel_nodup [DecidableEq κ] {m : List (κ × ν)} (h : (m.map Prod.fst).Nodup) (k : κ) : ((mdel m k).map Prod.fst).Nodup := h.sublist ((mdel_sub m k).map _)
theorem MapAt.lt {P : Program} {k : TypeId} {kv : κ → Value} {vv : ν → Value} {w : World} {b : Nat} {m : List (κ × ν)} (h : MapAt P k kv vv w b m) : b < w.heap.size := by
  obtain ⟨es, clock, hb, _⟩ := h
  exact (Array.getElem?_eq_some_iff.1 hb).1

theorem MapAt.move {P : Program} {k : TypeId} {kv : κ → Value} {vv : ν → Value} {w w' : World} {b : Nat} {m : List (κ × ν)} (h : MapAt P k kv vv w b m) (hw : w'.heap[b]? = w.heap[b]?) : MapAt P k kv vv w' b m := by
  obtain ⟨es, clock, hb, r⟩ := h
  exact ⟨es, clock, hw.trans hb, r⟩

theorem MapAt.made (P : Program) (k : TypeId) (kv : κ → Value) (vv : ν → Value) (w : World) : MapAt P k kv vv (w.alloc (.map #[] 0)) w.heap.size [] :=
  ⟨#[], 0, heap_alloc_new w _, by simp, by simp, by simp [Stamped]⟩

/-- a change of ghosts alone -/
theorem MapAt.ghost {ν' : Type} {P : Program} {k : TypeId} {kv : κ → Value} {vv : ν → Value} {vv' : ν' → Value} {w : World} {b : Nat} {m : List (κ × ν)} {m' : List (κ × ν')} (h : MapAt P k kv vv w b m)
    (he : m.map (fun p => (kv p.1, vv p.2)) = m'.map (fun p => (kv p.1, vv' p.2))) : MapAt P k kv vv' w b m' := by
  obtain ⟨es, clock, hb, h1, h2, h3⟩ := h
  exact ⟨es, clock, hb, h1.trans he, h2, h3⟩

variable {P : Program} {k : TypeId} {kv : κ → Value} {vv : ν → Value}

theorem MapB.nodup {es : Array MapEntry} {clock : Nat} {m : List (κ × ν)} (h : MapB P k kv vv es clock m) : (m.map (fun p => kv p.1)).Nodup := by
  have h2 := h.stamped.2.2
  have h1 := congrArg (List.map Prod.fst) h.ents
  simp only [List.map_map] at h1
  have e : es.toList.map (·.key) = m.map (fun p => kv p.1) := h1
  rw [← e]; exact h2

theorem nodup_fst {m : List (κ × ν)} (h : (m.map (fun p => kv p.1)).Nodup) : (m.map Prod.fst).Nodup := by
  have : m.map (fun p => kv p.1) = (m.map Prod.fst).map kv := by simp [List.map_map]
  rw [this] at h
  exact (List.pairwise_map.1 h).imp (fun h e => h (by rw [e]))

theorem MapAt.nodup {w : World} {b : Nat} {m : List (κ × ν)} (h : MapAt P k kv vv w b m) : (m.map Prod.fst).Nodup := by
  obtain ⟨es, clock, hb, r⟩ := h
  exact nodup_fst r.nodup

theorem MapAt.keyV {w : World} {b : Nat} {m : List (κ × ν)} (h : MapAt P k kv vv w b m) {p : κ × ν} (hp : p ∈ m) : KeyV P k (kv p.1) := by
  obtain ⟨es, clock, hb, r⟩ := h
  have : (kv p.1, vv p.2) ∈ es.toList.map (fun e => (e.key, e.val)) := by rw [r.ents]; exact List.mem_map.2 ⟨p, hp, rfl⟩
  obtain ⟨e, he, h1⟩ := List.mem_map.1 this
  have h2 := r.keys e he
  have : e.key = kv p.1 := congrArg Prod.fst h1
  rw [← this]; exact h2

theorem MapAt.len {w : World} {b : Nat} {m : List (κ × ν)} {t e : TypeId} (h : MapAt P k kv vv w b m) (ht : P.underlying t = some (.map k e)) (ty : TypeId) :
    (Builtin.len_ #[t] ty #[.map (some b)]).run P w = .ok (.int .i64 m.length) w := by
  obtain ⟨es, clock, hb, r⟩ := h
  have hl := congrArg List.length r.ents
  simp only [List.length_map, Array.length_toList] at hl
  simp [Builtin.len_, run_underlying ht, MapKept.run_getObj_map hb, Result.andThen, goInt, hl]

theorem lookup_mem [DecidableEq κ] {m : List (κ × ν)} (hn : (m.map Prod.fst).Nodup) {p : κ × ν} (hp : p ∈ m) : mget m p.1 = some p.2 := by
  induction m with
  | nil => cases hp
  | cons q m ih =>
    simp only [List.map_cons, List.nodup_cons] at hn
    rcases List.mem_cons.1 hp with rfl | hp
    · simp [mget]
    · have hne : q.1 ≠ p.1 := fun e => hn.1 (e ▸ List.mem_map.2 ⟨p, hp, rfl⟩)
      simp only [mget, if_neg hne]
      exact ih hn.2 hp

theorem mem_of_lookup [DecidableEq κ] {m : List (κ × ν)} {key : κ} {x : ν} (h : mget m key = some x) : (key, x) ∈ m := by
  induction m with
  | nil => simp [mget] at h
  | cons q m ih =>
    simp only [mget] at h
    by_cases e : q.1 = key
    · rw [if_pos e] at h
      cases h; subst e; exact List.mem_cons_self
    · rw [if_neg e] at h
      exact List.mem_cons_of_mem _ (ih h)

theorem lookup_none [DecidableEq κ] {m : List (κ × ν)} {key : κ} (h : ∀ p ∈ m, p.1 ≠ key) : mget m key = none := by
  cases hl : mget m key with
  | none => rfl
  | some x => exact absurd rfl (h _ (mem_of_lookup hl))

theorem lookup_none_ne [DecidableEq κ] {m : List (κ × ν)} {key : κ} (h : mget m key = none) : ∀ p ∈ m, p.1 ≠ key := by
  induction m with
  | nil => intro p hp; cases hp
  | cons q m ih =>
    simp only [mget] at h
    by_cases e : q.1 = key
    · rw [if_pos e] at h; cases h
    · rw [if_neg e] at h
      intro p hp
      rcases List.mem_cons.1 hp with rfl | hp
      · exact e
      · exact ih h p hp

/-- what finding a key says -/
theorem MapB.find [DecidableEq κ] {es : Array MapEntry} {clock : Nat} {m : List (κ × ν)} (h : MapB P k kv vv es clock m) (K : Keyed P k) (inj : ∀ a b, kv a = kv b → a = b) (w : World) {key : κ} (hk : KeyV P k (kv key)) :
    ((Instr.findKey k (kv key) es.toList).run P w = .ok none w ∧ (∀ e ∈ es.toList, e.key ≠ kv key) ∧ mget m key = none) ∨
    ∃ j e x, (Instr.findKey k (kv key) es.toList).run P w = .ok (some (j, e.val)) w ∧ es.toList[j]? = some e ∧ e.key = kv key ∧ e.val = vv x ∧ m[j]? = some (key, x) ∧ mget m key = some x := by
  obtain ⟨lx, hlx⟩ := hk
  have hget : ∀ i, (es.toList[i]?).map (fun (e : MapEntry) => (e.key, e.val)) = (m[i]?).map (fun (p : κ × ν) => (kv p.1, vv p.2)) := fun i => by
    rw [← List.getElem?_map, h.ents, List.getElem?_map]
  rcases K.find w hlx es.toList (fun e he => h.keys e he) with ⟨h1, h2⟩ | ⟨j, e, h1, h2, h3⟩
  · refine .inl ⟨h1, h2, lookup_none fun p hp e => ?_⟩
    have : (kv p.1, vv p.2) ∈ es.toList.map (fun e => (e.key, e.val)) := by rw [h.ents]; exact List.mem_map.2 ⟨p, hp, rfl⟩
    obtain ⟨e', he', h4⟩ := List.mem_map.1 this
    exact h2 e' he' ((congrArg Prod.fst h4).trans (by rw [e]))
  · have hj := hget j
    rw [h2] at hj
    cases hm : m[j]? with
    | none => rw [hm] at hj; simp at hj
    | some p =>
      rw [hm] at hj
      simp only [Option.map_some, Option.some.injEq, Prod.mk.injEq] at hj
      have hp1 : p.1 = key := inj _ _ (by rw [← hj.1, h3])
      refine .inr ⟨j, e, p.2, h1, h2, h3, hj.2, by rw [← hp1]; exact hm, ?_⟩
      rw [← hp1]
      exact lookup_mem (nodup_fst h.nodup) (List.mem_of_getElem? hm)

theorem MapAt.look [DecidableEq κ] {w : World} {b : Nat} {m : List (κ × ν)} {t e : TypeId} (h : MapAt P k kv vv w b m) (c : Bool) (K : Keyed P k) (inj : ∀ a b, kv a = kv b → a = b) (ht : P.underlying t = some (.map k e))
    {z : Value} (hz : (zeroValue e).run P w = .ok z w) {key : κ} (hk : KeyV P k (kv key)) :
    (Instr.lookup t (.map (some b)) (kv key) c).run P w = .ok (if c then .tuple #[((mget m key).map vv).getD z, .bool (mget m key).isSome] else ((mget m key).map vv).getD z) w := by
  obtain ⟨es, clock, hb, r⟩ := h
  obtain ⟨lx, hlx⟩ := hk
  rcases r.find K inj w ⟨lx, hlx⟩ with ⟨h1, h2, h3⟩ | ⟨j, e0, x, h1, h2, h3, h4, h5, h6⟩
  · rw [h3]
    simp [Instr.lookup, run_underlying ht, MapKept.run_getObj_map hb, K.check w _ hlx, h1, hz, Result.andThen]
  · rw [h6]
    simp [Instr.lookup, run_underlying ht, MapKept.run_getObj_map hb, K.check w _ hlx, h1, h4, Result.andThen]

theorem map_eq_set_of_nodup [DecidableEq κ] {m : List (κ × ν)} {key : κ} {x : ν} {j : Nat} (hn : (m.map Prod.fst).Nodup) (hj : m[j]? = some (key, x)) (v : ν) :
    m.map (fun p => if p.1 = key then (key, v) else p) = m.set j (key, v) := by
  induction m generalizing j with
  | nil => simp at hj
  | cons q m ih =>
    simp only [List.map_cons, List.nodup_cons] at hn
    cases j with
    | zero =>
      simp at hj; subst hj
      simp only [List.map_cons, if_true, List.set_cons_zero, List.cons.injEq, true_and]
      rw [show m = m.map id from by simp] 
      simp only [List.map_map]
      refine List.map_congr_left fun p hp => ?_
      have : p.1 ≠ key := fun e => hn.1 (e ▸ List.mem_map.2 ⟨p, hp, rfl⟩)
      simp [this]
    | succ j =>
      simp at hj
      have hm : (key, x) ∈ m := List.mem_of_getElem? hj
      have : q.1 ≠ key := fun e => hn.1 (e ▸ List.mem_map.2 ⟨(key, x), hm, rfl⟩)
      simp [this, ih hn.2 hj]

theorem MapAt.update [DecidableEq κ] {w : World} {b : Nat} {m : List (κ × ν)} {t e : TypeId} (h : MapAt P k kv vv w b m) (K : Keyed P k) (inj : ∀ a b, kv a = kv b → a = b) (ht : P.underlying t = some (.map k e))
    {key : κ} (hk : KeyV P k (kv key)) (x : ν) :
    ∃ es' clock', (Instr.mapUpdate t (.map (some b)) (kv key) (vv x)).run P w = .ok () (setBlock w b (.map es' clock')) ∧ MapAt P k kv vv (setBlock w b (.map es' clock')) b (mput m key x) := by
  have hlt := h.lt
  obtain ⟨es, clock, hb, r⟩ := h
  obtain ⟨lx, hlx⟩ := hk
  have hset : ∀ o, (setBlock w b o).heap[b]? = some o := fun o => by simp [setBlock, hlt]
  rcases r.find K inj w ⟨lx, hlx⟩ with ⟨h1, h2, h3⟩ | ⟨j, e0, y, h1, h2, h3, h4, h5, h6⟩
  · refine ⟨es.push ⟨kv key, vv x, clock⟩, clock + 1, ?_, ⟨_, _, hset _, ?_⟩⟩
    · simp [Instr.mapUpdate, run_underlying ht, MapKept.run_getObj_map hb, K.check w false hlx, h1, MapKept.run_setObj_map _ hb, Result.andThen, setBlock]
    · refine ⟨?_, ?_, MapKept.stamped_push r.stamped h2⟩
      · simp [mput, h3, r.ents]
      · intro e' he'
        simp only [Array.toList_push, List.mem_append, List.mem_singleton] at he'
        rcases he' with he' | rfl
        · exact r.keys e' he'
        · exact ⟨lx, hlx⟩
  · have hj : es[j]? = some e0 := by simpa using h2
    have hlist : (es.modify j (fun e' => { e' with key := kv key, val := vv x })).toList = es.toList.set j { e0 with key := kv key, val := vv x } := by rw [Array.toList_modify, ChangeMaps.modify_eq_set _ _ _ _ h2]
    refine ⟨es.modify j (fun e' => { e' with key := kv key, val := vv x }), clock, ?_, ⟨_, _, hset _, ?_⟩⟩
    · simp [Instr.mapUpdate, run_underlying ht, MapKept.run_getObj_map hb, K.check w false hlx, h1, hj, h3, K.stays w hlx, MapKept.run_setObj_map _ hb, Result.andThen, setBlock]
    · refine ⟨?_, ?_, MapKept.stamped_modify r.stamped _ _ (fun _ _ => rfl) (fun e' _ he' => by rw [hj] at he'; cases he'; exact h3.symm)⟩
      · rw [hlist, List.map_set, r.ents]
        simp only [mput, h6, Option.isSome_some, if_true]
        rw [map_eq_set_of_nodup (nodup_fst r.nodup) h5, List.map_set]
      · intro e' he'
        rw [hlist] at he'
        rcases List.mem_or_eq_of_mem_set he' with he' | rfl
        · exact r.keys e' he'
        · exact ⟨lx, hlx⟩

theorem eraseIdx_eq_filter [DecidableEq κ] {m : List (κ × ν)} {key : κ} {x : ν} {j : Nat} (hn : (m.map Prod.fst).Nodup) (hj : m[j]? = some (key, x)) : m.eraseIdx j = m.filter (fun p => p.1 ≠ key) := by
  induction m generalizing j with
  | nil => simp at hj
  | cons q m ih =>
    simp only [List.map_cons, List.nodup_cons] at hn
    cases j with
    | zero =>
      simp at hj; subst hj
      simp only [List.eraseIdx_cons_zero, ne_eq, not_true_eq_false, decide_false, Bool.false_eq_true, not_false_eq_true, List.filter_cons_of_neg]
      symm
      refine List.filter_eq_self.2 fun p hp => ?_
      have : p.1 ≠ key := fun e => hn.1 (e ▸ List.mem_map.2 ⟨p, hp, rfl⟩)
      simp [this]
    | succ j =>
      simp at hj
      have hm : (key, x) ∈ m := List.mem_of_getElem? hj
      have : q.1 ≠ key := fun e => hn.1 (e ▸ List.mem_map.2 ⟨(key, x), hm, rfl⟩)
      simp only [List.eraseIdx_cons_succ, ih hn.2 hj]
      rw [List.filter_cons_of_pos (by simpa using this)]

theorem MapAt.drop [DecidableEq κ] {w : World} {b : Nat} {m : List (κ × ν)} {t e : TypeId} (h : MapAt P k kv vv w b m) (K : Keyed P k) (inj : ∀ a b, kv a = kv b → a = b) (ht : P.underlying t = some (.map k e))
    {key : κ} (hk : KeyV P k (kv key)) (ty : TypeId) :
    ∃ es' clock', (Builtin.delete_ #[t, k] ty #[.map (some b), kv key]).run P w = .ok (.tuple #[]) (setBlock w b (.map es' clock')) ∧ MapAt P k kv vv (setBlock w b (.map es' clock')) b (mdel m key) := by
  have hlt := h.lt
  obtain ⟨es, clock, hb, r⟩ := h
  obtain ⟨lx, hlx⟩ := hk
  have hset : ∀ o, (setBlock w b o).heap[b]? = some o := fun o => by simp [setBlock, hlt]
  rcases r.find K inj w ⟨lx, hlx⟩ with ⟨h1, h2, h3⟩ | ⟨j, e0, y, h1, h2, h3, h4, h5, h6⟩
  · refine ⟨es, clock, ?_, ⟨_, _, hset _, ?_⟩⟩
    · simp [Builtin.delete_, run_underlying ht, MapKept.run_getObj_map hb, K.check w _ hlx, h1, MapKept.run_setObj_map _ hb, Result.andThen, setBlock]
    · have : mdel m key = m := List.filter_eq_self.2 fun p hp => by simpa using lookup_none_ne h3 p hp
      rw [this]; exact r
  · have hjl : j < es.toList.length := (List.getElem?_eq_some_iff.1 h2).1
    have hjs : j < es.size := by simpa using hjl
    have hsub : (es.eraseIdxIfInBounds j).toList = es.toList.eraseIdx j := by
      unfold Array.eraseIdxIfInBounds
      rw [dif_pos hjs]
      simp
    refine ⟨es.eraseIdxIfInBounds j, clock, ?_, ⟨_, _, hset _, ?_⟩⟩
    · simp [Builtin.delete_, run_underlying ht, MapKept.run_getObj_map hb, K.check w _ hlx, h1, MapKept.run_setObj_map _ hb, Result.andThen, setBlock]
    · refine ⟨?_, ?_, MapKept.stamped_erase r.stamped j⟩
      · rw [hsub, ChangeMaps.map_eraseIdx, r.ents, ← ChangeMaps.map_eraseIdx]
        rw [eraseIdx_eq_filter (nodup_fst r.nodup) h5]; rfl
      · intro e' he'
        rw [hsub] at he'
        exact r.keys e' ((List.eraseIdx_sublist _ _).subset he')
/-! ### at the operations -/
theorem step_setBlock (w : World) (b : Nat) (o : Obj) : Step (At b) w (setBlock w b o) :=
  ⟨rfl, rfl, rfl, by simp [setBlock], fun k _ hn => by
    simp only [setBlock]
    rw [Array.getElem?_setIfInBounds, if_neg (fun e => hn e.symm)]⟩
theorem size_setBlock (w : World) (b : Nat) (o : Obj) : (setBlock w b o).heap.size = w.heap.size := by simp [setBlock]

section
variable {P : Program} {k : TypeId} {kv : κ → Value} {vv : ν → Value}
variable {w : World} {ops : Array Oper} {rest : List Oper} {o : Oper} {a : Act} {Q : Exit → Act → World → Prop} {b : Nat} {m : List (κ × ν)}

theorem wp_look [DecidableEq κ] (hg : o.guard = none) (mo xo : Operand) (t e : TypeId) (c : Bool) (hop : o.op = Op.lookup t mo xo c) (ht : P.underlying t = some (.map k e)) (K : Keyed P k) (inj : ∀ a b, kv a = kv b → a = b)
    (hm : a.eval mo = .map (some b)) (key : κ) (hx : a.eval xo = kv key) (h : MapAt P k kv vv w b m) (hk : KeyV P k (kv key)) (z : Value) (hz : (zeroValue e).run P w = .ok z w)
    (hK : wpList P ops Q rest (a.put o.dst (if c then .tuple #[((mget m key).map vv).getD z, .bool (mget m key).isSome] else ((mget m key).map vv).getD z)) w) :
    wpList P ops Q (o :: rest) a w := by
  refine wpList_plain hg fun K' hK' => ?_
  have hrun := h.look c K inj ht hz hk
  unfold Oper.wp
  rw [← hx] at hrun
  simp only [execOp, hop, hm, Sem.run_bind, hrun, Result.andThen]
  exact hK' _ _ hK

theorem wp_look_some [DecidableEq κ] (hg : o.guard = none) (mo xo : Operand) (t e : TypeId) (hop : o.op = Op.lookup t mo xo false) (ht : P.underlying t = some (.map k e)) (K : Keyed P k) (inj : ∀ a b, kv a = kv b → a = b)
    (hm : a.eval mo = .map (some b)) (key : κ) (hx : a.eval xo = kv key) (h : MapAt P k kv vv w b m) (hk : KeyV P k (kv key)) (z : Value) (hz : (zeroValue e).run P w = .ok z w)
    (y : ν) (hy : mget m key = some y) (hK : wpList P ops Q rest (a.put o.dst (vv y)) w) : wpList P ops Q (o :: rest) a w :=
  wp_look hg mo xo t e false hop ht K inj hm key hx h hk z hz (by rw [hy]; exact hK)
theorem wp_look_none [DecidableEq κ] (hg : o.guard = none) (mo xo : Operand) (t e : TypeId) (hop : o.op = Op.lookup t mo xo false) (ht : P.underlying t = some (.map k e)) (K : Keyed P k) (inj : ∀ a b, kv a = kv b → a = b)
    (hm : a.eval mo = .map (some b)) (key : κ) (hx : a.eval xo = kv key) (h : MapAt P k kv vv w b m) (hk : KeyV P k (kv key)) (z : Value) (hz : (zeroValue e).run P w = .ok z w)
    (hy : mget m key = none) (hK : wpList P ops Q rest (a.put o.dst z) w) : wpList P ops Q (o :: rest) a w :=
  wp_look hg mo xo t e false hop ht K inj hm key hx h hk z hz (by rw [hy]; exact hK)
theorem wp_lookok_some [DecidableEq κ] (hg : o.guard = none) (mo xo : Operand) (t e : TypeId) (hop : o.op = Op.lookup t mo xo true) (ht : P.underlying t = some (.map k e)) (K : Keyed P k) (inj : ∀ a b, kv a = kv b → a = b)
    (hm : a.eval mo = .map (some b)) (key : κ) (hx : a.eval xo = kv key) (h : MapAt P k kv vv w b m) (hk : KeyV P k (kv key)) (z : Value) (hz : (zeroValue e).run P w = .ok z w)
    (y : ν) (hy : mget m key = some y) (hK : wpList P ops Q rest (a.put o.dst (.tuple #[vv y, .bool true])) w) : wpList P ops Q (o :: rest) a w :=
  wp_look hg mo xo t e true hop ht K inj hm key hx h hk z hz (by rw [hy]; exact hK)
theorem wp_lookok_none [DecidableEq κ] (hg : o.guard = none) (mo xo : Operand) (t e : TypeId) (hop : o.op = Op.lookup t mo xo true) (ht : P.underlying t = some (.map k e)) (K : Keyed P k) (inj : ∀ a b, kv a = kv b → a = b)
    (hm : a.eval mo = .map (some b)) (key : κ) (hx : a.eval xo = kv key) (h : MapAt P k kv vv w b m) (hk : KeyV P k (kv key)) (z : Value) (hz : (zeroValue e).run P w = .ok z w)
    (hy : mget m key = none) (hK : wpList P ops Q rest (a.put o.dst (.tuple #[z, .bool false])) w) : wpList P ops Q (o :: rest) a w :=
  wp_look hg mo xo t e true hop ht K inj hm key hx h hk z hz (by rw [hy]; exact hK)

theorem wp_update [DecidableEq κ] (hg : o.guard = none) (mo xo vo : Operand) (t e : TypeId) (hop : o.op = Op.mapUpdate t mo xo vo) (ht : P.underlying t = some (.map k e)) (K : Keyed P k) (inj : ∀ a b, kv a = kv b → a = b)
    (hm : a.eval mo = .map (some b)) (key : κ) (hx : a.eval xo = kv key) (y : ν) (hv : a.eval vo = vv y) (h : MapAt P k kv vv w b m) (hk : KeyV P k (kv key))
    (hK : ∀ w1, MapAt P k kv vv w1 b (mput m key y) → Step (At b) w w1 → w1.heap.size = w.heap.size → Stop (wpList P ops Q rest (a.put o.dst undef) w1)) :
    wpList P ops Q (o :: rest) a w := by
  refine wpList_plain hg fun K' hK' => ?_
  obtain ⟨es', c', hrun, hm'⟩ := h.update K inj ht hk y
  rw [← hx, ← hv] at hrun
  unfold Oper.wp
  simp [execOp, hop, hm, hrun, Result.andThen]
  exact hK' _ _ (hK _ hm' (step_setBlock _ _ _) (size_setBlock _ _ _))

theorem wp_delete [DecidableEq κ] (hg : o.guard = none) (mo xo : Operand) (t e : TypeId) (hop : o.op = Op.call { callee := Callee.builtin Builtin.delete, args := #[mo, xo], argTypes := #[t, k] }) (ht : P.underlying t = some (.map k e)) (K : Keyed P k) (inj : ∀ a b, kv a = kv b → a = b)
    (hm : a.eval mo = .map (some b)) (key : κ) (hx : a.eval xo = kv key) (h : MapAt P k kv vv w b m) (hk : KeyV P k (kv key))
    (hK : ∀ w1, MapAt P k kv vv w1 b (mdel m key) → Step (At b) w w1 → w1.heap.size = w.heap.size → Stop (wpList P ops Q rest (a.put o.dst (.tuple #[])) w1)) :
    wpList P ops Q (o :: rest) a w := by
  refine wpList_plain hg fun K' hK' => ?_
  obtain ⟨es', c', hrun, hm'⟩ := h.drop K inj ht hk o.type
  rw [← hx] at hrun
  unfold Oper.wp
  simp [execOp, hop, resolve, invoke, builtin, hm, hrun, Result.andThen]
  exact hK' _ _ (hK _ hm' (step_setBlock _ _ _) (size_setBlock _ _ _))

theorem wp_len (hg : o.guard = none) (mo : Operand) (t e : TypeId) (hop : o.op = Op.call { callee := Callee.builtin Builtin.len, args := #[mo], argTypes := #[t] }) (ht : P.underlying t = some (.map k e))
    (hm : a.eval mo = .map (some b)) (h : MapAt P k kv vv w b m) (hK : wpList P ops Q rest (a.put o.dst (.int .i64 m.length)) w) : wpList P ops Q (o :: rest) a w := by
  refine wpList_plain hg fun K' hK' => ?_
  have hrun := h.len ht o.type
  unfold Oper.wp
  simp [execOp, hop, resolve, invoke, builtin, hm, hrun, Result.andThen]
  exact hK' _ _ hK
end

/-! ### ranging over a map that stands still -/
/-- block r ranges over the map at b (entries m); left: the entries that are still to come, in some order; the last one that came: last -/
def RangeAt (P : Program) (k : TypeId) (kv : κ → Value) (vv : ν → Value) (w : World) (b r : Nat) (m left : List (κ × ν)) (last : Option (κ × ν)) : Prop :=
  ∃ es clock since seen c0, w.heap[b]? = some (.map es clock) ∧ MapB P k kv vv es clock m ∧ w.heap[r]? = some (.mapIter (some b) since seen c0) ∧ since = clock ∧ c0 = clock ∧
    (leftOf es seen).toList.map (fun e => (e.key, e.val)) = left.map (fun p => (kv p.1, vv p.2)) ∧ (∀ p ∈ left, p ∈ m) ∧ r ≠ b ∧
    (∀ p, last = some p → ∃ e ∈ es.toList, seen.back? = some e.born ∧ e.key = kv p.1 ∧ e.val = vv p.2)

section
variable {P : Program} {k : TypeId} {kv : κ → Value} {vv : ν → Value} {w : World} {b r : Nat} {m left : List (κ × ν)} {last : Option (κ × ν)}

theorem RangeAt.map (h : RangeAt P k kv vv w b r m left last) : MapAt P k kv vv w b m := by
  obtain ⟨es, clock, _, _, _, hb, hm, _⟩ := h
  exact ⟨es, clock, hb, hm⟩
theorem RangeAt.ne (h : RangeAt P k kv vv w b r m left last) : r ≠ b := by
  obtain ⟨_, _, _, _, _, _, _, _, _, _, _, _, hne, _⟩ := h
  exact hne
theorem RangeAt.lt (h : RangeAt P k kv vv w b r m left last) : r < w.heap.size := by
  obtain ⟨_, _, _, _, _, _, _, hr, _⟩ := h
  exact lt_of_blk hr
theorem RangeAt.ltb (h : RangeAt P k kv vv w b r m left last) : b < w.heap.size := h.map.lt
theorem RangeAt.sub (h : RangeAt P k kv vv w b r m left last) : ∀ p ∈ left, p ∈ m := by
  obtain ⟨_, _, _, _, _, _, _, _, _, _, _, hs, _⟩ := h
  exact hs
theorem RangeAt.move {w' : World} (h : RangeAt P k kv vv w b r m left last) (hb' : w'.heap[b]? = w.heap[b]?) (hr' : w'.heap[r]? = w.heap[r]?) : RangeAt P k kv vv w' b r m left last := by
  obtain ⟨es, clock, s, seen, c0, hb, hm, hr, rest⟩ := h
  exact ⟨es, clock, s, seen, c0, hb'.trans hb, hm, hr'.trans hr, rest⟩
theorem RangeAt.step {S : Nat → Prop} {w' : World} (h : RangeAt P k kv vv w b r m left last) (hs : Step S w w') (hb : ¬ S b) (hr : ¬ S r) : RangeAt P k kv vv w' b r m left last :=
  h.move (hs.block b h.ltb hb) (hs.block r h.lt hr)

theorem MapAt.step {S : Nat → Prop} {w' : World} (h : MapAt P k kv vv w b m) (hs : Step S w w') (hb : ¬ S b) : MapAt P k kv vv w' b m := h.move (hs.block b h.lt hb)

theorem MapAt.range {t e : TypeId} (h : MapAt P k kv vv w b m) (ht : P.underlying t = some (.map k e)) :
    ∃ w', (Instr.range t (.map (some b))).run P w = .ok (.pointer (some ⟨w.heap.size, 0, none⟩)) w' ∧ RangeAt P k kv vv w' b w.heap.size m m none ∧ Step No w w' ∧ w'.heap.size = w.heap.size + 1 := by
  have hlt := h.lt
  obtain ⟨es, clock, hb, hm⟩ := h
  refine ⟨_, run_range_map w t k e b es clock ht hb, ⟨es, clock, clock, #[], clock, blk_alloc hb _, hm, blk_new w _, rfl, rfl, ?_, fun _ h => h, by omega, by simp⟩, Step.alloc _ _ _, by simp⟩
  have : leftOf es #[] = es := by simp [leftOf]
  rw [this]; exact hm.ents

theorem filter_zip {α β γ : Type} (f : α → γ) (g : β → γ) (p : α → Bool) (q : β → Bool) : ∀ (L : List α) (l : List β), L.map f = l.map g → (∀ a ∈ L, ∀ x ∈ l, f a = g x → p a = q x) → (L.filter p).map f = (l.filter q).map g := by
  intro L
  induction L with
  | nil => intro l h _; cases l with
    | nil => rfl
    | cons _ _ => simp at h
  | cons a L ih =>
    intro l h hpq
    cases l with
    | nil => simp at h
    | cons x l =>
      simp only [List.map_cons, List.cons.injEq] at h
      have h1 := hpq a List.mem_cons_self x List.mem_cons_self h.1
      have h2 := ih l h.2 (fun a' ha' x' hx' => hpq a' (List.mem_cons_of_mem _ ha') x' (List.mem_cons_of_mem _ hx'))
      simp only [List.filter_cons, h1]
      split <;> simp [h2, h.1]

theorem RangeAt.next [DecidableEq κ] (h : RangeAt P k kv vv w b r m left last) (inj : ∀ a b, kv a = kv b → a = b) (ty : TypeId) :
    (left = [] ∧ (Instr.next (.pointer (some ⟨r, 0, none⟩)) false ty).run P w = .ok (.tuple #[.bool false]) w) ∨
    ∃ x w', x ∈ left ∧ (Instr.next (.pointer (some ⟨r, 0, none⟩)) false ty).run P w = .ok (.tuple #[.bool true, kv x.1, vv x.2]) w' ∧
      RangeAt P k kv vv w' b r m (mdel left x.1) (some x) ∧ Step (At r) w w' ∧ w'.heap.size = w.heap.size := by
  obtain ⟨es, clock, since, seen, c0, hb, hm, hr, rfl, rfl, hl, hsub, hne, _⟩ := h
  rcases run_next_at (P := P) w ty r b c0 c0 seen es c0 hr hb hm.stamped.1 (Nat.le_refl _) with ⟨h0, hrun⟩ | ⟨e, he, w1, hal, hrun⟩
  · refine .inl ⟨?_, hrun⟩
    have h1 := congrArg List.length hl
    simp only [List.length_map, Array.length_toList, h0] at h1
    exact List.eq_nil_of_length_eq_zero h1.symm
  · have hx : (e.key, e.val) ∈ left.map (fun p => (kv p.1, vv p.2)) := by rw [← hl]; exact List.mem_map.2 ⟨e, he, rfl⟩
    obtain ⟨x, hxl, hxe⟩ := List.mem_map.1 hx
    simp only [Prod.mk.injEq] at hxe
    obtain ⟨hem, _⟩ := mem_left he
    have hst := (MapKept.stamped_iff es c0).1 hm.stamped
    have hsz : (setBlock w1 r (.mapIter (some b) c0 (seen.push e.born) c0)).heap.size = w.heap.size := by rcases hal with rfl | rfl <;> simp [setBlock]
    have hb1 : w1.heap[b]? = some (.map es c0) := by rcases hal with rfl | rfl <;> exact hb
    have hr1 : w1.heap[r]? = some (.mapIter (some b) c0 seen c0) := by rcases hal with rfl | rfl <;> exact hr
    have hset := MapKept.heap_set (o' := .mapIter (some b) c0 (seen.push e.born) c0) hr1
    have hstep : Step (At r) w (setBlock w1 r (.mapIter (some b) c0 (seen.push e.born) c0)) := by
      rcases hal with rfl | rfl
      · exact step_setBlock _ _ _
      · exact (Step.drew _ w).trans' (step_setBlock _ _ _)
    refine .inr ⟨x, _, hxl, by rw [hxe.1, hxe.2]; exact hrun, ⟨es, c0, c0, seen.push e.born, c0, (hset.2 b hne.symm).trans hb1, hm, hset.1, rfl, rfl, ?_, fun p hp => hsub p (List.mem_filter.1 hp).1, hne, ?_⟩, hstep, hsz⟩
    · have e1 : (leftOf es (seen.push e.born)).toList = (leftOf es seen).toList.filter (fun z => !(z.born == e.born)) := by
        simp only [leftOf, Array.toList_filter, List.filter_filter]
        refine List.filter_congr fun z _ => ?_
        rw [contains_push]
        cases seen.contains z.born <;> cases (z.born == e.born) <;> rfl
      rw [e1]
      refine filter_zip _ _ _ _ _ _ hl fun z hz p _ hzp => ?_
      simp only [Prod.mk.injEq] at hzp
      have hzm := (mem_left hz).1
      by_cases hzb : z.born = e.born
      · obtain rfl := born_inj hst.2.1 hzm hem hzb
        have : p.1 = x.1 := inj _ _ (by rw [← hzp.1, hxe.1])
        simp [this]
      · have hk : p.1 ≠ x.1 := fun e1 => hzb (congrArg MapEntry.born (entry_eq_of_key hst.2.2 hzm hem (by rw [hzp.1, e1, hxe.1])))
        simp [hzb, hk]
    · rintro p ⟨⟩
      exact ⟨e, hem, by simp, hxe.1.symm, hxe.2.symm⟩

theorem RangeAt.entry {x : κ × ν} (h : RangeAt P k kv vv w b r m left (some x)) : (Instr.entry (.pointer (some ⟨r, 0, none⟩))).run P w = .ok (.tuple #[kv x.1, vv x.2]) w := by
  obtain ⟨es, clock, since, seen, c0, hb, hm, hr, rfl, rfl, hl, hsub, hne, hlast⟩ := h
  obtain ⟨e, he, h1, h2, h3⟩ := hlast x rfl
  have hst := (MapKept.stamped_iff es _).1 hm.stamped
  have hf : es.find? (·.born == e.born) = some e := by rw [← Array.find?_toList]; exact find_born e es.toList hst.2.1 he
  simp only [Instr.entry, getObj, Sem.run_bind, Sem.run, hr, hb, Result.andThen, h1, bne_self_eq_false, Bool.false_eq_true, if_false, hf]
  rw [h2, h3]; rfl

variable {ops : Array Oper} {rest : List Oper} {o : Oper} {a : Act} {Q : Exit → Act → World → Prop}
theorem wp_range (hg : o.guard = none) (mo : Operand) (t e : TypeId) (hop : o.op = Op.range t mo) (ht : P.underlying t = some (.map k e))
    (hm : a.eval mo = .map (some b)) (h : MapAt P k kv vv w b m)
    (hK : ∀ w', RangeAt P k kv vv w' b w.heap.size m m none → Step No w w' → w'.heap.size = w.heap.size + 1 → Stop (wpList P ops Q rest (a.put o.dst (.pointer (some ⟨w.heap.size, 0, none⟩))) w')) :
    wpList P ops Q (o :: rest) a w := by
  refine wpList_plain hg fun K' hK' => ?_
  obtain ⟨w', hrun, r1, r2, r3⟩ := h.range ht
  unfold Oper.wp
  simp [execOp, hop, hm, hrun, Result.andThen]
  exact hK' _ _ (hK w' r1 r2 r3)
theorem wp_next [DecidableEq κ] (hg : o.guard = none) (it : Operand) (hop : o.op = Op.next it false) (inj : ∀ a b, kv a = kv b → a = b)
    (hit : a.eval it = .pointer (some ⟨r, 0, none⟩)) (h : RangeAt P k kv vv w b r m left last)
    (hDone : left = [] → Stop (wpList P ops Q rest (a.put o.dst (.tuple #[.bool false])) w))
    (hMore : ∀ x w', x ∈ left → RangeAt P k kv vv w' b r m (mdel left x.1) (some x) → Step (At r) w w' → w'.heap.size = w.heap.size → Stop (wpList P ops Q rest (a.put o.dst (.tuple #[.bool true, kv x.1, vv x.2])) w')) :
    wpList P ops Q (o :: rest) a w := by
  refine wpList_plain hg fun K' hK' => ?_
  unfold Oper.wp
  rcases h.next inj o.type with ⟨h0, hrun⟩ | ⟨x, w', hx, hrun, h1, h2, h3⟩
  · simp [execOp, hop, hit, hrun, Result.andThen]
    exact hK' _ _ (hDone h0)
  · simp [execOp, hop, hit, hrun, Result.andThen]
    exact hK' _ _ (hMore x w' hx h1 h2 h3)
end
end
end Gb

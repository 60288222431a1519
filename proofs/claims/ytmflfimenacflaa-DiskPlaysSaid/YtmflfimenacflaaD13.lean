/- The walk of the law's fixed answer, awake. -/
import Derived.Test.YtmflfimenacflaaD12
import Derived.Lib.SlBytesConst
set_option linter.unusedVariables false
set_option linter.unusedSimpArgs false
namespace Go.Proofs.Ytmflfimenacflaa
open Go.RowKit Gb
def nA : ByteArray := ⟨#[97]⟩
def hello : List UInt8 := [104, 101, 108, 108, 111]
def you : List UInt8 := [32, 121, 111, 117]
theorem okA : okName nA = true := by decide +kernel
theorem e1 : appE [] 99 nA hello.length = 0 := by decide +kernel
def V1 : View := [(nA, (hello, 0))]
theorem v1 : vapp [] nA hello = V1 := by decide +kernel
theorem s1 : vfindE V1 [nA] = 0 := by decide +kernel
def V2 : View := [(nA, (hello, 5))]
theorem v2 : vsyncs V1 [nA] = V2 := by decide +kernel
theorem e2 : appE V2 99 nA you.length = 0 := by decide +kernel
def V3 : View := [(nA, (hello ++ you, 5))]
theorem v3 : vapp V2 nA you = V3 := by decide +kernel
def V4 : View := [(nA, ([104, 101, 108, 108, 111, 32, 121], 7))]
theorem sn : snames V3 = [nA] := by decide +kernel
theorem v4 : (vcrs V3 [2] [nA]).1 = V4 := by decide +kernel
theorem r4 : readE V4 nA = 0 := by decide +kernel
theorem g4 : (vget V4 nA).1 = [104, 101, 108, 108, 111, 32, 121] := by decide +kernel
theorem strA : StrOk nA := by unfold StrOk; decide
theorem rd_lit8 (w : World) (l : List UInt8) (hl : l.length ≤ 100) (cs : Array Value) (fr : Nat × Nat) (hcs : cs.toList = l.map u8) : Rd Rep.u8 (w.alloc (.cells cs 5 fr)) (fun k => k = w.heap.size) (.slice (some ⟨w.heap.size, 0, none⟩) l.length l.length) l := by
  refine ⟨some ⟨w.heap.size, 0, none⟩, l.length, rfl, Nat.le_refl _, by unfold maxLen; omega, (by intro h; cases h), fun i x hx => ⟨_, [u8 x], rfl, rfl, ⟨rfl, trivial⟩, fun j u hu => ?_⟩⟩
  have hj : j = 0 ∧ u = u8 x := by
    cases j with
    | zero => simp at hu; exact ⟨rfl, hu.symm⟩
    | succ j => simp at hu
  obtain ⟨rfl, rfl⟩ := hj
  have e1 : (⟨w.heap.size, 0, none⟩ : Addr).add (i * Rep.u8.sz + 0) = ⟨w.heap.size, i, none⟩ := by rw [add_plain]; simp [Rep.u8, Rep.cell]
  rw [e1, blk_cell (blk_new w _)]
  have : cs.toList[i]? = some (u8 x) := by rw [hcs, List.getElem?_map, hx]; rfl
  simpa using this
theorem rd_liti (w : World) (l : List Int) (hl : l.length ≤ 100) (cs : Array Value) (hcs : cs.toList = l.map (Value.int .i64)) (hok : ∀ x ∈ l, I64 x) : Rd Rep.int (w.alloc (.cells cs 3)) (fun k => k = w.heap.size) (.slice (some ⟨w.heap.size, 0, none⟩) l.length l.length) l := by
  have hsz : cs.size = l.length * 1 := by rw [← Array.length_toList, hcs]; simp
  have h := RowAt.lit w cs 3 l.length hsz (by unfold maxLen; omega)
  rw [hcs] at h
  exact Rd.of_row h (fun k hk => by cases hk; rfl) hok
theorem post_chain {w W W' : World} {db mb : Nat} {fs fs' : Files} (h0 : Step No w W) (hf : ∀ k, Foot db mb fs k → w.heap.size ≤ k) (hs : Step (Foot db mb fs) W W') (hn : ∀ k, Foot db mb fs' k → Foot db mb fs k ∨ W.heap.size ≤ k) :
    Step No w W' ∧ ∀ k, Foot db mb fs' k → w.heap.size ≤ k :=
  ⟨h0.trans hs (fun k hk hlt => by have := hf k hk; omega), fun k hk => by
    rcases hn k hk with h | h
    · exact hf k h
    · exact Nat.le_trans h0.size h⟩
theorem len_of_view {fs : Files} {V : View} (h : view fs = V) : fs.length = V.length := by rw [← h]; simp [view]
theorem new_not_foot {w : World} {db mb : Nat} {cap : Int} {fs : Files} (h : DiskAt w db mb cap fs) : ∀ k, k = w.heap.size → ¬ Foot db mb fs k := fun k hk hf => by have := h.lt hf; omega
set_option maxRecDepth 100000 in
set_option maxHeartbeats 2000000 in
theorem f12_any (w : World) : Calls Try.prog 12 #[] w fun e w' => e = .returned (.bool true) ∧ Step No w w' := by
  have hcv := fun (w : World) (C : Array Value) (n c : Nat) => Lib.run_convert_bytes_const (P := Try.prog) w 32 5 C n c Try.underlying32 Try.underlying5
  go_enter Try.func12, Try.ntmps12
  go_wp2_with (first | (go_at_call 6; refine (f6_good 99 _ (by decide) (by decide)).mono ?_; rintro e w1 ⟨rfl, hd, hs, hsz⟩; refine Stop.back ?_))
  have HD1 := Hd.mk hd
  have HS1 := Hd.mk hs
  clear hd hs hsz
  obtain ⟨db, hdb⟩ : ∃ db, db = w.heap.size + 1 := ⟨_, rfl⟩
  obtain ⟨mb, hmb⟩ : ∃ mb, mb = w.heap.size := ⟨_, rfl⟩
  rw [← hdb, ← hmb] at HD1
  rw [← hdb]
  have HDB := Hd.mk hdb
  have HMB := Hd.mk hmb
  clear hdb hmb
  refine Stop.go ?_
  go_wp2_with (first | (go_at_call 7; refine Stop.back ?_) | (go_at_call 15; refine Stop.back ?_))
  refine Stop.go ?_
  refine (f7_any db mb 99 [] nA _ hello _ strA (rd_lit8 w1 hello (by decide) #[.int .u8 104, .int .u8 101, .int .u8 108, .int .u8 108, .int .u8 111] _ rfl) (HD1.out.step (Step.alloc No _ _) (fun _ _ h => h)) (fun k hk => new_not_foot HD1.out k hk)).mono ?_
  rintro e w2 ⟨rfl, hp⟩
  rw [show view [] = [] from rfl, e1] at hp ⊢
  rw [if_pos rfl, v1] at hp
  obtain ⟨fs2, hd2, hv2, hs2, hf2⟩ := hp
  have HD2 := Hd.mk hd2
  have HV2 := Hd.mk hv2
  have HC2 := Hd.mk (post_chain (HS1.out.trans' (Step.alloc No _ _)) (by
    have hdb := HDB.out
    have hmb := HMB.out
    rintro k (rfl | rfl | ⟨p, hp, _⟩)
    · omega
    · omega
    · cases hp) hs2 hf2)
  clear hd2 hv2 hs2 hf2
  go_wp2_with (first | (go_at_call 7; refine Stop.back ?_) | (go_at_call 15; refine Stop.back ?_))
  refine Stop.go ?_
  refine (f15_any db mb 99 fs2 _ [nA] _ (rd_one w2 nA strA) (HD2.out.step (Step.alloc No _ _) (fun _ _ h => h)) (by simp)).mono ?_
  rintro e w3 ⟨rfl, hp⟩
  rw [← vfindE_view, HV2.out, s1] at hp ⊢
  rw [if_pos rfl, v2] at hp
  obtain ⟨fs3, hd3, hv3, hs3, hf3⟩ := hp
  have HD3 := Hd.mk hd3
  have HV3 := Hd.mk hv3
  have HC3 := Hd.mk (post_chain (HC2.out.1.trans' (Step.alloc No _ _)) HC2.out.2 hs3 hf3)
  clear hd3 hv3 hs3 hf3
  go_wp2_with (first | (go_at_call 7; refine Stop.back ?_) | (go_at_call 18; refine Stop.back ?_))
  refine Stop.go ?_
  refine (f7_any db mb 99 fs3 nA _ you _ strA (rd_lit8 w3 you (by decide) #[.int .u8 32, .int .u8 121, .int .u8 111, .int .u8 117] _ rfl) (HD3.out.step (Step.alloc No _ _) (fun _ _ h => h)) (fun k hk => new_not_foot HD3.out k hk)).mono ?_
  rintro e w4 ⟨rfl, hp⟩
  rw [HV3.out, e2] at hp ⊢
  rw [if_pos rfl, v3] at hp
  obtain ⟨fs4, hd4, hv4, hs4, hf4⟩ := hp
  have HD4 := Hd.mk hd4
  have HV4 := Hd.mk hv4
  have HC4 := Hd.mk (post_chain (HC3.out.1.trans' (Step.alloc No _ _)) HC3.out.2 hs4 hf4)
  clear hd4 hv4 hs4 hf4
  go_wp2_with (first | (go_at_call 9; refine Stop.back ?_) | (go_at_call 18; refine Stop.back ?_))
  refine Stop.go ?_
  refine (f18_any db mb 99 fs4 _ [2] _ (rd_liti w4 [2] (by decide) #[.int .i64 2] rfl (by intro x hx; rw [List.mem_singleton.1 hx]; exact ⟨by decide, by decide⟩)) (HD4.out.step (Step.alloc No _ _) (fun _ _ h => h)) (by rw [len_of_view HV4.out]; decide) (fun k hk => new_not_foot HD4.out k hk)).mono ?_
  rintro e w5 ⟨rfl, hp⟩
  rw [HV4.out, sn, v4] at hp
  obtain ⟨fs5, hd5, hv5, hs5, hf5⟩ := hp
  have HD5 := Hd.mk hd5
  have HV5 := Hd.mk hv5
  have HC5 := Hd.mk (post_chain (HC4.out.1.trans' (Step.alloc No _ _)) HC4.out.2 hs5 hf5)
  clear hd5 hv5 hs5 hf5
  go_wp2_with (first | (go_at_call 9; refine Stop.back ?_))
  refine Stop.go ?_
  refine (f9_any db mb 99 fs5 nA _ strA HD5.out).mono ?_
  rintro e w6 ⟨v, rfl, hr, hfr, hs⟩
  rw [HV5.out, r4] at hr ⊢
  rw [if_pos rfl, g4] at hr
  have HS6 := Hd.mk hs
  have HR := Hd.mk hr
  clear hr hfr hs
  have hstr := (Rd.of_row (F := fun _ => True) (ok := Yes) (ho := fun _ => rfl) HR.out (fun _ _ => trivial) (fun _ _ => trivial) : Rd Rep.u8 w6 _ _ _).string (P := Try.prog) (src := 32) (dst := 9) (e := 5) Try.underlying32 Try.underlying5 Try.underlying9
  go_wp2
  go_ret
  exact ⟨ret_bool (by decide +kernel), HC5.out.1.trans' HS6.out⟩
end Go.Proofs.Ytmflfimenacflaa

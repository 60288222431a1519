/- The walk of the law DiskReads. -/
import Derived.Test.YtmflfimenacflaaR9
set_option linter.unusedVariables false
set_option linter.unusedSimpArgs false
namespace Go.Proofs.Ytmflfimenacflaa
open Go.RowKit Gb
def Full (V : View) : Prop := ∀ p ∈ V, 0 < p.2.1.length ∧ p.2.2 = 0
theorem Full.app {V : View} {s : ByteArray} {l : List UInt8} (h : Full V) (hl : 0 < l.length) : Full (vapp V s l) := by
  intro p hp
  unfold vapp at hp
  rcases mem_mput hp with rfl | ⟨hp, _⟩
  · refine ⟨by simp; omega, ?_⟩
    show (vget V s).2 = 0
    unfold vget
    cases hg : mget V s with
    | none => rfl
    | some y => exact (h _ (mem_of_lookup hg)).2
  · exact h p hp
theorem Full.le {V : View} (h : Full V) : V.length ≤ vused V := by
  unfold vused
  induction V with
  | nil => simp
  | cons p V ih =>
    have h1 := (h p List.mem_cons_self).1
    have h2 := ih (fun q hq => h q (List.mem_cons_of_mem _ hq))
    simp only [List.length_cons, List.map_cons, List.sum_cons]; omega
structure RState (w : World) (db mb xb : Nat) (wr : World) (fs : Files) (sv : Value) (rs : List RF) : Prop where
  both : Both w db mb xb 1048576 wr fs sv rs
  cpl : Cpl rs (view fs)
  ok : VOk (view fs)
  full : Full (view fs)
def REx (w : World) (db mb xb : Nat) (wr : World) : Prop := ∃ fs sv rs, RState w db mb xb wr fs sv rs
theorem f9_in (db mb : Nat) (cap : Int) (fs : Files) (name : ByteArray) (w : World) (hok : StrOk name) (h : DiskAt w db mb cap fs) (h0 : readE (view fs) name = 0) :
    Calls Try.prog 9 #[.pointer (some ⟨db, 0, none⟩), .string name] w fun e w' => ∃ v, e = .returned (.tuple #[v, .int .i64 0]) ∧ RowAt w' 5 1 v (vget (view fs) name).1.length ((vget (view fs) name).1.map u8) ∧ Step No w w' := by
  refine (f9_any db mb cap fs name w hok h).mono ?_
  rintro e w' ⟨v, rfl, hr, _, hs⟩
  rw [h0, if_pos rfl] at hr
  exact ⟨v, by rw [h0], hr, hs⟩
theorem f9_out (db mb : Nat) (cap : Int) (fs : Files) (name : ByteArray) (w : World) (hok : StrOk name) (h : DiskAt w db mb cap fs) (h0 : readE (view fs) name ≠ 0) :
    Calls Try.prog 9 #[.pointer (some ⟨db, 0, none⟩), .string name] w fun e w' => ∃ v, e = .returned (.tuple #[v, .int .i64 (readE (view fs) name)]) ∧ RowAt w' 5 1 v 0 [] ∧ Step No w w' := by
  refine (f9_any db mb cap fs name w hok h).mono ?_
  rintro e w' ⟨v, rfl, hr, _, hs⟩
  rw [if_neg h0] at hr
  exact ⟨v, rfl, hr, hs⟩
set_option maxHeartbeats 4000000 in
set_option maxRecDepth 100000 in
theorem f3_any (v : Value) (names : List ByteArray) (asked : ByteArray) (w : World) (h : Rd Rep.str w (fun k => k < w.heap.size) v names) (hsz : ∀ x ∈ names, x.size ≤ 140737488351232) (ha : StrOk asked) :
    Calls Try.prog 3 #[v, .string asked] w fun e w' => e = .returned (.bool true) ∧ Step No w w' := by
  have hm := h.le
  unfold maxLen at hm
  obtain ⟨A, c, rfl, hc, _, _⟩ := h.slice
  have HV := Hd.mk h
  have HSZ := Hd.mk hsz
  clear h hsz
  go_enter Try.func3, Try.ntmps3
  go_wp2_with (first | (go_at_call 6; refine (f6_good 1048576 _ (by decide) (by decide)).mono ?_; rintro e w1 ⟨rfl, hd, hs, hz⟩; refine Stop.back ?_))
  obtain ⟨db, hdb⟩ : ∃ db, db = w.heap.size + 1 := ⟨_, rfl⟩
  obtain ⟨mb, hmb⟩ : ∃ mb, mb = w.heap.size := ⟨_, rfl⟩
  obtain ⟨xb, hxb⟩ : ∃ xb, xb = w1.heap.size := ⟨_, rfl⟩
  rw [← hdb, ← hmb] at hd
  rw [← hdb]
  obtain ⟨w2, hw2⟩ : ∃ w2, w2 = w1.alloc (.cells #[.int .i64 1048576, .slice none 0 0] 30) := ⟨_, rfl⟩
  have hst : Step No w1 w2 := by rw [hw2]; exact Step.alloc _ _ _
  have hblk : w2.heap[xb]? = some (.cells #[.int .i64 1048576, .slice none 0 0] 30 (0, 0)) := by rw [hw2, hxb]; exact blk_new w1 _
  have HS0 : Hd (RState w db mb xb w2 [] (.slice none 0 0) []) := ⟨⟨⟨hd.step hst (fun _ _ h => h), ⟨hblk, RowAt.nil _ _ _, (fun _ h => by cases h), (fun _ h => by cases h), by decide, by decide, by decide⟩, (by
    rintro k (rfl | rfl | ⟨p, hp, _⟩)
    · omega
    · omega
    · cases hp), (by
    rintro k (rfl | hk | ⟨p, hp, _⟩)
    · rw [hxb]; omega
    · cases hk
    · cases hp), (by
    rintro k (rfl | rfl | ⟨p, hp, _⟩) hr
    · rcases hr with hr | hr | ⟨p, hp, _⟩
      · omega
      · cases hr
      · cases hp
    · rcases hr with hr | hr | ⟨p, hp, _⟩
      · omega
      · cases hr
      · cases hp
    · cases hp), hs.trans' hst⟩, Cpl.nil, ⟨by simp [view], by simp [view]⟩, by simp [view, Full]⟩⟩
  clear hd hs hz hdb hmb hst hblk
  refine Stop.go ?_
  go_wp2
  rw [← hw2, ← hxb]
  clear hw2 hxb
  have kb := fun (s : ByteArray) (W : World) => Lib.run_convert_string_bytes (P := Try.prog) W 9 32 5 s Try.underlying9 Try.underlying32 Try.underlying5
  go_loopg [30] names.length (fun kq i wr => ∃ k : Nat, k ≤ names.length ∧ i = .int .i64 k ∧ Hd (kq = names.length - k) ∧ Hd (REx w db mb xb wr))
  case atStart => exact ⟨0, Nat.zero_le _, rfl, ⟨rfl⟩, ⟨_, _, _, HS0.out⟩⟩
  case round =>
    obtain ⟨k, hk, rfl, HK, HEX⟩ := hrel
    obtain ⟨fs, sv, rs, hst⟩ := HEX.out
    have HSt := Hd.mk hst
    clear hst HEX
    by_cases hlt : k < names.length
    · obtain ⟨ad, rfl, _, hcell, hsok⟩ := Rd.at (HV.out.stepNo HSt.out.both.step) hlt
      have hsmall := HSZ.out names[k] (List.getElem_mem hlt)
      obtain ⟨x, hx⟩ : ∃ x, x = names[k] := ⟨_, rfl⟩
      rw [← hx] at hcell hsok hsmall
      have HSok := Hd.mk hsok
      have HSmall := Hd.mk hsmall
      clear hx hsok hsmall
      have hnod : ((view fs).map Prod.fst).Nodup := HSt.out.ok.2
      have hlen : rs.length ≤ 1300000000000 := by
        have h1 := HSt.out.cpl.length
        have h2 := HSt.out.full.le
        have h3 := HSt.out.both.disk.fits
        rw [used_view] at h3
        omega
      have hbsl : (bs x).length = x.size := by unfold bs; simp
      obtain ⟨ev, hev⟩ : ∃ ev, ev = appE (view fs) 1048576 x (bs x).length := ⟨_, rfl⟩
      have hrd := fun (W : World) => rds_bytes W 5 x _ (grownCap_ge W x.size 0 5) (grownCap_le_maxLen _ _ _ _ (by unfold maxLen; have := HSmall.out; omega))
      have h7 := f7_any (F := fun j => j = wr.heap.size) db mb 1048576 fs x (.slice (some ⟨wr.heap.size, 0, none⟩) x.size (grownCap wr x.size 0 5)) (bs x) (Lib.bytesWorld wr 5 x) HSok.out (hrd wr) (HSt.out.both.disk.step (step_bytes wr 5 x) (fun _ _ h => h)) (fun j hj hf => by have := HSt.out.both.disk.lt hf; omega)
      unfold AppPost at h7
      rw [← hev] at h7
      have H7 := Hd.mk h7
      have HRD := Hd.mk hrd
      have HEV := Hd.mk hev
      have HLen := Hd.mk hlen
      have HNod := Hd.mk hnod
      have HBsl := Hd.mk hbsl
      clear h7 hrd hev hlen hnod hbsl
      go_wp2_with (first | (go_at_call 7; refine H7.out.mono ?_; rintro e w3 ⟨rfl, hp⟩; refine Stop.back ?_))
      obtain ⟨fs', hv', hb'⟩ := (HSt.out.both.no (step_bytes wr 5 x)).toDisk hp
      have HB := Hd.mk hb'
      have HV' := Hd.mk hv'
      clear hp hb' hv'
      have h8 := f8_any xb 1048576 sv rs x (.slice (some ⟨w3.heap.size, 0, none⟩) x.size (grownCap w3 x.size 0 5)) (bs x) (Lib.bytesWorld w3 5 x) HSok.out (HB.out.no (step_bytes w3 5 x)).ref HLen.out ((HRD.out w3).mono (fun j hj => by rw [hj, Lib.bytesWorld_size]; omega)) (by rw [HBsl.out]; have := HSmall.out; omega)
      rw [app_same HSt.out.cpl, ← HEV.out] at h8
      have H8 := Hd.mk h8
      clear h8
      refine Stop.go ?_
      go_wp2_with (first | (go_at_call 8; refine H8.out.mono ?_; rintro e w4 ⟨rfl, hp⟩; refine Stop.back ?_))
      obtain ⟨sv2, rs2, hpr, hb2⟩ := (HB.out.no (step_bytes w3 5 x)).toRef hp
      have HX : Hd (REx w db mb xb w4) := ⟨by
        refine ⟨fs', sv2, rs2, hb2, ?_, ?_, ?_⟩
        · rw [HV'.out, HEV.out]; exact HSt.out.cpl.appP HNod.out hpr
        · rw [HV'.out, HEV.out]
          split
          · rename_i he; exact HSt.out.ok.app (appE_ok he) _
          · exact HSt.out.ok
        · rw [HV'.out, HEV.out]
          split
          · rename_i he
            refine HSt.out.full.app ?_
            have hk := appE_ok he
            have : 0 < x.size := by
              rcases Nat.eq_zero_or_pos x.size with h0 | h0
              · exfalso
                have : x.toList.isEmpty = true := by
                  rw [ByteArray.toList_eq]
                  have : x.data.toList.length = 0 := by simpa using h0
                  rw [List.length_eq_zero_iff.1 this]; rfl
                unfold okName at hk
                rw [this] at hk
                simp at hk
              · exact h0
            rw [HBsl.out]; exact this
          · exact HSt.out.full⟩
      clear hp hpr hb2
      refine Stop.go ?_
      go_wp2
      go_roundg (names.length - (k + 1))
      case measure => have := HK.out; omega
      case rel => exact ⟨k + 1, by omega, by go_num, ⟨rfl⟩, HX⟩
    · obtain rfl : k = names.length := by omega
      have hnod : ((view fs).map Prod.fst).Nodup := HSt.out.ok.2
      obtain ⟨ec, hec⟩ : ∃ ec, ec = readE (view fs) asked := ⟨_, rfl⟩
      have hrs := read_same HSt.out.cpl hnod asked
      have HEC := Hd.mk hec
      have HRS := Hd.mk hrs
      have HNod := Hd.mk hnod
      by_cases h0 : ec = 0
      · have hz : readE (view fs) asked = 0 := by rw [← hec]; exact h0
        have h9 := f9_in db mb 1048576 fs asked wr ha HSt.out.both.disk hz
        have hrz : rreadE rs asked = 0 := by rw [hrs]; exact hz
        have hlt2 : rplace rs asked < rs.length := by
          have h1 := hrz
          unfold rreadE at h1
          by_cases h2 : rplace rs asked < rs.length
          · exact h2
          · have h3 : rhas rs asked = false := decide_eq_false h2
            rw [h3] at h1
            split at h1 <;> simp at h1
        have hget : mget (view fs) asked = some (rs[rplace rs asked].data, rs[rplace rs asked].safe) := by
          rw [HSt.out.cpl.get hnod, List.getElem?_eq_getElem hlt2]; rfl
        have hv2 : vget (view fs) asked = (rs[rplace rs asked].data, rs[rplace rs asked].safe) := by unfold vget; rw [hget]; rfl
        have hs0 : (vget (view fs) asked).2 = 0 := by
          rw [hv2]; exact (HSt.out.full _ (mem_of_lookup hget)).2
        have hd0 : (vget (view fs) asked).1 = rs[rplace rs asked].data := by rw [hv2]
        have hri : rreadI rs asked = (rplace rs asked : Int) := by unfold rreadI rfind; rw [if_pos hrz, if_pos hlt2]
        have key : ∃ (p : Nat) (hl : p < rs.length), rreadI rs asked = (p : Int) ∧ (vget (view fs) asked).1 = rs[p].data := ⟨_, hlt2, hri, hd0⟩
        clear hlt2 hri hd0 hget hv2
        obtain ⟨p, hlt2, hri, hd0⟩ := key
        obtain ⟨d, hd⟩ : ∃ d, d = (vget (view fs) asked).1 := ⟨_, rfl⟩
        rw [← hd] at h9 hd0
        have H9 := Hd.mk h9
        have HZ := Hd.mk hz
        have HRZ := Hd.mk hrz
        have HS0' := Hd.mk hs0
        have HD0 := Hd.mk hd0
        have HRI := Hd.mk hri
        clear h9 hz hec hrs hnod hrz hs0 hd0 hri hd
        go_wp2_with (first | (go_at_call 9; refine H9.out.mono ?_; rintro e w3 ⟨v, rfl, hv, hs⟩; refine Stop.back ?_))
        have HB3 := Hd.mk (HSt.out.both.no hs)
        have HRdv : Hd (Rd Rep.u8 w3 (fun j => j < w3.heap.size) v d) := ⟨Rd.of_row hv (fun j hj => hv.lt hj) (fun _ _ => trivial)⟩
        obtain ⟨Av, cv, rfl, -, -, -⟩ := hv.slice
        clear hv hs
        have h10 := f10_any db mb 1048576 fs asked w3 ha HB3.out.disk
        unfold SafePost at h10
        rw [if_pos HZ.out, HZ.out, HS0'.out] at h10
        have H10 : Hd (Calls Try.prog 10 #[.pointer (some ⟨db, 0, none⟩), .string asked] w3 fun e w' => e = .returned (.tuple #[.int .i64 0, .int .i64 0]) ∧ Step No w3 w') := ⟨h10⟩
        clear h10
        refine Stop.go ?_
        go_wp2_with (first | (go_at_call 10; refine H10.out.mono ?_; rintro e w4 ⟨rfl, hs⟩; refine Stop.back ?_))
        have HB4 := Hd.mk (HB3.out.no hs)
        have HRdv4 := Hd.mk (HRdv.out.stepNo hs)
        clear hs
        have h11 := f11_any xb 1048576 sv rs asked w4 ha HB4.out.ref
        rw [HRZ.out, HRI.out] at h11
        have H11 := Hd.mk h11
        clear h11
        refine Stop.go ?_
        go_wp2_with (first | (go_at_call 11; refine H11.out.mono ?_; rintro e w5 ⟨rfl, hs⟩; refine Stop.back ?_))
        have HB5 := Hd.mk (HB4.out.no hs)
        have HRdv5 := Hd.mk (HRdv4.out.stepNo hs)
        clear hs
        obtain ⟨A2, c2, rfl, hc2, -, -⟩ := HB5.out.ref.row.slice
        obtain ⟨hh0, hh1⟩ := HB5.out.ref.head
        obtain ⟨ad, b, off, rfl, -, -, hpp, -, hcb, -⟩ := HB5.out.ref.at hlt2
        have hown := HB5.out.ref.own rs[p] (List.getElem_mem hlt2)
        have hrd : Rd Rep.u8 w5 (fun k => k < w5.heap.size) rs[p].b rs[p].data := Rd.of_row hown (fun k hk => hown.lt hk) (fun _ _ => trivial)
        rw [← HD0.out] at hrd
        obtain ⟨Ab, cb, hb, -, -, -⟩ := hown.slice
        rw [hb] at hcb hrd
        obtain ⟨lb, hlb⟩ : ∃ n, n = rs[p].data.length := ⟨_, rfl⟩
        rw [← hlb] at hcb hrd
        have h13 := f13_any _ _ d d w5 HRdv5.out hrd
        rw [decide_eq_true rfl] at h13
        have H13 := Hd.mk h13
        clear h13 hown hrd hb hlb
        refine Stop.go ?_
        go_wp2_with (first | (go_at_call 13; refine H13.out.mono ?_; rintro e w6 ⟨rfl, rfl⟩) | (go_at_call 12; refine (f12_any _).mono ?_; rintro e w7 ⟨rfl, hs⟩; refine Stop.back ?_))
        have HB6 := Hd.mk (HB5.out.no hs)
        clear hs
        refine Stop.go ?_
        go_wp2
        go_ret
        exact ⟨rfl, HB6.out.step⟩
      · have hz : readE (view fs) asked ≠ 0 := by rw [← hec]; exact h0
        have h9 := f9_out db mb 1048576 fs asked wr ha HSt.out.both.disk hz
        rw [← hec] at h9
        have H9 := Hd.mk h9
        have HZ := Hd.mk hz
        clear h9 hz hec hrs hnod
        go_wp2_with (first | (go_at_call 9; refine H9.out.mono ?_; rintro e w3 ⟨v, rfl, hv, hs⟩; refine Stop.back ?_))
        have HV3 := Hd.mk hv
        have HS3 := Hd.mk hs
        have HB3 := Hd.mk (HSt.out.both.no hs)
        obtain ⟨Av, cv, rfl, -, -, -⟩ := hv.slice
        clear hv hs
        have h10 := f10_any db mb 1048576 fs asked w3 ha HB3.out.disk
        unfold SafePost at h10
        rw [if_neg HZ.out, ← HEC.out] at h10
        have H10 := Hd.mk h10
        clear h10
        refine Stop.go ?_
        go_wp2_with (first | (go_at_call 10; refine H10.out.mono ?_; rintro e w4 ⟨rfl, hs⟩; refine Stop.back ?_))
        have HB4 := Hd.mk (HB3.out.no hs)
        clear hs
        have h11 := f11_any xb 1048576 sv rs asked w4 ha HB4.out.ref
        have hi0 : rreadI rs asked = 0 := by unfold rreadI; rw [if_neg (by rw [HRS.out]; exact HZ.out)]
        rw [HRS.out, ← HEC.out, hi0] at h11
        have H11 := Hd.mk h11
        clear h11 hi0
        refine Stop.go ?_
        go_wp2_with (first | (go_at_call 11; refine H11.out.mono ?_; rintro e w5 ⟨rfl, hs⟩; refine Stop.back ?_))
        have HB5 := Hd.mk (HB4.out.no hs)
        clear hs
        refine Stop.go ?_
        go_wp2_with (first | (go_at_call 12; refine (f12_any _).mono ?_; rintro e w6 ⟨rfl, hs⟩; refine Stop.back ?_))
        have HB6 := Hd.mk (HB5.out.no hs)
        clear hs
        refine Stop.go ?_
        go_wp2
        go_ret
        exact ⟨rfl, HB6.out.step⟩
end Go.Proofs.Ytmflfimenacflaa

/- What a keeper is told, as plain lists; the walk of the keeper's Note. -/
import Derived.Test.YtngganllammcpaaL6
set_option linter.unusedVariables false
set_option linter.unusedSimpArgs false
set_option linter.unusedVariables false
set_option linter.unusedSimpArgs false
namespace Go.Proofs.Ytngganllammcpaa
open Go Go.RowKit Gb
/-- a session as it is told -/
structure SR where
  home : ByteArray
  n : Int
  nonce : Int
  lease : Int
  beats : Int
  req : Int
  reply : List UInt8
def Rep.ses : Rep SR := Rep.iso (Rep.pair Rep.str (Rep.pair Rep.int (Rep.pair Rep.int (Rep.pair Rep.int (Rep.pair Rep.int (Rep.pair Rep.int Rep.u8.slice)))))) (fun s => (s.home, s.n, s.nonce, s.lease, s.beats, s.req, s.reply))
theorem Rep.ses_open {w : World} {F : Nat → Prop} {s : SR} {cs : List Value} (h : Rep.ses.K w F s cs) :
    ∃ v, cs = [.string s.home, .int .i64 s.n, .int .i64 s.nonce, .int .i64 s.lease, .int .i64 s.beats, .int .i64 s.req, v] ∧ StrOk s.home ∧ I64 s.n ∧ I64 s.lease ∧ I64 s.beats ∧ Rd Rep.u8 w F v s.reply := by
  obtain ⟨c0, r0, rfl, ⟨rfl, h0⟩, c1, r1, rfl, ⟨rfl, h1⟩, c2, r2, rfl, ⟨rfl, h2⟩, c3, r3, rfl, ⟨rfl, h3⟩, c4, r4, rfl, ⟨rfl, h4⟩, c5, c6, rfl, ⟨rfl, h5⟩, h6⟩ := h
  obtain ⟨A6, n6, e6, _⟩ := id h6
  subst e6
  exact ⟨_, rfl, h0, h1, h3, h4, h6⟩
def since1 (h : ByteArray) (n b : Int) (acc : Int) (o : KR) : Int := if o.home = h ∧ o.n = n ∧ o.beats = b then o.since else acc
def sinceF (now : Int) (s : SR) (old : List KR) : Int := old.foldl (since1 s.home s.n s.beats) now
def mkK (now : Int) (old : List KR) (s : SR) : KR := ⟨s.home, s.n, s.nonce, s.lease, s.beats, s.req, sinceF now s old⟩
def noteStep (now : Int) (old : List KR) (list : List KR) (s : SR) : List KR := list.filter (fun y => !same s.home s.n y) ++ [mkK now old s]
def noteL (now : Int) (old : List KR) (ss : List SR) : List KR := ss.foldl (noteStep now old) []
theorem noteL_snoc (now : Int) (old : List KR) {ss : List SR} {k : Nat} (hk : k < ss.length) : noteL now old (ss.take (k + 1)) = noteStep now old (noteL now old (ss.take k)) ss[k] := by
  unfold noteL
  rw [List.take_succ_eq_append_getElem hk, List.foldl_append]; rfl
theorem noteL_len (now : Int) (old : List KR) (ss : List SR) : (noteL now old ss).length ≤ ss.length := by
  unfold noteL
  suffices h : ∀ l : List KR, (ss.foldl (noteStep now old) l).length ≤ l.length + ss.length by simpa using h []
  induction ss with
  | nil => intro l; simp
  | cons s ss ih =>
    intro l
    rw [List.foldl_cons]
    have h1 := ih (noteStep now old l s)
    have h2 : (noteStep now old l s).length ≤ l.length + 1 := by
      unfold noteStep
      have := List.length_filter_le (fun y => !same s.home s.n y) l
      simp only [List.length_append, List.length_cons, List.length_nil]; omega
    simp only [List.length_cons]; omega
theorem sinceF_snoc (now : Int) (s : SR) {old : List KR} {k : Nat} (hk : k < old.length) : sinceF now s (old.take (k + 1)) = since1 s.home s.n s.beats (sinceF now s (old.take k)) old[k] := by
  unfold sinceF
  rw [List.take_succ_eq_append_getElem hk, List.foldl_append]; rfl
/-- a keeper in memory -/
structure KAt (w : World) (kb : Nat) (now : Int) (v : Value) (ks : List KR) : Prop where
  blk : w.heap[kb]? = some (.cells #[.int .i64 now, v] 68 (0, 0))
  row : SRow KR.cells 8 w 80 v ks
theorem KAt.ne {w : World} {kb : Nat} {now : Int} {v : Value} {ks : List KR} (h : KAt w kb now v ks) : ∀ k, Own v k → k ≠ kb := fun k hk => RowAt.ne h.blk h.row hk (by decide)
theorem KAt.stepNo {w w' : World} {kb : Nat} {now : Int} {v : Value} {ks : List KR} (h : KAt w kb now v ks) (hs : Step No w w') : KAt w' kb now v ks := ⟨hs.keep h.blk (fun h => h), h.row.stepNo hs⟩
theorem KAt.step' {S : Nat → Prop} {w w' : World} {kb : Nat} {now : Int} {v : Value} {ks : List KR} (h : KAt w kb now v ks) (hs : Step S w w') (hb : ∀ k, S k → k ≠ kb) (hv : ∀ k, Own v k → ¬ S k) : KAt w' kb now v ks := ⟨hs.keep h.blk (fun hk => hb kb hk rfl), h.row.step hs hv⟩
theorem f7_bad (kb : Nat) (now0 now : Int) (v : Value) (ks : List KR) (sv : Value) (w : World) (h : KAt w kb now0 v ks) (hb : tm now = false ∨ now < now0) :
    Calls Try.prog 7 #[.pointer (some ⟨kb, 0, none⟩), .int .i64 now, sv] w fun e w' => e = .returned (.int .i64 63) ∧ w = w' := by
  have c0 := blk_cell h.blk 0
  simp only [List.getElem?_toArray, List.getElem?_cons_zero] at c0
  clear h
  by_cases ht : tm now = true
  · have hlt : now < now0 := by
      rcases hb with hb | hb
      · rw [hb] at ht; cases ht
      · exact hb
    have hd : decide (now < now0) = true := decide_eq_true hlt
    have H := Hd.mk (f25_any now w)
    rw [ht] at H
    clear hb hlt ht
    go_enter Try.func7, Try.ntmps7
    go_wp2_with (first | (go_at_call 25; refine H.out.mono ?_; rintro e w1 ⟨rfl, rfl⟩))
    go_ret
    exact ⟨rfl, rfl⟩
  · have ht' : tm now = false := by simpa using ht
    have H := Hd.mk (f25_any now w)
    rw [ht'] at H
    clear hb ht ht'
    go_enter Try.func7, Try.ntmps7
    go_wp2_with (first | (go_at_call 25; refine H.out.mono ?_; rintro e w1 ⟨rfl, rfl⟩))
    go_ret
    exact ⟨rfl, rfl⟩
def NotePost (kb : Nat) (now : Int) (ks : List KR) (ss : List SR) (w : World) (e : Ending) (w' : World) : Prop :=
  e = .returned (.int .i64 0) ∧ ∃ v' ys, KAt w' kb now v' ys ∧ ys.Perm (noteL now ks ss) ∧ ys.Pairwise (fun a b => ¬ KLt b.home b.n a.home a.n) ∧ Step (At kb) w w' ∧ ∀ k, Own v' k → w.heap.size ≤ k
theorem One.since {w : World} {b : Nat} {m : KR} (h : One w b m) (v : Int) : One (w.setCell ⟨b, 7, none⟩ (.int .i64 v)) b { m with since := v } := by
  have := RowAt.set h 7 (.int .i64 v)
  unfold One SRow
  simpa [KR.cells] using this
set_option maxRecDepth 100000 in
set_option maxHeartbeats 4000000 in
theorem f7_good (kb : Nat) (now0 now : Int) (v : Value) (ks : List KR) (sv : Value) (ss : List SR) (w : World) {F : Nat → Prop} (h : KAt w kb now0 v ks) (hr : Rd Rep.ses w F sv ss) (hF : ∀ k, F k → k ≠ kb) (ht : tm now = true) (hge : ¬ now < now0) (hlen : ss.length * 80 ≤ 140737488351232) :
    Calls Try.prog 7 #[.pointer (some ⟨kb, 0, none⟩), .int .i64 now, sv] w (NotePost kb now ks ss w) := by
  obtain ⟨A, c, rfl, hc, hcm, _⟩ := hr.slice
  obtain ⟨A2, c2, rfl, hc2, hcm2, _⟩ := h.row.slice
  have c0 := blk_cell h.blk 0
  have f0 := blk_free h.blk 0
  have hb1 := blk_set h.blk 0 (.int .i64 now)
  simp only [List.getElem?_toArray, List.getElem?_cons_zero] at c0
  have hK1 : KAt (w.setCell ⟨kb, 0, none⟩ (.int .i64 now)) kb now (.slice A2 ks.length c2) ks := ⟨by rw [hb1]; rfl, h.row.step (Step.setAt w ⟨kb, 0, none⟩ _) (fun k hk e => h.ne k hk e)⟩
  have hs1 : Step (At kb) w (w.setCell ⟨kb, 0, none⟩ (.int .i64 now)) := Step.setAt w ⟨kb, 0, none⟩ _
  have HK1 := Hd.mk hK1
  have HS1 := Hd.mk hs1
  have HR := Hd.mk hr
  have HF := Hd.mk hF
  have hkl : ks.length ≤ 9223372036854775807 := by unfold maxLen at hcm2; omega
  have hdlt : decide (now < now0) = false := decide_eq_false hge
  have H25 := Hd.mk (f25_any now w)
  rw [ht] at H25
  have HNe := Hd.mk hK1.ne
  clear hb1 hK1 hs1 hr hF h ht hge
  go_enter Try.func7, Try.ntmps7
  go_wp2_with (first | (go_at_call 25; refine H25.out.mono ?_; rintro e w1 ⟨rfl, rfl⟩))
  go_loopg [7, 30] ss.length (fun kq lv iv wr => ∃ (i : Nat), i ≤ ss.length ∧ iv = .int .i64 i ∧ Hd (kq = ss.length - i) ∧ Hd (SRow KR.cells 8 wr 80 lv (noteL now ks (ss.take i))) ∧ Hd (∀ k, Own lv k → w.heap.size ≤ k) ∧ Hd (KAt wr kb now (.slice A2 ks.length c2) ks) ∧ Hd (Step (At kb) w wr))
  case atStart => exact ⟨0, Nat.zero_le _, rfl, ⟨rfl⟩, ⟨SRow.nil _ _ _ _⟩, ⟨fun k hk => by cases hk⟩, HK1, HS1⟩
  case round =>
    obtain ⟨i, hi, rfl, HI, HL, HFr, HKA, HS⟩ := hrel
    by_cases hlt : i < ss.length
    · obtain ⟨ad, b, off, cs, rfl, hbF, hp, hcs, hcell⟩ := (HR.out.step HS.out (fun k hk e => HF.out k hk e)).cellsAt hlt (by decide)
      obtain ⟨s, hs⟩ : ∃ s, s = ss[i] := ⟨_, rfl⟩
      rw [← hs] at hcs
      obtain ⟨v6, rfl, hh, hn, hle, hbe, h6⟩ := Rep.ses_open hcs
      obtain ⟨A6, n6, rfl, -, -, -⟩ := h6.slice
      have q0 := hcell 0 _ rfl
      have q1 := hcell 1 _ rfl
      have q2 := hcell 2 _ rfl
      have q3 := hcell 3 _ rfl
      have q4 := hcell 4 _ rfl
      have q5 := hcell 5 _ rfl
      have q6 := hcell 6 _ rfl
      simp only [Nat.add_zero] at q0
      have hp7 : ad.add (i * 7) = ⟨b, off, none⟩ := hp
      have hsn := noteL_snoc now ks hlt
      rw [← hs] at hsn
      have HSn := Hd.mk hsn
      obtain ⟨lst, hlst⟩ : ∃ lst, lst = noteL now ks (ss.take i) := ⟨_, rfl⟩
      have hll : lst.length ≤ i := by rw [hlst]; have := noteL_len now ks (ss.take i); rw [List.length_take] at this; omega
      rw [← hlst] at HL HSn
      have hkbl := lt_of_blk HKA.out.blk
      have HHs := Hd.mk hh
      obtain ⟨x1, hx1⟩ : ∃ x1, x1 = wr.alloc (.cells #[.string s.home, .int .i64 s.n, .int .i64 s.nonce, .int .i64 s.lease, .int .i64 s.beats, .int .i64 s.req, .slice A6 s.reply.length n6] 36) := ⟨_, rfl⟩
      clear hs hcs hcell hp h6 hsn hlst hh hn hle hbe
      go_upto_region 10 with (fail)
      obtain ⟨wo, hwo⟩ : ∃ wo, wo = wr := ⟨_, rfl⟩
      subst hwo
      obtain ⟨sb, hsb⟩ : ∃ sb, sb = wo.heap.size := ⟨_, rfl⟩
      obtain ⟨xb, hxb⟩ : ∃ xb, xb = wo.heap.size + 1 := ⟨_, rfl⟩
      obtain ⟨W, hW⟩ : ∃ W, W = (wo.alloc (.cells #[.string s.home, .int .i64 s.n, .int .i64 s.nonce, .int .i64 s.lease, .int .i64 s.beats, .int .i64 s.req, .slice none 0 0] 36)).alloc (.cells #[.string s.home, .int .i64 s.n, .int .i64 s.nonce, .int .i64 s.lease, .int .i64 s.beats, .int .i64 s.req, .slice none 0 0, .int .i64 now] 80) := ⟨_, rfl⟩
      have bS : W.heap[sb]? = some (.cells #[.string s.home, .int .i64 s.n, .int .i64 s.nonce, .int .i64 s.lease, .int .i64 s.beats, .int .i64 s.req, .slice none 0 0] 36 (0, 0)) := by rw [hW, hsb]; exact blk_alloc (blk_new wo _) _
      have oX : One W xb (mkK now [] s) := by
        have := One.new (wo.alloc (.cells #[.string s.home, .int .i64 s.n, .int .i64 s.nonce, .int .i64 s.lease, .int .i64 s.beats, .int .i64 s.req, .slice none 0 0] 36)) (mkK now [] s)
        have h9 : (wo.alloc (.cells #[.string s.home, .int .i64 s.n, .int .i64 s.nonce, .int .i64 s.lease, .int .i64 s.beats, .int .i64 s.req, .slice none 0 0] 36)).heap.size = wo.heap.size + 1 := by simp
        rw [h9] at this
        rw [hW, hxb]
        exact this
      have stW : Step No wo W := by rw [hW]; exact (Step.alloc No _ _).trans' (Step.alloc No _ _)
      rw [← hW, ← hxb, ← hsb]
      have kW := HKA.out.stepNo stW
      have e1 := blk_cell kW.blk 1
      simp only [List.getElem?_toArray, List.getElem?_cons_zero, List.getElem?_cons_succ] at e1
      have BS := Hd.mk bS
      have OX := Hd.mk oX
      have STW := Hd.mk stW
      have KW := Hd.mk kW
      have HSb := Hd.mk hsb
      have HXb := Hd.mk hxb
      clear hW hsb hxb bS oX stW kW
      go_wp2
      go_loopg [43] ks.length (fun kq jv wx => ∃ (j : Nat), j ≤ ks.length ∧ jv = .int .i64 j ∧ Hd (kq = ks.length - j) ∧ Hd (One wx xb (mkK now (ks.take j) s)) ∧ Hd (Step (At xb) W wx))
      case atStart => exact ⟨0, Nat.zero_le _, rfl, ⟨rfl⟩, OX, ⟨Step.refl _ _⟩⟩
      case round =>
        obtain ⟨j, hj, rfl, HJ, HO, HSX⟩ := hrel
        by_cases hlt2 : j < ks.length
        · obtain ⟨g, rfl, -, -, y0, y1, y2, y3, y4, y5, y6, y7⟩ := KR.ats (KW.out.row.step HSX.out (fun k hk e => by have h1 : k = xb := e; have h2 := RowAt.lt HKA.out.row hk; have h3 := HXb.out; omega)) hlt2
          obtain ⟨y, hy⟩ : ∃ y, y = ks[j] := ⟨_, rfl⟩
          rw [← hy] at y0 y1 y2 y3 y4 y5 y7
          have hss := sinceF_snoc now s hlt2
          rw [← hy] at hss
          have hmk : mkK now (ks.take (j + 1)) s = { mkK now (ks.take j) s with since := since1 s.home s.n s.beats (sinceF now s (ks.take j)) y } := by unfold mkK; rw [hss]
          have hsx : sb ≠ xb := by have := HSb.out; have := HXb.out; omega
          have bS2 := HSX.out.keep BS.out hsx
          have s0 := fun O => blk_cell (blk_alloc bS2 O) 0
          have s1 := fun O => blk_cell (blk_alloc bS2 O) 1
          have s4 := fun O => blk_cell (blk_alloc bS2 O) 4
          simp only [List.getElem?_toArray, List.getElem?_cons_zero, List.getElem?_cons_succ] at s0 s1 s4
          have z7 := fun O => One.at HO.out 7 _ rfl _ (Step.alloc No wr O)
          have fz := fun O => One.free HO.out _ (Step.alloc No wr O) 7
          unfold mkK at z7
          have HMk := Hd.mk hmk
          obtain ⟨acc, hacc⟩ : ∃ acc, acc = sinceF now s (ks.take j) := ⟨_, rfl⟩
          rw [← hacc] at z7 HMk
          have HAc := Hd.mk hacc
          clear hy hss hmk bS2 hacc
          by_cases c1 : y.home = s.home
          · have t1 := tl_eq c1
            by_cases c2 : y.n = s.n
            · have t2 : (y.n == s.n) = true := by simpa using c2
              by_cases c3 : y.beats = s.beats
              · have t3 : (y.beats == s.beats) = true := by simpa using c3
                have hsi : since1 s.home s.n s.beats acc y = y.since := by unfold since1; rw [if_pos ⟨c1, c2, c3⟩]
                rw [hsi] at HMk
                clear c1 c2 c3 hsi
                go_wp2
                go_roundg (ks.length - (j + 1))
                case measure => have := HJ.out; omega
                case rel =>
                  have o2 := (HO.out.step (Step.alloc No wr (.cells y.cells.toArray 80)) (fun h => h)).since y.since
                  refine ⟨j + 1, by omega, by go_num, ⟨rfl⟩, ⟨by rw [HMk.out]; exact o2⟩, ⟨(HSX.out.transNo (Step.alloc No _ _)).trans' (Step.setAt _ ⟨xb, 7, none⟩ _)⟩⟩
              · have t3 : (y.beats == s.beats) = false := by simpa using c3
                have hsi : since1 s.home s.n s.beats acc y = acc := by unfold since1; rw [if_neg (fun h => c3 h.2.2)]
                rw [hsi, HAc.out] at HMk
                clear c1 c2 c3 hsi
                go_wp2
                go_roundg (ks.length - (j + 1))
                case measure => have := HJ.out; omega
                case rel => exact ⟨j + 1, by omega, by go_num, ⟨rfl⟩, ⟨by rw [HMk.out]; exact HO.out.step (Step.alloc No _ _) (fun h => h)⟩, ⟨HSX.out.transNo (Step.alloc No _ _)⟩⟩
            · have t2 : (y.n == s.n) = false := by simpa using c2
              have hsi : since1 s.home s.n s.beats acc y = acc := by unfold since1; rw [if_neg (fun h => c2 h.2.1)]
              rw [hsi, HAc.out] at HMk
              clear c1 c2 hsi
              go_wp2
              go_roundg (ks.length - (j + 1))
              case measure => have := HJ.out; omega
              case rel => exact ⟨j + 1, by omega, by go_num, ⟨rfl⟩, ⟨by rw [HMk.out]; exact HO.out.step (Step.alloc No _ _) (fun h => h)⟩, ⟨HSX.out.transNo (Step.alloc No _ _)⟩⟩
          · have t1 := tl_ne c1
            have hsi : since1 s.home s.n s.beats acc y = acc := by unfold since1; rw [if_neg (fun h => c1 h.1)]
            rw [hsi, HAc.out] at HMk
            clear c1 hsi
            go_wp2
            go_roundg (ks.length - (j + 1))
            case measure => have := HJ.out; omega
            case rel => exact ⟨j + 1, by omega, by go_num, ⟨rfl⟩, ⟨by rw [HMk.out]; exact HO.out.step (Step.alloc No _ _) (fun h => h)⟩, ⟨HSX.out.transNo (Step.alloc No _ _)⟩⟩
        · obtain rfl : j = ks.length := by omega
          obtain ⟨Al, cl, rfl, -, -, -⟩ := HL.out.slice
          have hsx : sb ≠ xb := by have := HSb.out; have := HXb.out; omega
          have hst : Step No wo wr := STW.out.trans HSX.out (fun k hk hl => by have h1 : k = xb := hk; have h3 := HXb.out; omega)
          have bS2 := HSX.out.keep BS.out hsx
          have s0 := blk_cell bS2 0
          have s1 := blk_cell bS2 1
          simp only [List.getElem?_toArray, List.getElem?_cons_zero, List.getElem?_cons_succ] at s0 s1
          have h26 := f26_any Al cl lst sb s.home s.n wr (HL.out.stepNo hst) s0 s1 (fun k hk e => by have h1 := RowAt.lt HL.out hk; have h2 := HSb.out; omega)
          have HO2 : Hd (One wr xb (mkK now ks s)) := by have := HO.out; rw [List.take_length] at this; exact ⟨this⟩
          have H26 := Hd.mk h26
          have HSt := Hd.mk hst
          clear hsx bS2 s0 s1 h26 hst HO HSX BS OX
          go_wp2_with (first | (go_at_call 26; refine H26.out.mono ?_; rintro e w2 ⟨v2, rfl, hrow, hs2, hown⟩; refine Stop.back ?_))
          have hkw : kb < w.heap.size := by
            have h1 := HS1.out.size
            have h2 := lt_of_blk HK1.out.blk
            simpa [World.setCell] using h2
          have o2 : One w2 xb (mkK now ks s) := HO2.out.step hs2 (fun hk => by have h1 := RowAt.lt HL.out hk; have h3 := HXb.out; omega)
          have hfin : ∀ w3 v3, Step (Own v2) w2 w3 → (∀ k, Own v3 k → Own v2 k ∨ w2.heap.size ≤ k) → Step (At kb) w w3 ∧ KAt w3 kb now (.slice A2 ks.length c2) ks ∧ ∀ k, Own v3 k → w.heap.size ≤ k := by
            intro w3 v3 hs3 ho3
            have ha := hs2.trans hs3 (fun k hk _ => hown k hk)
            have hfr2 := HFr.out
            refine ⟨(HS.out.transNo HSt.out).trans ha (fun k hk hl => by have := hfr2 k hk; omega), (HKA.out.stepNo HSt.out).step' ha (fun k hk => by have := hfr2 k hk; omega) (fun k hk hk2 => ?_), fun k hk => ?_⟩
            · have h1 := hfr2 k hk2
              have h2 : k < w.heap.size := by
                have h3 := RowAt.lt HK1.out.row hk
                simpa [World.setCell] using h3
              omega
            · rcases ho3 k hk with h1 | h1
              · exact hfr2 k (hown k h1)
              · have := hs2.size; have := HSt.out.size; have := HS.out.size; omega
          have u0 := One.at o2 0 _ rfl w2 (Step.refl _ _)
          have u1 := One.at o2 1 _ rfl w2 (Step.refl _ _)
          have u2 := One.at o2 2 _ rfl w2 (Step.refl _ _)
          have u3 := One.at o2 3 _ rfl w2 (Step.refl _ _)
          have u4 := One.at o2 4 _ rfl w2 (Step.refl _ _)
          have u5 := One.at o2 5 _ rfl w2 (Step.refl _ _)
          have u6 := One.at o2 6 _ rfl w2 (Step.refl _ _)
          have u7 := One.at o2 7 _ rfl w2 (Step.refl _ _)
          unfold mkK at u0 u1 u2 u3 u4 u5 u6 u7
          have HFin := Hd.mk hfin
          have HRow := Hd.mk hrow
          have hfl : (lst.filter (fun y => !same s.home s.n y)).length ≤ i := Nat.le_trans (List.length_filter_le _ _) hll
          obtain ⟨l2, hl2⟩ : ∃ l2, l2 = lst.filter (fun y => !same s.home s.n y) := ⟨_, rfl⟩
          rw [← hl2] at HRow hfl
          have HL2 := Hd.mk hl2
          obtain ⟨sv2, hsv⟩ : ∃ sv2, sv2 = sinceF now s ks := ⟨_, rfl⟩
          rw [← hsv] at u7
          have HSv := Hd.mk hsv
          clear hkw o2 hfin hrow hl2 hsv hs2 hown
          refine Stop.go ?_
          go_wp2_with (first | (at_builtin; refine Stop.back ?_))
          refine Stop.go (wp_append1W rfl _ _ 66 80 rfl (.agg #[.string ⟨#[]⟩, .int .i64 0, .int .i64 0, .int .i64 0, .int .i64 0, .int .i64 0, .slice none 0 0, .int .i64 0]) 8 88 Try.underlying66 info80 rfl (by decide) _ _ _ rfl HRow.out rfl rfl (by intro u hu; simp at hu; rcases hu with rfl | rfl | rfl | rfl | rfl | rfl | rfl | rfl <;> rfl) (by omega) (by decide) ?_)
          intro v3 w3 k1 k2 _ k4
          have hF3 := HFin.out w3 v3 k2 k4
          have HF3 := Hd.mk hF3
          have hrw : SRow KR.cells 8 w3 80 v3 (noteL now ks (ss.take (i + 1))) := by
            rw [HSn.out]
            unfold noteStep SRow
            rw [← HL2.out]
            simp only [List.flatMap_append, List.length_append, List.length_cons, List.length_nil, List.flatMap_cons, List.flatMap_nil, List.append_nil]
            rw [HSv.out] at k1
            exact k1
          have HRw := Hd.mk hrw
          clear k1 k2 k4 hF3 hrw
          refine Stop.go ?_
          go_wp2
          go_roundg (ss.length - (i + 1))
          case measure => have := HI.out; omega
          case rel => exact ⟨i + 1, by omega, by go_num, ⟨rfl⟩, HRw, ⟨HF3.out.2.2⟩, ⟨HF3.out.2.1⟩, ⟨HF3.out.1⟩⟩
    · obtain rfl : i = ss.length := by omega
      have hll := noteL_len now ks ss
      have hl := HL.out
      rw [List.take_length] at hl
      obtain ⟨lst, hlst⟩ : ∃ lst, lst = noteL now ks ss := ⟨_, rfl⟩
      rw [← hlst] at hl hll
      have hcon := f28_any _ lst wr hl (by omega)
      obtain ⟨Al, cl, rfl, -, -, -⟩ := hl.slice
      have H28 := Hd.mk hcon
      have HLst := Hd.mk hlst
      have hfrl := HFr.out
      have HFrl := Hd.mk hfrl
      clear hl hcon hlst hfrl HL HFr
      go_wp2_with (first | (go_at_call 28; refine H28.out.mono ?_; rintro e w2 ⟨rfl, ys, hp, hso, hrow, hst⟩; refine Stop.back ?_))
      have hkw : kb < w.heap.size := by
        have h1 := HS1.out.size
        have h2 := lt_of_blk HK1.out.blk
        simpa [World.setCell] using h2
      have hbk := hst.keep HKA.out.blk (fun hk => by have := HFrl.out kb hk; omega)
      have e1 := blk_cell hbk 1
      have g1 := blk_free hbk 1
      simp only [List.getElem?_toArray, List.getElem?_cons_zero, List.getElem?_cons_succ] at e1
      have HZ : Hd (NotePost kb now ks ss w (.returned (.int .i64 0)) (w2.setCell ⟨kb, 1, none⟩ (.slice Al lst.length cl))) := ⟨by
        refine ⟨rfl, _, ys, ⟨by rw [blk_set hbk]; rfl, hrow.step (Step.setAt w2 ⟨kb, 1, none⟩ _) (fun k hk e => ?_)⟩, by rw [← HLst.out]; exact hp, hso, ?_, HFrl.out⟩
        · have e' : k = kb := e
          have := HFrl.out k hk
          omega
        · exact (HS.out.trans hst (fun k hk hlt => by have := HFrl.out k hk; omega)).trans' (Step.setAt w2 ⟨kb, 1, none⟩ _)⟩
      clear hp hso hrow hst hbk
      refine Stop.go ?_
      go_wp2
      go_ret
      exact HZ.out
end Go.Proofs.Ytngganllammcpaa

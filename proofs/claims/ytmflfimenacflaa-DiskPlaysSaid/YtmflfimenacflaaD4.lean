/- The plain laws of a disk's table and the room that is used. -/
import Derived.Test.YtmflfimenacflaaD3
set_option linter.unusedVariables false
set_option linter.unusedSimpArgs false
namespace Go.Proofs.Ytmflfimenacflaa
open Go.RowKit Gb
def findE (fs : Files) (ss : List ByteArray) : Int := if ss.all okName then (if ss.all (fun s => (mget fs s).isSome) then 0 else 31) else 30
def FindPost (fs : Files) (ss : List ByteArray) (w : World) (e : Ending) (w' : World) : Prop :=
  Step No w w' ∧ ((findE fs ss ≠ 0 ∧ e = .returned (.tuple #[.slice none 0 0, .int .i64 (findE fs ss)])) ∨
    findE fs ss = 0 ∧ ∃ (v : Value) (gs : List FileG), e = .returned (.tuple #[v, .int .i64 0]) ∧ ss.map (mget fs) = gs.map some ∧ RowAt w' 67 1 v gs.length (gs.map FileG.ptr) ∧ Fresh w v)
theorem info67 : (Try.prog.info? 67).map (fun i => (i.zero, i.size, i.bytes)) = some (some (.pointer none), 1, 8) := by kernel_rfl
theorem keyV9 {s : ByteArray} (h : StrOk s) : KeyV Try.prog 9 (.string s) := ⟨_, WideMaps.keyOf_string_mk Try.underlying9 (by unfold maxLen; exact h)⟩
theorem findE_bad {fs : Files} {ss : List ByteArray} {k : Nat} {s : ByteArray} (hx : ss[k]? = some s) (h : okName s = false) : findE fs ss = 30 := by
  unfold findE
  rw [if_neg]
  intro h1
  have := List.all_eq_true.1 h1 s (List.mem_of_getElem? hx)
  rw [h] at this; cases this
theorem findE_lack {fs : Files} {ss : List ByteArray} {k : Nat} {s : ByteArray} (hok : ss.all okName = true) (hx : ss[k]? = some s) (h : mget fs s = none) : findE fs ss = 31 := by
  unfold findE
  rw [if_pos hok, if_neg]
  intro h1
  have := List.all_eq_true.1 h1 s (List.mem_of_getElem? hx)
  rw [h] at this; cases this
theorem map_snoc {fs : Files} {ss : List ByteArray} {gs : List FileG} {k : Nat} {s : ByteArray} {f : FileG} (h : (ss.take k).map (mget fs) = gs.map some) (hx : ss[k]? = some s) (hf : mget fs s = some f) :
    (ss.take (k + 1)).map (mget fs) = (gs ++ [f]).map some := by
  have hk : k < ss.length := (List.getElem?_eq_some_iff.1 hx).1
  have hxe : ss[k] = s := (List.getElem?_eq_some_iff.1 hx).2
  rw [List.take_succ_eq_append_getElem hk, List.map_append, h, List.map_append, hxe]
  simp [hf]
theorem findE_ok {fs : Files} {ss : List ByteArray} {gs : List FileG} (hok : ss.all okName = true) (h : ss.map (mget fs) = gs.map some) : findE fs ss = 0 := by
  unfold findE
  rw [if_pos hok, if_pos]
  refine List.all_eq_true.2 fun s hs => ?_
  have : mget fs s ∈ gs.map some := by rw [← h]; exact List.mem_map.2 ⟨s, hs, rfl⟩
  obtain ⟨g, _, hg⟩ := List.mem_map.1 this
  rw [← hg]; rfl
theorem own_of_ge {S : Nat → Prop} {w w' : World} {v : Value} (h : Step (Own v) w w') (hv : ∀ k, v.ownBlock = some k → S k) : Step S w w' := h.mono hv
set_option maxHeartbeats 1000000 in
theorem f34_any (mb : Nat) (fs : Files) (nv : Value) (ss : List ByteArray) (w : World) {F : Nat → Prop} (hn : Rd Rep.str w F nv ss) (h : TableAt w mb fs) (hsz : ss.length * 8 ≤ 140737488355328) :
    Calls Try.prog 34 #[.map (some mb), nv] w (FindPost fs ss w) := by
  have hm := hn.le
  obtain ⟨A, c, rfl, hc, _, _⟩ := hn.slice
  unfold maxLen at hm
  have HN := Hd.mk hn
  have HT := Hd.mk h
  clear h hn
  go_enter Try.func34, Try.ntmps34
  go_wp2
  go_loopg [14] ss.length (fun kq i wr => ∃ k : Nat, k ≤ ss.length ∧ i = .int .i64 k ∧ Hd (kq = ss.length - k) ∧ Hd ((ss.take k).all okName = true) ∧ Hd (Step No w wr))
  case atStart => exact ⟨0, Nat.zero_le _, rfl, ⟨rfl⟩, ⟨rfl⟩, ⟨Step.refl _ _⟩⟩
  case round =>
    obtain ⟨k, hk, rfl, HK, HA, HS⟩ := hrel
    by_cases hlt : k < ss.length
    · obtain ⟨ad, rfl, _, hcell, hok⟩ := Rd.at (HN.out.stepNo HS.out) hlt
      obtain ⟨x, hx⟩ : ∃ x, x = ss[k] := ⟨_, rfl⟩
      rw [← hx] at hcell hok
      have HX : Hd (ss[k]? = some x) := ⟨by rw [hx]; simp⟩
      have HO := Hd.mk hok
      clear hx hok
      cases hb : okName x with
      | true =>
        go_wp2_with (go_at_call 28; refine (f28_any _ _ HO.out).mono ?_; rw [hb]; rintro e w' ⟨rfl, hs⟩; refine Stop.back ?_)
        have HS2 : Hd (Step No w w') := ⟨HS.out.trans' hs⟩
        clear hs
        refine Stop.go ?_
        go_wp2
        go_roundg (ss.length - (k + 1))
        case measure => have := HK.out; omega
        case rel => exact ⟨k + 1, by omega, by go_num, ⟨rfl⟩, ⟨all_snoc HX.out HA.out hb⟩, HS2⟩
      | false =>
        go_wp2_with (go_at_call 28; refine (f28_any _ _ HO.out).mono ?_; rw [hb]; rintro e w' ⟨rfl, hs⟩; refine Stop.back ?_)
        have HS2 : Hd (Step No w w') := ⟨HS.out.trans' hs⟩
        have he : findE fs ss = 30 := findE_bad HX.out hb
        have HE := Hd.mk he
        clear hs he
        refine Stop.go ?_
        go_wp2
        go_ret2
        exact ⟨HS2.out, .inl ⟨by rw [HE.out]; decide, by rw [HE.out]; rfl⟩⟩
    · obtain rfl : k = ss.length := by omega
      have HA2 : Hd (ss.all okName = true) := ⟨by have := HA.out; rwa [List.take_length] at this⟩
      obtain ⟨wo, rfl⟩ : ∃ wo : World, wo = wr := ⟨_, rfl⟩
      go_wp2
      go_loopg [8, 24] ss.length (fun kq o i wr => ∃ (k : Nat) (gs : List FileG), k ≤ ss.length ∧ i = .int .i64 k ∧ Hd (gs.length = k) ∧ Hd (kq = ss.length - k) ∧ Hd ((ss.take k).map (mget fs) = gs.map some) ∧ Hd (RowAt wr 67 1 o gs.length (gs.map FileG.ptr)) ∧ Hd (Fresh w o) ∧ Hd (Step No w wr))
      case atStart => exact ⟨0, [], Nat.zero_le _, rfl, ⟨rfl⟩, ⟨rfl⟩, ⟨rfl⟩, ⟨RowAt.nil _ _ _⟩, ⟨Fresh.nil _⟩, HS⟩
      case round =>
        obtain ⟨k, gs, hk, rfl, HL, HK2, HM, HO, HFr, HS2⟩ := hrel
        by_cases hlt : k < ss.length
        · obtain ⟨ad, rfl, _, hcell, hok⟩ := Rd.at (HN.out.stepNo HS2.out) hlt
          obtain ⟨x, hx⟩ : ∃ x, x = ss[k] := ⟨_, rfl⟩
          rw [← hx] at hcell hok
          have HX : Hd (ss[k]? = some x) := ⟨by rw [hx]; simp⟩
          have HO2 := Hd.mk hok
          clear hx hok
          have HT2 := Hd.mk (HT.out.step HS2.out (fun _ _ h => h)).map
          cases hf : mget fs x with
          | none =>
            have HF := Hd.mk hf
            have he : findE fs ss = 31 := findE_lack HA2.out HX.out hf
            have HE := Hd.mk he
            clear hf he
            go_wp2_with (at_lookup; refine wp_look_none rfl _ _ 55 67 rfl Try.underlying55 law9 str_inj rfl x rfl HT2.out (keyV9 HO2.out) _ (zero67 _) HF.out ?_)
            go_ret2
            exact ⟨HS2.out, .inl ⟨by rw [HE.out]; decide, by rw [HE.out]; rfl⟩⟩
          | some f =>
            have HF := Hd.mk hf
            clear hf
            go_wp2_with (first | (at_lookup; refine wp_look_some rfl _ _ 55 67 rfl Try.underlying55 law9 str_inj rfl x rfl HT2.out (keyV9 HO2.out) _ (zero67 _) f HF.out ?_; unfold FileG.ptr) | (at_builtin; refine Stop.back ?_))
            refine Stop.go (wp_append1 rfl _ _ 73 67 rfl (.pointer none) 1 8 Try.underlying73 info67 rfl (by decide) _ _ _ rfl HO.out rfl rfl (by simp [Value.oneCell']) (by have := HL.out; omega) (by decide) ?_)
            intro v' w' k1 k2 k3 k4
            have HFr2 : Hd (Fresh w v') := ⟨fun k hk => by
              rcases k4 k hk with h | h
              · exact HFr.out k h
              · exact Nat.le_trans HS2.out.size h⟩
            have HO3 : Hd (RowAt w' 67 1 v' (gs.length + 1) ((gs ++ [f]).map FileG.ptr)) := ⟨by simpa [FileG.ptr] using k1⟩
            have HS3 : Hd (Step No w w') := ⟨HS2.out.trans k2 (fun i hi hlt => by have := HFr.out i hi; omega)⟩
            clear k1 k2 k3 k4
            refine Stop.go ?_
            go_wp2
            go_roundg (ss.length - (k + 1))
            case measure => have := HK2.out; omega
            case rel => exact ⟨k + 1, gs ++ [f], by omega, by go_num, ⟨by have := HL.out; simp [this]⟩, ⟨rfl⟩, ⟨map_snoc HM.out HX.out HF.out⟩, ⟨by have := HO3.out; simpa using this⟩, HFr2, HS3⟩
        · obtain rfl : k = ss.length := by omega
          have hm : ss.map (mget fs) = gs.map some := by have := HM.out; rwa [List.take_length] at this
          have hE : findE fs ss = 0 := findE_ok HA2.out hm
          have HE := Hd.mk hE
          have HM2 := Hd.mk hm
          clear hm hE
          go_wp2
          go_ret2
          exact ⟨HS2.out, .inr ⟨HE.out, _, gs, rfl, HM2.out, HO.out, HFr.out⟩⟩
end Go.Proofs.Ytmflfimenacflaa

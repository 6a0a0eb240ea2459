
/-
  Frames one behind the other: how the program reads them.
-/
import Derived.Test.YtmmgnbdngpkfcaaFrameReadsWalk
import Derived.Test.YtmmgnbdngpkfcaaFrameOpen
import Derived.Test.YtmmgnbdngpkfcaaFrameScan
namespace Go.Proofs.Ytmmgnbdngpkfcaa
open Go.RowKit
set_option linter.unusedVariables false

/-- a slice of frames: the table's row -/
theorem ti_frames : ElemInfo Try.prog 176 150 EFrame.sz 32 := ElemInfo.mk' (z := .agg #[.int .i64 0, .slice none 0 0]) Try.underlying176 (by kernel_rfl) rfl (by decide)

theorem frame_mk {ok : Nat → Prop} {w : World} {k : Int} {a : Option Addr} {c : Nat} {d : List (BitVec 8)} (hk : -9223372036854775808 ≤ k ∧ k ≤ 9223372036854775807) (hc : d.length ≤ c) (hm : c ≤ maxLen) (hs : Sl EU8 ok w a d) :
    EFrame.rep ok w [.int .i64 k, .slice a d.length c] (k, d) :=
  ⟨[.int .i64 k], [.slice a d.length c], rfl, ⟨rfl, hk.1, hk.2⟩, a, c, rfl, hc, hm, hs⟩

abbrev OwnF (B : Nat) (w : World) (v : Value) (fs : List (Int × List (BitVec 8))) : Prop := Own EFrame 150 B w v fs

set_option maxHeartbeats 3200000 in
theorem frame_Scan (B : Nat) (a : Option Addr) (n c : Nat) (l : List (BitVec 8)) (w : World) (hB : w.heap.size = B) (hr : RB w a n l) (hnc : n ≤ c) (hcm : c ≤ maxLen) (hl : n ≤ 1099511627776) :
    Calls Try.prog 115 #[.slice a n c] w fun e w' => ∃ v, e = .returned (.tuple #[v, .int .i64 (Frm.scan l).upto, .int .i64 (Frm.scan l).err]) ∧ OwnF B w' v (Frm.scan l).fs ∧ Below B w w' := by
  obtain ⟨rfl, hs⟩ := hr
  obtain ⟨sc, hsc⟩ : ∃ s, s = Frm.scan l := ⟨_, rfl⟩
  rw [← hsc]
  subst hB
  have Hsc := Lib.hid hsc
  clear hsc
  go_enter Try.func115, Try.ntmps115
  go_wp2
  go_loopw [5, 6] (fun v i wr => ∃ (k : Nat) (out : List (Int × List (BitVec 8))), k ≤ l.length ∧ i = .int .i64 k ∧ OwnF w.heap.size wr v out ∧ 12 * out.length ≤ k ∧ sc = ⟨out ++ (Frm.scan (l.drop k)).fs, k + (Frm.scan (l.drop k)).upto, (Frm.scan (l.drop k)).err⟩ ∧ Below w.heap.size w wr) (fun _ i _ => l.length - (intOf i).toNat)
  case atStart => exact ⟨0, [], Nat.zero_le _, rfl, Own.nil _ _ _ _, Nat.le_refl _, by rw [Hsc.out]; simp, Below.refl _ _⟩
  case round =>
    obtain ⟨k, out, hk, rfl, ho, hol, hinv, hb⟩ := hrel
    have Hinv := Lib.hid hinv
    clear hinv
    by_cases hlt : k < l.length
    · have hsr : SB wr a l := hs.below (by decide) hb
      obtain ⟨a1, hrun, r1⟩ := slice_l ti_bytes (c := c) (i := k) ⟨rfl, hsr⟩ (by omega) hnc
      have hki : (k : Int) ≤ (l.length : Int) := by omega
      go_wp2_with fail
      refine (frame_Decode wr.heap.size _ _ _ (l.drop k) _ (by rfl) r1 (by omega) (by omega)).mono ?_
      rintro e w3 ⟨a3, c3, rfl, hs3, hc3, hm3, hb3⟩
      obtain ⟨g, hg⟩ : ∃ g, g = Frm.dec (l.drop k) := ⟨_, rfl⟩
      have Hg := Lib.hid hg
      rw [← hg] at hs3 hc3 ⊢
      clear hg
      obtain ⟨kd, dt, nn, er⟩ := g
      dsimp only at hs3 hc3 ⊢
      obtain ⟨w4, hw4⟩ : ∃ x, x = w3.alloc (.cells #[.int .i64 kd, .slice a3 dt.length c3] 150) := ⟨_, rfl⟩
      have hf4 : FrAt wr.heap.size w4 w3.heap.size kd dt := by subst hw4; exact frAt_first hb3.size hs3 hc3 hm3
      have hb4 : Below wr.heap.size wr w4 := by subst hw4; exact hb3.alloc hb3.size _
      have hbw4 := hb.trans (hb4.mono hb.size)
      go_upto_region 5 with fail
      rw [← hw4]
      clear hw4
      by_cases he : er = 0
      · subst he
        obtain ⟨a4, c4, p1, p2, p3, p4, p5, p6⟩ := hf4.at
        have hs4 : Sl EU8 (fun b => wr.heap.size ≤ b) w4 a4 dt := by
          obtain ⟨_, a', c', hh, hs', _⟩ := hf4
          have e1 : w4.cell? ⟨w3.heap.size, 1, none⟩ = some (.slice a' dt.length c') := by simp [World.cell?, hh]
          rw [p2] at e1
          simp only [Option.some.injEq, Value.slice.injEq, true_and] at e1
          rw [e1.1]; exact hs'
        have hfine := Frm.dec_fine (l.drop k) (by rw [← Hg.out])
        rw [← Hg.out] at hfine
        simp only [List.length_drop] at hfine
        obtain ⟨f1, f2, f3, f4, f5, f6⟩ := hfine
        have ho4 := ho.below hb4
        clear f6 p3
        obtain ⟨w5, hw5⟩ : ∃ x, x = w4.alloc (.cells #[.int .i64 kd, .slice a4 dt.length c4] 150) := ⟨_, rfl⟩
        have hb5 : Below w4.heap.size w4 w5 := by subst hw5; exact (Below.refl _ _).alloc (Nat.le_refl _) _
        have hh5 : w5.heap[w4.heap.size]? = some (.cells #[.int .i64 kd, .slice a4 dt.length c4] 150 (0, 0)) := by subst hw5; exact heap_alloc_new w4 _
        have ho5 := ho4.below hb5
        have hsl : Sl EFrame (fun b => some b ≠ (u5).ownBlock) w5 (some ⟨w4.heap.size, 0, none⟩) [(kd, dt)] := by
          refine sl_one hh5 (frame_mk ⟨by omega, by omega⟩ p5 p6 ((hs4.below (by decide) hb5).mono (by decide) fun b hb' _ => ⟨rfl, ?_⟩)) ?_
          · intro e; have := (ho.lt _ e.symm).2; omega
          · intro e; have := (ho.lt _ e.symm).2; have := hb4.size; omega
        have hbw5 := hbw4.trans (hb5.mono hbw4.size)
        have hex : w5 = w4.alloc (.cells #[.int .i64 kd, .slice a4 dt.length c4] 150) := hw5
        go_wp2_with (first
          | (rw [← hex]
             refine wpList_app EFrame (l2 := [(kd, dt)]) rfl rfl (by rfl) (by rfl) ti_frames ho5 rfl hsl (by unfold maxLen; simp; omega) (by simp; omega) hbw5.size ?_
             intro v6 w6 ho6 hg6 hv6 hb6))
        refine ⟨⟨k + (12 + dt.length), out ++ [(kd, dt)], by omega, by go_num, ho6, by simp; omega, ?_, hbw5.trans hb6⟩, ?_⟩
        · have hst := Frm.scan_step (l := l) (out := out) (k := k) hlt (by rw [← Hsc.out]; exact Hinv.out) (by rw [← Hg.out])
          rw [← Hg.out, ← Hsc.out] at hst
          simp only [f4] at hst
          exact hst
        · simp [intOf]; omega
      · have hb1 := Frm.scan_bad (l := l.drop k) (by simp; omega) (by rw [← Hg.out]; exact he)
        rw [← Hg.out] at hb1
        have Hb1 := Lib.hid hb1
        have ho4 := ho.below hb4
        clear hb1 hf4
        go_wp2
        refine bodyPost_ret (v := .tuple #[u5, .int .i64 k, .int .i64 er]) (by simp [results, Try.results115, go_sem]) rfl ?_
        rw [Hinv.out, Hb1.out]
        refine ⟨u5, by simp, by simpa using ho4, hbw4⟩
    · have hkl : k = l.length := by omega
      subst hkl
      have Hz := Lib.hid (show l.drop l.length = [] by simp)
      go_wp2
      refine bodyPost_ret (v := .tuple #[u5, .int .i64 l.length, .int .i64 0]) (by simp [results, Try.results115, go_sem]) rfl ?_
      rw [Hinv.out, Hz.out, Frm.scan_nil]
      exact ⟨u5, by simp, by simpa using ho, hb⟩

/-- a frame of a slice of frames -/
theorem sl_frame {ok : Nat → Prop} {w : World} {a : Option Addr} {fs : List (Int × List (BitVec 8))} (h : Sl EFrame ok w a fs) (k : Nat) (hk : k < fs.length) :
    ∃ b o a' c', a = some ⟨b, o, none⟩ ∧ w.cell? ⟨b, o + k * 2, none⟩ = some (.int .i64 fs[k].1) ∧ w.cell? ⟨b, o + k * 2 + 1, none⟩ = some (.slice a' fs[k].2.length c') ∧ fs[k].2.length ≤ c' ∧ c' ≤ maxLen ∧ Sl EU8 ok w a' fs[k].2 := by
  obtain ⟨b, o, rfl, _, cs, hr, hc⟩ := h k fs[k] (List.getElem?_eq_getElem hk)
  obtain ⟨a', c', rfl, h1, h2, h3⟩ := frame_rep hr
  refine ⟨b, o, a', c', rfl, ?_, ?_, h1, h2, h3⟩
  · simpa [EFrame, EPair, EInt, EBytes, ESlice] using hc 0 _ rfl
  · have := hc 1 _ rfl
    rw [Nat.add_assoc]; exact this

theorem frame_Encode (k : Int) (a : Option Addr) (n c : Nat) (d : List (BitVec 8)) (w : World) (hr : RB w a n d) :
    Calls Try.prog 84 #[.agg #[.int .i64 k, .slice a n c]] w fun e w' => ∃ v, e = .returned (.tuple #[v, .int .i64 (Frm.fault (k, d))]) ∧ Own EU8 5 w.heap.size w' v (if Frm.fault (k, d) = 0 then Frm.enc k d else []) ∧ Below w.heap.size w w' := by
  obtain ⟨rfl, hs⟩ := hr
  by_cases h1 : k < 0 ∨ 255 < k
  · have e1 : Frm.fault (k, d) = 14 := by simp [Frm.fault, h1]
    rw [e1]
    exact (frame_Encode_kind k a _ c w h1).mono fun e w' ⟨he, hb⟩ => ⟨_, he, by simpa using Own.nil _ _ _ _, hb⟩
  · by_cases h2 : 65536 < d.length
    · have e1 : Frm.fault (k, d) = 3 := by simp [Frm.fault, h1, h2]
      rw [e1]
      exact (frame_Encode_long k a _ c w (by omega) h2).mono fun e w' ⟨he, hb⟩ => ⟨_, he, by simpa using Own.nil _ _ _ _, hb⟩
    · have e1 : Frm.fault (k, d) = 0 := by simp [Frm.fault, h1, h2]
      rw [e1]
      exact (frame_Encode_ok k a _ c d w (by omega) (by omega) ⟨rfl, hs⟩).mono fun e w' ⟨v, he, ho, hb⟩ => ⟨v, he, by simpa using ho, hb⟩

theorem reads_frames : Reads Try.prog 176 (ESlice EFrame (by decide)) (bulkL mFrame) :=
  reads_slice (by decide) Try.underlying176 (by kernel_rfl) reads_frame
end Go.Proofs.Ytmmgnbdngpkfcaa

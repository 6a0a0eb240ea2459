/-
  The walk of the law 'FrameJoins'.
-/
import Derived.Test.YtcmkkilhipnbcaaFrameAll
namespace Go.Proofs.Ytcmkkilhipnbcaa
open Go.RowKit
set_option linter.unusedVariables false

theorem scan_joined (fs gs : List (Int × List (BitVec 8))) (t : List (BitVec 8)) (hf : ∀ x ∈ fs ++ gs, Frm.Fine x) (ht : t.length ≤ 7) :
    Frm.scan (Frm.encs fs ++ Frm.encs gs ++ t) = ⟨fs ++ gs, (Frm.encs fs).length + (Frm.encs gs).length, if t.length = 0 then 0 else 10⟩ := by
  rw [← Frm.encs_app, Frm.scan_encs _ _ hf]
  by_cases h0 : t.length = 0
  · have : t = [] := List.eq_nil_of_length_eq_zero h0
    subst this
    simp [Frm.scan_nil, Frm.encs_app]
  · have hd : (Frm.dec t).err = 10 := by rw [Frm.dec_short (by omega)]; rfl
    rw [if_neg h0, Frm.scan_bad (by omega) (by rw [hd]; decide), hd]
    simp [Frm.encs_app]

theorem encs_bound (fs : List (Int × List (BitVec 8))) (n : Nat) (h : ∀ x ∈ fs, x.2.length ≤ n) : (Frm.encs fs).length ≤ fs.length * (12 + n) := by
  induction fs with
  | nil => simp [Frm.encs]
  | cons x fs ih =>
    have h1 := ih fun y hy => h y (by simp [hy])
    have h2 := h x (by simp)
    have h3 : (Frm.enc x.1 x.2).length = 12 + x.2.length := Frm.enc_len _ _
    rw [Frm.encs_cons, List.length_append, List.length_cons, Nat.add_mul]
    omega

/-- a frame's cells, after they are written: what they hold, and that bytes elsewhere stay -/
theorem laid_later {w w0 : World} {g : Nat} {u v p q : Value} {a : Option Addr} {d : List (BitVec 8)} (hg : w.heap[g]? = some (.cells #[u, v] 40 (0, 0))) (h0 : g = w0.heap.size) (hb : Below w0.heap.size w0 w) (hs : SB w0 a d) :
    ((w.setCell ⟨g, 0, none⟩ p).setCell ⟨g, 1, none⟩ q).cell? ⟨g, 0, none⟩ = some p ∧ ((w.setCell ⟨g, 0, none⟩ p).setCell ⟨g, 1, none⟩ q).cell? ⟨g, 1, none⟩ = some q ∧ SB ((w.setCell ⟨g, 0, none⟩ p).setCell ⟨g, 1, none⟩ q) a d ∧ Below w0.heap.size w0 ((w.setCell ⟨g, 0, none⟩ p).setCell ⟨g, 1, none⟩ q) := by
  have hh := heap_set (heap_set hg 0 p) 1 q
  have hB : Below w0.heap.size w0 ((w.setCell ⟨g, 0, none⟩ p).setCell ⟨g, 1, none⟩ q) := (hb.setCell (by simp; omega) _).setCell (by simp; omega) _
  exact ⟨by simp [World.cell?, hh], by simp [World.cell?, hh], hs.below (by decide) hB, hB⟩

set_option maxRecDepth 4096 in
set_option maxHeartbeats 6400000 in
theorem law_FrameJoins (a : Option Addr) (ca : Nat) (l : List (Int × List (BitVec 8))) (b : Option Addr) (cb : Nat) (m : List (Int × List (BitVec 8))) (t : Option Addr) (ct : Nat) (tl : List (BitVec 8)) (w : World)
    (ha : Sl EFrame (fun _ => True) w a l) (hca : l.length ≤ ca) (hma : ca ≤ maxLen) (hb : Sl EFrame (fun _ => True) w b m) (hcb : m.length ≤ cb) (hmb : cb ≤ maxLen) (ht : SB w t tl) (hct : tl.length ≤ ct) (hmt : ct ≤ maxLen) :
    Calls Try.prog 13 #[.slice a l.length ca, .slice b m.length cb, .slice t tl.length ct] w fun e w' => e = .returned (.bool true) ∧ Below w.heap.size w w' := by
  go_enter Try.func13, Try.ntmps13
  go_wp2_with fail
  refine (law4_head _).mono ?_
  rintro e w1 ⟨rfl, hb1⟩
  by_cases h8 : 8 < l.length
  · have h8' : decide (8 < (l.length : Int)) = true := by simp; omega
    go_wp2
    go_ret
    exact ⟨rfl, hb1⟩
  have h8' : decide (8 < (l.length : Int)) = false := by simp; omega
  by_cases h9 : 8 < m.length
  · have h9' : decide (8 < (m.length : Int)) = true := by simp; omega
    go_wp2
    go_ret
    exact ⟨rfl, hb1⟩
  have h9' : decide (8 < (m.length : Int)) = false := by simp; omega
  by_cases h7 : 7 < tl.length
  · have h7' : decide (7 < (tl.length : Int)) = true := by simp; omega
    go_wp2
    go_ret
    exact ⟨rfl, hb1⟩
  have h7' : decide (7 < (tl.length : Int)) = false := by simp; omega
  have ha1 := ha.below (by decide) hb1
  have hb1' := hb.below (by decide) hb1
  have ht1 := ht.below (by decide) hb1
  obtain ⟨w2, hw2⟩ : ∃ x, x = w1.alloc (.cells #[] 40) := ⟨_, rfl⟩
  have hb2 : Below w1.heap.size w1 w2 := by subst hw2; exact (Below.refl _ _).alloc (Nat.le_refl _) _
  have ho2 : OwnF w1.heap.size w2 (.slice (some ⟨w1.heap.size, 0, none⟩) 0 0) [] := by subst hw2; exact own_empty EFrame 40 w1 (by decide)
  have hbw2 := hb1.trans (hb2.mono hb1.size)
  obtain ⟨n, hn⟩ : ∃ n, n = l.length + m.length := ⟨_, rfl⟩
  have hn16 : n ≤ 16 := by omega
  have Hn := Lib.hid hn
  clear hn
  go_wp2_with (first
    | (rw [← hw2]
       refine wpList_app EFrame (l2 := l) rfl rfl (by rfl) (by rfl) ti_frames ho2 rfl (ha1.foreign (by decide) hb2 ho2 (Nat.le_refl _)) (by unfold maxLen; simp; omega) (by simp; omega) hb2.size ?_
       intro v3 w3 ho3 hg3 hv3 hb3
       have hb23 := hb2.trans hb3)
    | (refine wpList_app EFrame (l2 := m) rfl rfl (by rfl) (by rfl) ti_frames ho3 rfl (hb1'.foreign (by decide) hb23 ho3 (Nat.le_refl _)) (by unfold maxLen; simp; omega) (by simp; omega) hb23.size ?_
       intro v4 w4 ho4 hg4 hv4 hb4
       obtain ⟨a4, c4, rfl, hc4, hm4, hr4, ho4'⟩ := ho4.shape n (by have := Hn.out; simp; omega)
       have hb24 := hb23.trans hb4))
  rw [show [] ++ l ++ m = l ++ m by simp] at hr4
  have hbw4 := hb1.trans (hb24.mono hb1.size)
  have ha4 := ha1.below (by decide) hb24
  have hb4' := hb1'.below (by decide) hb24
  have ht4 := ht1.below (by decide) hb24
  have hln : (l ++ m).length = n := by rw [Hn.out]; simp
  obtain ⟨fs, hfs⟩ : ∃ fs, fs = l ++ m := ⟨_, rfl⟩
  rw [← hfs] at hr4 hln
  have Hfs := Lib.hid hfs
  clear hw2 ho2 ho3 ho4 ho4' hg3 hg4 hv3 hv4 hb2 hb3 hb23 hb4 hb24 ha1 hb1' ht1 ha hb ht hb1 hbw2 hfs
  go_loopw [40] (fun i wr => ∃ j : Nat, j ≤ n ∧ i = .int .i64 j ∧ (∀ x ∈ fs.take j, Frm.Fine x ∧ x.2.length ≤ 300) ∧ Below w4.heap.size w4 wr) (fun i _ => n - (intOf i).toNat)
  case atStart => exact ⟨0, Nat.zero_le _, rfl, fun x hx => by simp at hx, Below.refl _ _⟩
  case round =>
    obtain ⟨j, hj, rfl, hfine, hb⟩ := hrel
    have hbw := hbw4.trans (hb.mono hbw4.size)
    by_cases hlt : j < n
    · have hji : (j : Int) < (n : Int) := by omega
      have hsr : Sl EFrame (fun _ => True) wr a4 fs := hr4.2.below (by decide) hb
      obtain ⟨b5, o5, a5, c5, rfl, p1, p2, p3, p4, p5⟩ := sl_frame hsr j (by omega)
      obtain ⟨x, hx⟩ : ∃ x, x = fs[j] := ⟨_, rfl⟩
      rw [← hx] at p1 p2 p3 p5
      have Hx := Lib.hid hx
      clear hx
      obtain ⟨kd, d⟩ := x
      dsimp only at p1 p2 p3 p5
      have hba : Below wr.heap.size wr (wr.alloc (.cells #[.int .i64 kd, .slice a5 d.length c5] 40)) := (Below.refl _ _).alloc (Nat.le_refl _) _
      have hbwa := hbw.trans (hba.mono hbw.size)
      have Hfine := Lib.hid hfine
      clear hfine
      by_cases g1 : 300 < d.length
      · have g1' : decide (300 < (d.length : Int)) = true := by simp; omega
        go_wp2
        go_ret
        exact ⟨rfl, hbwa⟩
      have g1' : decide (300 < (d.length : Int)) = false := by simp; omega
      by_cases g2 : kd < 0
      · have g2' : decide (kd < 0) = true := by simpa using g2
        go_wp2
        go_ret
        exact ⟨rfl, hbwa⟩
      have g2' : decide (kd < 0) = false := by simpa using g2
      by_cases g3 : 255 < kd
      · have g3' : decide (255 < kd) = true := by simpa using g3
        go_wp2
        go_ret
        exact ⟨rfl, hbwa⟩
      have g3' : decide (255 < kd) = false := by simpa using g3
      go_wp2
      go_roundw
      case rel =>
        refine ⟨j + 1, by omega, by go_num, fun y hy => ?_, hb.trans (hba.mono hb.size)⟩
        rw [List.take_add_one, List.getElem?_eq_getElem (by omega), ← Hx.out] at hy
        rcases List.mem_append.1 hy with hy | hy
        · exact Hfine.out y hy
        · simp at hy; subst hy
          exact ⟨⟨⟨by omega, by omega⟩, by simp only; omega⟩, by simp only; omega⟩
      case measure => simp [intOf]; omega
    · obtain rfl : j = n := by omega
      rw [List.take_of_length_le (by omega)] at hfine
      obtain ⟨wq, hwq⟩ : ∃ x, x = wr := ⟨_, rfl⟩
      subst hwq
      have haq := ha4.below (by decide) hb
      have hbq := hb4'.below (by decide) hb
      have htq := ht4.below (by decide) hb
      have hrq := hr4.below (by decide) hb
      have hfa : Frm.faults l = 0 := Frm.faults_fine.2 fun x hx => (hfine x (by rw [Hfs.out]; simp [hx])).1
      have hfb : Frm.faults m = 0 := Frm.faults_fine.2 fun x hx => (hfine x (by rw [Hfs.out]; simp [hx])).1
      have hla : (Frm.encs l).length ≤ 8 * 312 := by
        have := encs_bound l 300 fun x hx => (hfine x (by rw [Hfs.out]; simp [hx])).2
        have : l.length * (12 + 300) ≤ 8 * 312 := Nat.mul_le_mul_right _ (by omega)
        omega
      have hlb : (Frm.encs m).length ≤ 8 * 312 := by
        have := encs_bound m 300 fun x hx => (hfine x (by rw [Hfs.out]; simp [hx])).2
        have : m.length * (12 + 300) ≤ 8 * 312 := Nat.mul_le_mul_right _ (by omega)
        omega
      have Hsc := Lib.hid (scan_joined l m tl (fun x hx => (hfine x (by rw [Hfs.out]; exact hx)).1) (by omega))
      clear hfine hb ha4 hb4' ht4 hr4 hbw4
      go_wp2_with fail
      refine (frame_All _ _ _ l _ ⟨rfl, haq⟩ (by omega) (by omega)).mono ?_
      rw [hfa, if_pos rfl]
      rintro e w5 ⟨v5, rfl, ho5, hb5⟩
      obtain ⟨a5, c5, rfl, hc5, hm5, hr5, ho5'⟩ := ho5.shape _ rfl
      have hbq5 := hbq.below (by decide) hb5
      go_wp2_with fail
      refine (frame_All _ _ _ m _ ⟨rfl, hbq5⟩ (by omega) (by omega)).mono ?_
      rw [hfb, if_pos rfl]
      rintro e w6 ⟨v6, rfl, ho6, hb6⟩
      obtain ⟨a6, c6, rfl, hc6, hm6, hr6, ho6'⟩ := ho6.shape _ rfl
      have hr56 := RB.below hr5 hb6
      have hbq6 := hb5.trans (hb6.mono hb5.size)
      have hbw6 := hbw.trans (hbq6.mono hbw.size)
      have ha6 := haq.below (by decide) hbq6
      have hb6' := hbq.below (by decide) hbq6
      have ht6 := htq.below (by decide) hbq6
      clear ho5 ho5' ho6 ho6' hr5 hb5 hb6 hbq5 haq hbq htq
      obtain ⟨ea, hea⟩ : ∃ x, x = Frm.encs l := ⟨_, rfl⟩
      obtain ⟨eb, heb⟩ : ∃ x, x = Frm.encs m := ⟨_, rfl⟩
      rw [← hea, ← heb] at Hsc
      rw [← hea] at hla hr56 hc5 ⊢
      rw [← heb] at hlb hr6 hc6 ⊢
      clear hea heb
      go_wp2_with fail
      refine (ref_Copy_at w6.heap.size _ _ _ ea _ (by rfl) hr56 (by omega)).mono ?_
      rintro e w7 ⟨v7, rfl, ho7, hb7⟩
      have hf6 := hr6.2.foreign (by decide) hb7 ho7 (Nat.le_refl _)
      go_wp2_with (first
        | (refine wpList_app EU8 (l2 := eb) rfl rfl (by rfl) (by rfl) ti_bytes ho7 rfl hf6 (by unfold maxLen; omega) (by omega) hb7.size ?_
           intro v8 w8 ho8 hg8 hv8 hb8
           have hb68 := hb7.trans hb8
           have hf8 := ht6.foreign (by decide) hb68 ho8 (Nat.le_refl _))
        | (refine wpList_app EU8 (l2 := tl) rfl rfl (by rfl) (by rfl) ti_bytes ho8 rfl hf8 (by unfold maxLen; simp; omega) (by simp; omega) hb68.size ?_
           intro v9 w9 ho9 hg9 hv9 hb9
           obtain ⟨a9, c9, rfl, hc9, hm9, hr9, ho9'⟩ := ho9.shape (ea.length + eb.length + tl.length) (by simp; omega)
           have hb69 := hb68.trans hb9))
      have ha9 := ha6.below (by decide) hb69
      have hb9' := hb6'.below (by decide) hb69
      have hbw9 := hbw6.trans (hb69.mono hbw6.size)
      clear ho7 ho8 ho9 ho9' hg8 hg9 hv8 hv9 hb7 hb8 hb9 hb68 hb69 hf6 hf8 ha6 hb6' ht6 hr6 hr56 hbw6 hbw hbq6
      go_wp2_with fail
      refine (frame_Scan w9.heap.size _ _ _ _ _ (by rfl) hr9 hc9 hm9 (by omega)).mono ?_
      rw [Hsc.out]
      rintro e w10 ⟨v10, rfl, ho10, hb10⟩
      dsimp only at ho10 ⊢
      rw [← Hfs.out] at ho10
      obtain ⟨a10, c10, rfl, hc10, hm10, hr10, ho10'⟩ := ho10.shape j hln.symm
      have ha10 := ha9.below (by decide) hb10
      have hb10' := hb9'.below (by decide) hb10
      have hbw10 := hbw9.trans (hb10.mono hbw9.size)
      have hjj : ((l.length : Int) + (m.length : Int)) = (j : Int) := by have := Hn.out; omega
      have hee : ((ea.length : Int) + (eb.length : Int)) = ((ea.length + eb.length : Nat) : Int) := by simp
      obtain ⟨en, hen⟩ : ∃ en, en = ea.length + eb.length := ⟨_, rfl⟩
      rw [← hen] at hee ⊢
      have Hen := Lib.hid hen
      clear ho10 ho10' ha9 hb9' hr9 hb10 hen hbw9
      obtain ⟨er, her⟩ : ∃ er : Int, er = if tl.length = 0 then 0 else 10 := ⟨_, rfl⟩
      rw [← her]
      have Her := Lib.hid her
      clear her
      go_upto_region 17 with fail
      go_cut [120] (fun s wx => s = .bool false ∧ wx = w10)
      case first =>
        by_cases ht0 : tl.length = 0
        · have hb0 : ((tl.length : Int) == 0) = true := by simp; exact List.eq_nil_of_length_eq_zero ht0
          have hb1 : ¬ (0 < (tl.length : Int)) := by omega
          obtain rfl : er = 0 := by rw [Her.out, if_pos ht0]
          clear ht0
          go_wp2_with fail
          go_meet
          exact ⟨rfl, rfl⟩
        · have hb0 : ((tl.length : Int) == 0) = false := by simp; intro h; exact ht0 (by rw [h]; rfl)
          have hb1 : 0 < (tl.length : Int) := by omega
          have hb2 : 0 < tl.length := by omega
          obtain rfl : er = 10 := by rw [Her.out, if_neg ht0]
          clear ht0
          go_wp2_with fail
          go_meet
          exact ⟨rfl, rfl⟩
      obtain ⟨hs120, hwc⟩ := hcut
      subst hs120
      obtain ⟨wy, hwy⟩ : ∃ x, x = wc := ⟨_, rfl⟩
      subst hwy
      rw [hwc]
      clear hwc
      obtain ⟨wv, hwv⟩ : ∃ x, x = w10 := ⟨_, rfl⟩
      subst hwv
      go_wp2_with fail
      go_loopw [123] (fun i wz => ∃ k : Nat, k ≤ j ∧ i = .int .i64 k ∧ Below wv.heap.size wv wz) (fun i _ => j - (intOf i).toNat)
      case atStart => exact ⟨0, Nat.zero_le _, rfl, Below.refl _ _⟩
      case round =>
        obtain ⟨k, hk, rfl, hbz⟩ := hrel
        obtain ⟨wz, hwz⟩ : ∃ x, x = wr := ⟨_, rfl⟩
        subst hwz
        have hbwz := hbw10.trans (hbz.mono hbw10.size)
        by_cases hklt : k < j
        · have hki : (k : Int) < (j : Int) := by omega
          have har := ha10.below (by decide) hbz
          have hbr := hb10'.below (by decide) hbz
          have hr10z : Sl EFrame (fun _ => True) wz a10 fs := hr10.2.below (by decide) hbz
          obtain ⟨b3, o3, x3, y3, rfl, p1, p2, p3, p4, p5⟩ := sl_frame hr10z k (by omega)
          obtain ⟨x, hx⟩ : ∃ x, x = fs[k] := ⟨_, rfl⟩
          rw [← hx] at p1 p2 p3 p5
          have hx2 := hx
          simp only [Hfs.out] at hx2
          obtain ⟨w11, hw11⟩ : ∃ x, x = wz.alloc (.cells #[.int .i64 0, .slice none 0 0] 40) := ⟨_, rfl⟩
          have hb11 : Below wz.heap.size wz w11 := by subst hw11; exact (Below.refl _ _).alloc (Nat.le_refl _) _
          have hh11 : w11.heap[wz.heap.size]? = some (.cells #[.int .i64 0, .slice none 0 0] 40 (0, 0)) := by subst hw11; exact heap_alloc_new wz _
          obtain ⟨kd, dt⟩ := x
          dsimp only at p1 p2 p3 p5
          have Hx2 := Lib.hid hx2
          clear hx hx2
          go_upto_region 23 with fail
          rw [← hw11]
          clear hw11
          go_upto_if 130 with fail
          go_cut [18] (fun s wx => s = .pointer (some ⟨wz.heap.size, 0, none⟩) ∧ ∃ a' c', wx.cell? ⟨wz.heap.size, 0, none⟩ = some (.int .i64 kd) ∧ wx.cell? ⟨wz.heap.size, 1, none⟩ = some (.slice a' dt.length c') ∧ SB wx a' dt ∧ Below wz.heap.size wz wx)
          case first =>
            have z0 : w11.cell? ⟨wz.heap.size, 0, none⟩ = some (.int .i64 0) := by simp [World.cell?, hh11]
            have z1 : w11.cell? ⟨wz.heap.size, 1, none⟩ = some (.slice none 0 0) := by simp [World.cell?, hh11]
            have zf : ∀ o, w11.frozen? ⟨wz.heap.size, o, none⟩ = false := fun o => by simp [World.frozen?, hh11]
            by_cases hkl : k < l.length
            · have hkli : (k : Int) < (l.length : Int) := by omega
              obtain ⟨b6, o6, x6, y6, rfl, q1, q2, q3, q4, q5⟩ := sl_frame har k hkl
              have e : l[k] = (kd, dt) := by rw [Hx2.out, List.getElem_append_left hkl]
              rw [e] at q1 q2 q3 q5
              dsimp only at q1 q2 q3 q5
              have r1 := cell_thru q1 hb11
              have r2 := cell_thru q2 hb11
              have r5 := q5.below (by decide) hb11
              clear e
              go_wp2_with fail
              go_meet
              exact ⟨rfl, x6, y6, laid_later hh11 rfl hb11 q5⟩
            · have hkli : ¬ ((k : Int) < (l.length : Int)) := by omega
              obtain ⟨kk, hkk⟩ : ∃ kk : Nat, k = l.length + kk := ⟨k - l.length, by omega⟩
              have hkm : kk < m.length := by have := Hn.out; omega
              obtain ⟨b6, o6, x6, y6, rfl, q1, q2, q3, q4, q5⟩ := sl_frame hbr kk hkm
              have e : m[kk] = (kd, dt) := by
                rw [Hx2.out, List.getElem_append_right (by omega)]
                congr 1; omega
              rw [e] at q1 q2 q3 q5
              dsimp only at q1 q2 q3 q5
              have r1 := cell_thru q1 hb11
              have r2 := cell_thru q2 hb11
              have hsub : (k : Int) - (l.length : Int) = (kk : Int) := by omega
              have hkmi : (kk : Int) < (m.length : Int) := by omega
              clear e hkk
              go_wp2_with fail
              go_meet
              exact ⟨rfl, x6, y6, laid_later hh11 rfl hb11 q5⟩
          obtain ⟨rfl, a7, c7, f0, f1, f2, hbc⟩ := hcut
          obtain ⟨wf, hwf⟩ : ∃ x, x = wc := ⟨_, rfl⟩
          subst hwf
          have p1' := cell_thru p1 hbc
          have p2' := cell_thru p2 hbc
          have p5' := p5.below (by decide) hbc
          have hbwf := hbz.trans (hbc.mono hbz.size)
          have hw13 : wz.heap.size < wf.heap.size := by have := cell_lt f0; omega
          clear p1 p2 hh11 hb11 hbc
          go_upto_region 26 with fail
          go_cut [148] (fun s wx => s = .bool false ∧ Below wf.heap.size wf wx)
          case first =>
            go_region_held3 (fun W => W.cell? ⟨b3, o3 + k * 2, none⟩ = some (.int .i64 kd) ∧ W.cell? ⟨b3, o3 + k * 2 + 1, none⟩ = some (.slice x3 dt.length y3) ∧ W.cell? ⟨wz.heap.size, 0, none⟩ = some (.int .i64 kd) ∧ W.cell? ⟨wz.heap.size, 1, none⟩ = some (.slice a7 dt.length c7))
              (first | go_keep | exact ⟨cell_thru p1' ((Below.refl wf.heap.size wf).drew.trans hb8), cell_thru p2' ((Below.refl wf.heap.size wf).drew.trans hb8), cell_thru f0 ((Below.refl wf.heap.size wf).drew.trans hb8), cell_thru f1 ((Below.refl wf.heap.size wf).drew.trans hb8)⟩)
              ((first
                | (go_at_call 27; refine (law4_same kd _ _ _ dt kd _ _ _ dt _ ⟨rfl, (by exact p5'.below (by decide) (Below.refl wf.heap.size wf).drew)⟩ ⟨rfl, (by exact f2.below (by decide) (Below.refl wf.heap.size wf).drew)⟩).mono ?_; rintro e w8 ⟨rfl, hb8⟩; rw [show (kd == kd && dt == dt) = true by simp])))
            all_goals (go_wp2_with fail; go_meet; exact ⟨rfl, (Below.refl wf.heap.size wf).drew.trans hb8⟩)
          obtain ⟨rfl, hb9⟩ := hcut
          go_wp2
          go_roundw
          case rel => exact ⟨k + 1, by omega, by go_num, hbwf.trans (hb9.mono hbwf.size)⟩
          case measure => simp [intOf]; omega
        · obtain rfl : k = j := by omega
          go_wp2
          go_ret
          exact ⟨rfl, hbwz⟩
end Go.Proofs.Ytcmkkilhipnbcaa

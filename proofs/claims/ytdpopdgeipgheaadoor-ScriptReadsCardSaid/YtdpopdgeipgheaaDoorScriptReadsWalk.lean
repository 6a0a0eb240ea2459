
/-
  The walk of the law 'ScriptReads'.
-/
import Derived.Test.YtdpopdgeipgheaaDoorScrEq
import Derived.Deep.RegionHeld3
namespace Go.Proofs.YtdpopdgeipgheaaDoor
open Go.RowKit
set_option linter.unusedVariables false

theorem scr_S32 {W : World} {M N t t' : Nat} {fr fr' : Nat × Nat} {c : Sc.Conf} (h : W.heap[M]? = some (.cells (confCells c) t fr)) (h' : W.heap[N]? = some (.cells (rcells c) t' fr')) :
    W.cell? ⟨M, 0, none⟩ = some (.int .i64 (Sc.cf c 0)) ∧ W.cell? ⟨M, 1, none⟩ = some (.int .i64 (Sc.cf c 1)) ∧ W.cell? ⟨M, 2, none⟩ = some (.int .i64 (Sc.cf c 2)) ∧ W.cell? ⟨M, 3, none⟩ = some (.int .i64 (Sc.cf c 3)) ∧ W.cell? ⟨M, 4, none⟩ = some (.int .i64 (Sc.cf c 4)) ∧ W.cell? ⟨M, 5, none⟩ = some (.int .i64 (Sc.cf c 5)) ∧ W.cell? ⟨M, 6, none⟩ = some (.int .i64 (Sc.cf c 6)) ∧ W.cell? ⟨M, 7, none⟩ = some (.int .i64 (Sc.cf c 7)) ∧ W.cell? ⟨M, 8, none⟩ = some (.int .i64 (Sc.cf c 8)) ∧ W.cell? ⟨M, 9, none⟩ = some (.int .u64 (bv c.2)) ∧ W.cell? ⟨M, 10, none⟩ = some (.int .i64 (Sc.cf c 9)) ∧ W.cell? ⟨M, 11, none⟩ = some (.int .i64 (Sc.cf c 10)) ∧ W.cell? ⟨M, 12, none⟩ = some (.int .i64 (Sc.cf c 11)) ∧ W.cell? ⟨M, 13, none⟩ = some (.int .i64 (Sc.cf c 12)) ∧ W.cell? ⟨M, 14, none⟩ = some (.int .i64 (Sc.cf c 13)) ∧ W.cell? ⟨M, 15, none⟩ = some (.int .i64 (Sc.cf c 14)) ∧ W.cell? ⟨N, 0, none⟩ = some (.int .i64 (Sc.cf c 0)) ∧ W.cell? ⟨N, 1, none⟩ = some (.int .i64 (Sc.cf c 1)) ∧ W.cell? ⟨N, 2, none⟩ = some (.int .i64 (Sc.cf c 2)) ∧ W.cell? ⟨N, 3, none⟩ = some (.int .i64 (Sc.cf c 3)) ∧ W.cell? ⟨N, 4, none⟩ = some (.int .i64 (Sc.cf c 4)) ∧ W.cell? ⟨N, 5, none⟩ = some (.int .i64 (Sc.cf c 5)) ∧ W.cell? ⟨N, 6, none⟩ = some (.int .i64 (Sc.cf c 6)) ∧ W.cell? ⟨N, 7, none⟩ = some (.int .i64 (Sc.cf c 7)) ∧ W.cell? ⟨N, 8, none⟩ = some (.int .i64 (Sc.cf c 8)) ∧ W.cell? ⟨N, 9, none⟩ = some (.int .i64 (Sc.cf c 9)) ∧ W.cell? ⟨N, 10, none⟩ = some (.int .i64 (Sc.cf c 10)) ∧ W.cell? ⟨N, 11, none⟩ = some (.int .i64 (Sc.cf c 11)) ∧ W.cell? ⟨N, 12, none⟩ = some (.int .i64 (Sc.cf c 12)) ∧ W.cell? ⟨N, 13, none⟩ = some (.int .i64 (Sc.cf c 13)) ∧ W.cell? ⟨N, 14, none⟩ = some (.int .i64 (Sc.cf c 14)) ∧ W.cell? ⟨N, 15, none⟩ = some (.int .u64 (bv c.2)) := by
  refine ⟨?_, ?_, ?_, ?_, ?_, ?_, ?_, ?_, ?_, ?_, ?_, ?_, ?_, ?_, ?_, ?_, ?_, ?_, ?_, ?_, ?_, ?_, ?_, ?_, ?_, ?_, ?_, ?_, ?_, ?_, ?_, ?_⟩
  all_goals first | (simp [World.cell?, h, confCells]; done) | (simp [World.cell?, h', rcells]; done)
theorem Sc.dec_len (b : Bts.Bytes) : (Sc.dec (Bts.bitsOf b)).2.1.length ≤ 20000 := by
  rcases Sc.dec_bad (Bts.bitsOf b) with h | ⟨_, h, _⟩
  · exact (Sc.dec_ok h).1.2.1
  · rw [h]; simp
theorem nums_lit (c : Sc.Conf) (W : World) : (Op.equalIn 9999 37 (.agg (ncells c)) (.agg (ncells c))).run Tryd.prog W = .ok true W := eq_nums c 9997 W

set_option maxRecDepth 100000 in
set_option maxHeartbeats 6400000 in
theorem law_ScriptReads (a : Option Addr) (c : Nat) (b : List (BitVec 8)) (w : World) (hbd : Bounds w) (hs : Sl EU8 (fun _ => True) w a b) (hc : b.length ≤ c) (hm : c ≤ maxLen) :
    Calls Tryd.prog 4 #[.slice a b.length c] w fun e w' => e = .returned (.bool true) ∧ Below w.heap.size w w' := by
  have hgB := hbd.lt
  have Hbd := Lib.hid hbd
  have Hs := Lib.hid hs
  have hmk := law14_head w hbd
  have Hhead := Lib.hid hmk
  clear hbd hs hmk
  go_enter Tryd.func4, Tryd.ntmps4
  go_wp2_with fail
  refine (Hhead.out).mono ?_
  rintro e w1 ⟨rfl, hb1⟩
  by_cases h3 : 1500 < b.length
  · have h3' : 1500 < (b.length : Int) := by omega
    clear h3
    go_wp2_with fail
    go_ret
    exact ⟨rfl, hb1⟩
  have h3' : ¬ (1500 < (b.length : Int)) := by omega
  go_wp2_with fail
  refine (ref_Copy a b.length c b _ ⟨rfl, Hs.out.below (by decide) hb1⟩ (by omega)).mono ?_
  rintro e w2 ⟨v2, rfl, ho2, hb2⟩
  have hbw2 := hb1.trans (hb2.mono hb1.size)
  obtain ⟨a2, c2, rfl, hc2, hm2, hr2, _⟩ := ho2.shape b.length rfl
  clear hb1 hb2 ho2
  have Hbw2 := Lib.hid hbw2
  have Hr2 := Lib.hid hr2
  clear hbw2 hr2
  go_wp2_with fail
  refine (script_Decode w2.heap.size a2 b.length c2 b _ (by rfl) Hr2.out hc2 hm2 (by omega) (Hbd.out.below Hbw2.out hgB)).mono ?_
  rintro e w3 ⟨aL, cL, rfl, l1, l2, l3, hb3⟩
  obtain ⟨R, hR⟩ : ∃ R, R = Sc.dec (Bts.bitsOf b) := ⟨_, rfl⟩
  rw [← hR] at l1 l3 ⊢
  obtain ⟨c1, L, er⟩ := R
  dsimp only at l1 l3 ⊢
  have HR := Lib.hid hR
  have hbw3 := Hbw2.out.trans (hb3.mono Hbw2.out.size)
  obtain ⟨M, hM⟩ : ∃ M, M = w3.heap.size := ⟨_, rfl⟩
  obtain ⟨w4, hw4⟩ : ∃ x, x = w3.alloc (.cells (confCells c1) 26) := ⟨_, rfl⟩
  have hb4 : Below w3.heap.size w3 w4 := by subst hw4; exact (Below.refl _ _).alloc (Nat.le_refl _) _
  have hh4 : w4.heap[M]? = some (.cells (confCells c1) 26 (0, 0)) := by subst hw4; subst hM; exact heap_alloc_new w3 _
  have hn4 : w4.heap.size = M + 1 := by subst hw4; subst hM; simp
  have hbw4 := hbw3.trans (hb4.mono hbw3.size)
  have Hr4 := Lib.hid ((Hr2.out.below (by decide) hb3).below (by decide) hb4)
  have L4 := Lib.hid (l3.below (by decide) hb4)
  have Hs4 := Lib.hid (show SB w4 a b from Hs.out.below (by decide) hbw4)
  have Hh4 := Lib.hid hh4
  have HM := Lib.hid hM
  have Hw4 := Lib.hid hw4
  have Hbw4 := Lib.hid hbw4
  clear hR hh4 hM hw4 hb3 hb4 hbw3 hbw4 l3
  unfold confCells
  go_upto_region 7 with fail
  have hex := Hw4.out.symm
  unfold confCells at hex
  rw [hex, ← HM.out]
  clear hex
  go_wp2_with fail
  refine (ref14_Decode w4.heap.size a b.length c b w4 (by rfl) ⟨rfl, Hs4.out⟩ (by omega)).mono ?_
  rintro e w5 ⟨aT, cT, rfl, t1, t2, t3, hb5⟩
  rw [← HR.out] at t1 t3 ⊢
  dsimp only at t1 t3 ⊢
  obtain ⟨N, hN⟩ : ∃ N, N = w5.heap.size := ⟨_, rfl⟩
  obtain ⟨w6, hw6⟩ : ∃ x, x = w5.alloc (.cells (rcells c1) 39) := ⟨_, rfl⟩
  have hb6 : Below w5.heap.size w5 w6 := by subst hw6; exact (Below.refl _ _).alloc (Nat.le_refl _) _
  have hh6 : w6.heap[N]? = some (.cells (rcells c1) 39 (0, 0)) := by subst hw6; subst hN; exact heap_alloc_new w5 _
  have hn6 : w6.heap.size = N + 1 := by subst hw6; subst hN; simp
  have hMN : M + 1 ≤ N := by rw [hN]; have := hb5.size; omega
  have hh6M : w6.heap[M]? = some (.cells (confCells c1) 26 (0, 0)) := by rw [hb6.block M (by omega), hb5.block M (by omega)]; exact Hh4.out
  have hbw6 := (Hbw4.out.trans (hb5.mono Hbw4.out.size)).trans (hb6.mono (by have := Hbw4.out.size; omega))
  have Hr6 := Lib.hid ((Hr4.out.below (by decide) hb5).below (by decide) hb6)
  have L6 := Lib.hid ((L4.out.below (by decide) hb5).below (by decide) hb6)
  have T6 := Lib.hid (t3.below (by decide) hb6)
  have Hs6 := Lib.hid (show SB w6 a b from Hs.out.below (by decide) hbw6)
  have Hh6 := Lib.hid hh6
  have Hh6M := Lib.hid hh6M
  have HN := Lib.hid hN
  have Hw6 := Lib.hid hw6
  have Hbw6 := Lib.hid hbw6
  clear hh6 hh6M hN hw6 hb5 hb6 hbw6 t3 hn4
  unfold rcells
  go_upto_region 8 with fail
  have hex := Hw6.out.symm
  unfold rcells at hex
  rw [hex, ← HN.out]
  clear hex
  have hL1 : L.length ≤ 30000 := by
    have := Sc.dec_len b
    rw [← HR.out] at this
    exact Nat.le_trans this (by decide)
  have hee : (er == er) = true := by simp
  have hen := nums_lit c1
  unfold ncells at hen
  obtain ⟨G, hG⟩ : ∃ G, G = w6.heap.size := ⟨_, rfl⟩
  have HG := Lib.hid hG
  have hd6 : Below w6.heap.size w6 w6.drew := (Below.refl _ _).drew
  have Hconf := Lib.hid (law14_conf c1)
  have Hlist := Lib.hid (fun (wx : World) (h : Below w6.heap.size w6 wx) => law14_list wx.heap.size aL cL L wx rfl ((L6.out.any (by decide)).below (by decide) h) l1 hL1)
  have Hsame := Lib.hid (fun (wx : World) (ax : Option Addr) (cx : Nat) (h : Below w6.heap.size w6 wx) (h1 : Sl EStp (fun _ => True) wx ax L) (h2 : L.length ≤ cx) (h3 : cx ≤ maxLen) => ref14_Same ax aT cx cT L L wx h1 ((T6.out.any (by decide)).below (by decide) h) h2 t1 h3)
  have Hbyte := Lib.hid (fun (wx : World) (h : Below w6.heap.size w6 wx) => ref_Same a2 a b.length b.length c2 c b b wx (Hr6.out.below (by decide) h) ⟨rfl, Hs6.out.below (by decide) h⟩)
  have blk : ∀ wx, Below w6.heap.size w6 wx → wx.heap[M]? = some (.cells (confCells c1) 26 (0, 0)) ∧ wx.heap[N]? = some (.cells (rcells c1) 39 (0, 0)) := fun wx h =>
    ⟨by rw [h.block M (by omega)]; exact Hh6M.out, by rw [h.block N (by omega)]; exact Hh6.out⟩
  have Hblk := Lib.hid blk
  clear blk hG hd6 h3 h3' hn6 hMN
  go_region_held3 (fun W => W.cell? ⟨M, 0, none⟩ = some (.int .i64 (Sc.cf c1 0)) ∧ W.cell? ⟨M, 1, none⟩ = some (.int .i64 (Sc.cf c1 1)) ∧ W.cell? ⟨M, 2, none⟩ = some (.int .i64 (Sc.cf c1 2)) ∧ W.cell? ⟨M, 3, none⟩ = some (.int .i64 (Sc.cf c1 3)) ∧ W.cell? ⟨M, 4, none⟩ = some (.int .i64 (Sc.cf c1 4)) ∧ W.cell? ⟨M, 5, none⟩ = some (.int .i64 (Sc.cf c1 5)) ∧ W.cell? ⟨M, 6, none⟩ = some (.int .i64 (Sc.cf c1 6)) ∧ W.cell? ⟨M, 7, none⟩ = some (.int .i64 (Sc.cf c1 7)) ∧ W.cell? ⟨M, 8, none⟩ = some (.int .i64 (Sc.cf c1 8)) ∧ W.cell? ⟨M, 9, none⟩ = some (.int .u64 (bv c1.2)) ∧ W.cell? ⟨M, 10, none⟩ = some (.int .i64 (Sc.cf c1 9)) ∧ W.cell? ⟨M, 11, none⟩ = some (.int .i64 (Sc.cf c1 10)) ∧ W.cell? ⟨M, 12, none⟩ = some (.int .i64 (Sc.cf c1 11)) ∧ W.cell? ⟨M, 13, none⟩ = some (.int .i64 (Sc.cf c1 12)) ∧ W.cell? ⟨M, 14, none⟩ = some (.int .i64 (Sc.cf c1 13)) ∧ W.cell? ⟨M, 15, none⟩ = some (.int .i64 (Sc.cf c1 14)) ∧ W.cell? ⟨N, 0, none⟩ = some (.int .i64 (Sc.cf c1 0)) ∧ W.cell? ⟨N, 1, none⟩ = some (.int .i64 (Sc.cf c1 1)) ∧ W.cell? ⟨N, 2, none⟩ = some (.int .i64 (Sc.cf c1 2)) ∧ W.cell? ⟨N, 3, none⟩ = some (.int .i64 (Sc.cf c1 3)) ∧ W.cell? ⟨N, 4, none⟩ = some (.int .i64 (Sc.cf c1 4)) ∧ W.cell? ⟨N, 5, none⟩ = some (.int .i64 (Sc.cf c1 5)) ∧ W.cell? ⟨N, 6, none⟩ = some (.int .i64 (Sc.cf c1 6)) ∧ W.cell? ⟨N, 7, none⟩ = some (.int .i64 (Sc.cf c1 7)) ∧ W.cell? ⟨N, 8, none⟩ = some (.int .i64 (Sc.cf c1 8)) ∧ W.cell? ⟨N, 9, none⟩ = some (.int .i64 (Sc.cf c1 9)) ∧ W.cell? ⟨N, 10, none⟩ = some (.int .i64 (Sc.cf c1 10)) ∧ W.cell? ⟨N, 11, none⟩ = some (.int .i64 (Sc.cf c1 11)) ∧ W.cell? ⟨N, 12, none⟩ = some (.int .i64 (Sc.cf c1 12)) ∧ W.cell? ⟨N, 13, none⟩ = some (.int .i64 (Sc.cf c1 13)) ∧ W.cell? ⟨N, 14, none⟩ = some (.int .i64 (Sc.cf c1 14)) ∧ W.cell? ⟨N, 15, none⟩ = some (.int .u64 (bv c1.2)))
    (first | exact scr_S32 (Hblk.out _ hbz).1 (Hblk.out _ hbz).2 | exact scr_S32 (Hblk.out _ hbl).1 (Hblk.out _ hbl).2 | exact scr_S32 (Hblk.out _ hbn).1 (Hblk.out _ hbn).2 | exact scr_S32 (Hblk.out _ ((Below.refl _ _).drew)).1 (Hblk.out _ ((Below.refl _ _).drew)).2)
    (first
      | (go_at_call 14; refine (Hbyte.out _ hbz).mono ?_; rintro e wy ⟨rfl, rfl⟩)
      | (go_at_call 18; refine (Hsame.out _ _ _ hbl s3 s1 s2).mono ?_; rintro e wz ⟨rfl, hbz0⟩; have hbz : Below w6.heap.size w6 wz := hbl.trans (hbz0.mono hbl.size))
      | (go_at_call 13; refine (Hlist.out _ hbn).mono ?_; rintro e wl ⟨ax, cx, rfl, s1, s2, s3, hbl0⟩; have hbl : Below w6.heap.size w6 wl := hbn.trans (hbl0.mono hbn.size))
      | (go_at_call 12; refine (Hconf.out w6.drew).mono ?_; rintro e wn ⟨rfl, hbn0⟩; unfold rcells; have hbn : Below w6.heap.size w6 wn := ((Below.refl _ _).drew).trans hbn0))
  go_wp2_with fail
  go_ret
  exact ⟨by simp, Hbw6.out.trans (hbz.mono Hbw6.out.size)⟩
end Go.Proofs.YtdpopdgeipgheaaDoor


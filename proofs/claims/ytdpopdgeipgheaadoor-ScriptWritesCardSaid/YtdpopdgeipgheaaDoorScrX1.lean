
/-
  The walk of the law 'ScriptWrites'.
-/
import Derived.Test.YtdpopdgeipgheaaDoorScrU
import Derived.Deep.RegionHeld3
namespace Go.Proofs.YtdpopdgeipgheaaDoor
open Go.RowKit
set_option linter.unusedVariables false

theorem scw_S16 {W : World} {M t : Nat} {fr : Nat × Nat} {c : Sc.Conf} (h : W.heap[M]? = some (.cells (confCells c) t fr)) :
    W.cell? ⟨M, 0, none⟩ = some (.int .i64 (Sc.cf c 0)) ∧ W.cell? ⟨M, 1, none⟩ = some (.int .i64 (Sc.cf c 1)) ∧ W.cell? ⟨M, 2, none⟩ = some (.int .i64 (Sc.cf c 2)) ∧ W.cell? ⟨M, 3, none⟩ = some (.int .i64 (Sc.cf c 3)) ∧ W.cell? ⟨M, 4, none⟩ = some (.int .i64 (Sc.cf c 4)) ∧ W.cell? ⟨M, 5, none⟩ = some (.int .i64 (Sc.cf c 5)) ∧ W.cell? ⟨M, 6, none⟩ = some (.int .i64 (Sc.cf c 6)) ∧ W.cell? ⟨M, 7, none⟩ = some (.int .i64 (Sc.cf c 7)) ∧ W.cell? ⟨M, 8, none⟩ = some (.int .i64 (Sc.cf c 8)) ∧ W.cell? ⟨M, 9, none⟩ = some (.int .u64 (bv c.2)) ∧ W.cell? ⟨M, 10, none⟩ = some (.int .i64 (Sc.cf c 9)) ∧ W.cell? ⟨M, 11, none⟩ = some (.int .i64 (Sc.cf c 10)) ∧ W.cell? ⟨M, 12, none⟩ = some (.int .i64 (Sc.cf c 11)) ∧ W.cell? ⟨M, 13, none⟩ = some (.int .i64 (Sc.cf c 12)) ∧ W.cell? ⟨M, 14, none⟩ = some (.int .i64 (Sc.cf c 13)) ∧ W.cell? ⟨M, 15, none⟩ = some (.int .i64 (Sc.cf c 14)) := by
  refine ⟨?_, ?_, ?_, ?_, ?_, ?_, ?_, ?_, ?_, ?_, ?_, ?_, ?_, ?_, ?_, ?_⟩ <;> simp [World.cell?, h, confCells]
def lenV : Value → Nat
  | .slice _ n _ => n
  | _ => 0

open Classical in
set_option maxRecDepth 100000 in
set_option maxHeartbeats 6400000 in
theorem sw_many (cs : Array Value) (x : Sc.Conf) (a1 : Option Addr) (c1 : Nat) (L : List Sc.Step) (n : Int) (w : World) (hbd : Bounds w) (hx : EConf.rep (fun _ => True) w cs.toList x)
    (hs1 : Sl EStp (fun _ => True) w a1 L) (hc1 : L.length ≤ c1) (hm1 : c1 ≤ maxLen) (hn : -9223372036854775808 ≤ n ∧ n ≤ 9223372036854775807) (h7 : n = 7) (hpos : 0 < L.length) :
    Calls Tryd.prog 3 #[.agg cs, .slice a1 L.length c1, .int .i64 n] w fun e w' => e = .returned (.bool true) ∧ Below w.heap.size w w' := by
  obtain ⟨rfl, h15⟩ := conf_val hx
  have hgB := hbd.lt
  obtain ⟨B, hB⟩ : ∃ B, B = w.heap.size := ⟨_, rfl⟩
  rw [← hB] at hgB ⊢
  obtain ⟨w1, hw1⟩ : ∃ y, y = w.alloc (.cells (confCells x) 26) := ⟨_, rfl⟩
  have hh1 : w1.heap[B]? = some (.cells (confCells x) 26 (0, 0)) := by subst hw1; subst hB; exact heap_alloc_new w _
  have hb1 : Below B w w1 := by subst hw1; subst hB; exact (Below.refl _ _).alloc (Nat.le_refl _) _
  have hn1 : w1.heap.size = B + 1 := by subst hw1; subst hB; simp
  have HB := Lib.hid hB
  have Hbd := Lib.hid hbd
  have S1 := Lib.hid hs1
  have H15 := Lib.hid h15
  have Hb1 := Lib.hid hb1
  have Hn1 := Lib.hid hn1
  have sl : ∀ wx : World, Below B w wx → Sl EStp (fun b => b < B) wx a1 L ∧ Bounds wx := fun wx h => ⟨hs1.mono (by decide) fun q _ hq => ⟨h.block q (by rw [hB]; exact hq), by rw [hB]; exact hq⟩, hbd.below h hgB⟩
  have Sll := Lib.hid sl
  have blk : ∀ wx : World, Below (B + 1) w1 wx → wx.heap[B]? = some (.cells (confCells x) 26 (0, 0)) ∧ Below B w wx ∧ B + 1 ≤ wx.heap.size := fun wx h => ⟨by rw [h.block B (by omega)]; exact hh1, hb1.trans (h.mono (by omega)), by have := h.size; omega⟩
  have Blk := Lib.hid blk
  clear hx h15 hbd hs1 hh1 hb1 hn1 sl blk
  unfold confCells at hw1 ⊢
  go_enter Tryd.func3, Tryd.ntmps3
  go_upto_region 1 with fail
  rw [← hB, ← hw1]
  clear hw1 hB
  go_wp2_with fail
  refine (law14_head w1 (Sll.out _ Hb1.out).2).mono ?_
  rintro e w2 ⟨rfl, hb2⟩
  rw [Hn1.out] at hb2
  have Hb2 := Lib.hid hb2
  clear hb2
  go_wp2_with fail
  refine (law14_big a1 c1 L w2 ((Sll.out _ (Blk.out _ Hb2.out).2.1).1.any (by decide)) hc1).mono ?_
  rintro e w3 ⟨rfl, hb3⟩
  have Hb3 := Lib.hid (Hb2.out.trans (hb3.mono (Blk.out _ Hb2.out).2.2))
  clear hb3
  by_cases g1 : Sc.isBig L
  · rw [decide_eq_true g1]
    clear g1
    go_wp2_with fail
    go_ret
    exact ⟨rfl, (Blk.out _ Hb3.out).2.1⟩
  rw [decide_eq_false g1]
  obtain ⟨l1, k1⟩ := Sc.small_of g1
  have K1 := Lib.hid k1
  clear g1 k1
  subst h7
  have hpos' : 0 < (L.length : Int) := by omega
  obtain ⟨G, hG⟩ : ∃ G, w3.heap.size = G := ⟨_, rfl⟩
  obtain ⟨w4, hw4⟩ : ∃ z, z = w3.alloc (.cells #[] 58) := ⟨_, rfl⟩
  have hb4 : Below G w3 w4 := by subst hw4; subst hG; exact (Below.refl _ _).alloc (Nat.le_refl _) _
  have hown0 : Own (EOk (fun b => b < B) EStp) 58 G w4 (.slice (some ⟨G, 0, none⟩) 0 0) [] := by subst hw4; subst hG; exact own_empty (EOk (fun b => b < B) EStp) 58 w3 (show 0 < EStp.sz by decide)
  have hBG : B + 1 ≤ G := by rw [← hG]; exact (Blk.out _ Hb3.out).2.2
  have Hb4 := Lib.hid (Hb3.out.trans (hb4.mono hBG))
  have hsl4 : Sl (EOk (fun b => b < B) EStp) (fun b => some b ≠ (Value.slice (some ⟨G, 0, none⟩) 0 0).ownBlock) w4 a1 L := (Sll.out _ (Blk.out _ Hb4.out).2.1).1.eok fun b hb => by simp [Value.ownBlock]; omega
  have Hown0 := Lib.hid hown0
  have Hsl4 := Lib.hid hsl4
  have hn4 : G ≤ w4.heap.size := by have := hb4.size; omega
  have hex4 := hw4.symm
  clear hw4 hb4 hown0 hsl4
  go_upto_region 6 with fail
  go_wp2_with (first
    | (refine wpList_app (EOk (fun b => b < B) EStp) rfl rfl (by rfl) (by rfl) ti_stps Hown0.out rfl Hsl4.out (by unfold maxLen; simp; omega) (by simp; omega) hn4 ?_; intro v5 w5 ho5 hg5 hv5 hb5))
  obtain ⟨a5, c5, rfl, hc5, hm5, hr5, ho5'⟩ := ho5.shape L.length (by simp)
  rw [List.nil_append] at ho5'
  have Ho5 := Lib.hid ho5'
  have Hb5 := Lib.hid (Hb4.out.trans (hb5.mono hBG))
  have hG5 : G ≤ w5.heap.size := by have := hb5.size; omega
  clear ho5 hg5 hv5 hr5 ho5' hb5 hex4 hG
  go_loopw [1] (fun t wr => ∃ (a : Option Addr) (c : Nat) (L' : List Sc.Step), t = .slice a L'.length c ∧ 0 < L'.length ∧ L'.length ≤ 40002 ∧ G ≤ wr.heap.size ∧ RowKit.Hid (Own (EOk (fun b => b < B) EStp) 58 G wr (.slice a L'.length c) L') ∧ RowKit.Hid (Below (B + 1) w1 wr)) (fun t _ => 20001 - lenV t)
  case atStart => exact ⟨a5, c5, L, rfl, hpos, by omega, hG5, Ho5, Hb5⟩
  case round =>
    obtain ⟨a, c, L', rfl, hp, hl, hGr, Ho, Hb⟩ := hrel
    clear Ho5 Hb5
    by_cases hlt : L'.length < 20001
    · have hlt' : (L'.length : Int) < 20001 := by omega
      obtain ⟨g0, hag⟩ : ∃ g0, Value.slice a L'.length c = .slice (some ⟨g0, 0, none⟩) L'.length c := by
        rcases Ho.out with ⟨h, _⟩ | ⟨g, cap, cur, hv, _⟩
        · injection h with _ h2; omega
        · injection hv with h1 h2 h3
          exact ⟨g, by rw [h1]⟩
      have Hag := Lib.hid hag
      have ha : a = some ⟨g0, 0, none⟩ := by injection hag
      have Ho' := Lib.hid (show Own (EOk (fun b => b < B) EStp) 58 G wr (.slice (some ⟨g0, 0, none⟩) L'.length c) L' by rw [← hag]; exact Ho.out)
      clear hag
      subst ha
      have hb1 : L'.length + L'.length ≤ maxLen := by unfold maxLen; omega
      have hb2 : (L'.length + L'.length) * 48 ≤ 140737488355328 := by omega
      have Hb1' := Lib.hid hb1
      have Hb2' := Lib.hid hb2
      clear hb1 hb2
      go_wp2_with (first
        | (refine wpList_app_self (EOk (fun b => b < B) EStp) rfl rfl (by rfl) (by rfl) ti_stps rfl Ho'.out hp Hb1'.out Hb2'.out hGr ?_; intro v6 w6 ho6 hb6))
      obtain ⟨a6, c6, rfl, hc6, hm6, hr6, ho6'⟩ := ho6.shape (L' ++ L').length rfl
      have Ho6 := Lib.hid ho6'
      have Hb6 := Lib.hid (Hb.out.trans (hb6.mono hBG))
      have hG6 : G ≤ w6.heap.size := by have := hb6.size; omega
      clear ho6 hr6 ho6' hb6
      go_roundw
      case rel => exact ⟨a6, c6, L' ++ L', rfl, by simp; omega, by simp; omega, hG6, Ho6, Hb6⟩
      case measure => simp [lenV]; omega
    · have hlt' : ¬ ((L'.length : Int) < 20001) := by omega
      have hs := Ho.out.sl_ok
      obtain ⟨_, _, ec, hcc, hcm, _, _⟩ := Ho.out.shape L'.length rfl
      injection ec with ec1 ec2 ec3
      subst ec1
      subst ec3
      obtain ⟨aT, hcutT, hsT⟩ := cutT hs 20001 (by omega) hcc
      obtain ⟨T, hT⟩ : ∃ T, T = L'.take 20001 := ⟨_, rfl⟩
      have hTl : T.length = 20001 := by rw [hT, List.length_take]; omega
      rw [← hT] at hsT
      have hcut : ∀ W : World, (Instr.slice 27 (.slice a L'.length c) none (some (.int .i64 20001)) none).run Tryd.prog W = .ok (.slice aT 20001 c) W := hcutT
      have HTl := Lib.hid hTl
      have HsT := Lib.hid (hsT.any (by decide))
      have h2c : 20001 ≤ c := by omega
      clear hcutT hs hT hTl hsT
      have hl20 : (20001 : Int) ≤ (L'.length : Int) := by omega
      have hl20c : (20001 : Int) ≤ (c : Int) := by omega
      go_wp2_with fail
      refine (law14_small wr).mono ?_
      rintro e w7 ⟨rfl, hb7⟩
      have Hb7 := Lib.hid (Hb.out.trans (hb7.mono (Blk.out _ Hb.out).2.2))
      have herr : Sc.encErr (Sc.small0, T) = 4 := by
        unfold Sc.encErr
        rw [if_pos (show Sc.check (Sc.small0, T).1 = 0 from Sc.small_chk _), if_pos (show 20000 < T.length by rw [HTl.out]; decide)]
      have Herr := Lib.hid herr
      have henc := Lib.hid (show Calls Tryd.prog 9 #[.agg (confCells Sc.small0), .slice aT 20001 c] w7 fun e w' => ∃ v, e = .returned (.tuple #[v, .int .i64 (Sc.encErr (Sc.small0, T))]) ∧ Own EU8 5 w7.heap.size w' v (Sc.encOut (Sc.small0, T)) ∧ Below w7.heap.size w7 w' from
        script_Encode w7.heap.size Sc.small0 aT 20001 c T w7 rfl (Sll.out _ (Blk.out _ Hb7.out).2.1).2 rfl ⟨HTl.out.symm, HsT.out.below (by decide) hb7⟩ h2c hcm (fun h => by rw [herr] at h; cases h))
      clear herr hb7
      go_wp2_with fail
      refine (henc.out).mono ?_
      rintro e w8 ⟨v8, rfl, ho8, hb8⟩
      rw [Herr.out]
      obtain ⟨a8, c8, rfl, _, _, _, _⟩ := ho8.shape _ rfl
      have Hb8 := Lib.hid (Hb7.out.trans (hb8.mono (Blk.out _ Hb7.out).2.2))
      clear ho8 hb8
      go_wp2_with fail
      go_ret
      exact ⟨rfl, (Blk.out _ Hb8.out).2.1⟩
end Go.Proofs.YtdpopdgeipgheaaDoor

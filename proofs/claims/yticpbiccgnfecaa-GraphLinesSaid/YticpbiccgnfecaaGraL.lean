
/-
  How far each node is from one: the walk.
-/
import Derived.Test.YticpbiccgnfecaaGraF
import Derived.Test.YticpbiccgnfecaaGraO
namespace Go.Proofs.Yticpbiccgnfecaa
open Go.RowKit
set_option linter.unusedVariables false

namespace Gr
/-- from where one gets to v by one arc: of the nodes below i -/
def frm (R : Rel) (i v : Nat) : List Nat := (List.range i).filter fun u => R u v
theorem frm_len (R : Rel) (i v : Nat) : (frm R i v).length ≤ i := by
  have := List.length_filter_le (fun u => R u v) (List.range i); simpa [frm] using this
def frmP (R : Rel) (i : Nat) (r : List Nat) (v : Nat) : List Int := natI (frm R i v) ++ if v ∈ r then [(i : Int)] else []
theorem frmP_nil (R : Rel) (i v : Nat) : frmP R i [] v = natI (frm R i v) := by simp [frmP]
theorem frmP_len (R : Rel) (i : Nat) (r : List Nat) (v : Nat) : (frmP R i r v).length ≤ i + 1 := by
  unfold frmP
  rw [List.length_append, natI_len]
  have := frm_len R i v
  split <;> simp <;> omega
theorem frmP_snoc (R : Rel) (i : Nat) {r : List Nat} {u : Nat} (h : u ∉ r) (v : Nat) : frmP R i (r ++ [u]) v = if v = u then frmP R i r u ++ [(i : Int)] else frmP R i r v := by
  unfold frmP
  by_cases e : v = u
  · subst e; rw [if_pos rfl]; simp [h]
  · rw [if_neg e]; simp [e]
theorem frmP_row (n : Nat) (R : Rel) (i : Nat) {v : Nat} (hv : v < n) : frmP R i (rowN n R i) v = natI (frm R (i + 1) v) := by
  unfold frmP frm
  rw [List.range_succ, List.filter_append]
  by_cases h : R i v = true
  · rw [if_pos (mem_row.2 ⟨hv, h⟩)]; simp [h, natI]
  · rw [if_neg (fun hm => h (mem_row.1 hm).2)]; simp [h, natI]
theorem mem_frm {R : Rel} {i v u : Nat} : u ∈ frm R i v ↔ u < i ∧ R u v = true := by simp [frm]
/-- all assigned numbers are small -/
def Sml (n : Nat) (out : Nat → Int) : Prop := (∀ u, -1 ≤ out u ∧ out u ≤ (n : Int) - unI n out) ∧ ∀ u, n ≤ u → out u = -1
theorem Sml.upd {n : Nat} {out : Nat → Int} (h : Sml n out) {u x : Nat} (hu : u < n) (ho : out u < 0) (hx : 0 ≤ out x) : Sml n (upd out u (out x + 1)) := by
  have hun := unI_upd (y := out x + 1) hu ho (by omega)
  have hxb := (h.1 x).2
  refine ⟨fun v => ?_, fun v hv => ?_⟩
  · have hb := h.1 v
    by_cases e : v = u
    · subst e
      have e2 : Gr.upd out v (out x + 1) v = out x + 1 := if_pos rfl
      rw [e2]; omega
    · have e2 : Gr.upd out u (out x + 1) v = out v := if_neg e
      rw [e2]; omega
  · have e2 : Gr.upd out u (out x + 1) v = out v := if_neg (by omega)
    rw [e2]; exact h.2 v hv
end Gr

theorem que_last {te base : Nat} {w : World} {g o p : Nat} {l : List Int} (hp : p - 1 = 0) (h : Que te base w (.slice (if 1 = 1 then some ⟨g, o, none⟩ else some ⟨g, o + 1, none⟩) (p - 1) (1 - 1)) l) : RowKit.Hid (Que te base w (.slice (some ⟨g, o, none⟩) 0 0) l) := by
  rw [hp] at h; exact h
theorem Que.base {te base base' : Nat} {w : World} {v : Value} {l : List Int} (h : Que te base w v l) (hb : base' ≤ base) : Que te base' w v l := by
  obtain ⟨g, o, cap, cur, hv, hg, r⟩ := h
  exact ⟨g, o, cap, cur, hv, Nat.le_trans hb hg, r⟩
theorem Rows.lowW {w w' : World} {D g n : Nat} {vs : Nat → Value} {ls : Nat → List Int} (h : Rows w g n vs ls) (hD : w.heap.size = D) (hb : Below D w w') : Rows w' g n vs ls := by
  subst hD; exact h.below hb
namespace Gr
def out0 (goal : Nat) : Nat → Int := fun v => if v = goal then 0 else -1
theorem out0_upd (goal : Nat) : out0 goal = Gr.upd (fun _ => -1) goal 0 := by funext v; rfl
theorem out0_un {n goal : Nat} (h : goal < n) : unI n (out0 goal) + 1 ≤ n := by
  have h1 := unI_upd (n := n) (out := fun _ => (-1 : Int)) (u := goal) (y := 0) h (by decide) (by decide)
  rw [← out0_upd] at h1
  have h2 := unI_le n (fun _ => (-1 : Int))
  omega
theorem out0_sml {n goal : Nat} (h : goal < n) : Sml n (out0 goal) := by
  have h1 := out0_un h
  refine ⟨fun u => ?_, fun u hu => if_neg (by omega)⟩
  have e : out0 goal u = 0 ∨ out0 goal u = -1 := by unfold out0; split <;> simp
  omega
end Gr

/-- how far: comes back in new memory -/
def FarPost (B N goal : Nat) (R : Gr.Rel) (w : World) (e : Ending) (w' : World) : Prop :=
  ∃ (E : Nat) (out : Nat → Int), e = .returned (.slice (some ⟨E, 0, none⟩) N N) ∧ Vec w' E 3 N (fun v => .int .i64 (out v)) ∧ Gr.Away R goal out ∧ (∀ v, -1 ≤ out v ∧ out v ≤ N) ∧ Below B w w'

set_option maxRecDepth 4096 in
set_option maxHeartbeats 3200000 in
theorem graph_far (B g N goal : Nat) (vs : Nat → Value) (R : Gr.Rel) (w : World) (hB : w.heap.size = B) (hR : Rows w g N vs (Gr.rowI N R)) (hbd : Gr.Bd N R) (hNl : N ≤ 400) (hgo : goal < N) :
    Calls Try.prog 28 #[.slice (some ⟨g, 0, none⟩) N N, .int .i64 goal] w (FarPost B N goal R w) := by
  have hN0 : (0 : Int) ≤ (N : Int) := by omega
  have hN1 : (N : Int) ≤ 400 := by omega
  have hmk := run_make_row' (P := Try.prog) 45 23 (.slice none 0 0) 24 Try.underlying45 (by kernel_rfl) rfl .i64 .i64 N (by omega) (by omega)
  have hgr := Grid.made 23 3 w N
  have hb0 := alloc_below w (.cells (madeCells #[.slice none 0 0] N) 23)
  obtain ⟨w1, hw1⟩ : ∃ x, x = w.alloc (.cells (madeCells #[.slice none 0 0] N) 23) := ⟨_, rfl⟩
  have hex1 := hw1.symm
  rw [← hw1] at hgr hb0
  rw [hB] at hgr hb0
  have HB := Lib.hid hB
  have HR := Lib.hid hR
  clear hw1 hR
  go_enter Try.func28, Try.ntmps28
  go_upto_region 2 with fail
  clear hex1 hmk hB
  go_wp2_with fail
  go_loopg [19] N (fun gn i wr => ∃ k : Nat, RowKit.Hid (gn = N - k) ∧ k ≤ N ∧ i = .int .i64 k ∧ (∃ us, RowKit.Hid (Grid 23 3 wr B N us (fun v => natI (Gr.frm R k v)))) ∧ Below B w wr)
  case atStart => exact ⟨0, Lib.hid rfl, Nat.zero_le _, rfl, ⟨_, Lib.hid (hgr.congr fun v _ => by simp [Gr.frm, natI])⟩, hb0⟩
  case round =>
    clear hgr hb0
    obtain ⟨k, hgn, hk, rfl, ⟨us, hG⟩, hb⟩ := hrel
    by_cases hlt : k < N
    · have hki : (k : Int) < (N : Int) := by omega
      have hk0 : (0 : Int) ≤ (k : Int) := by omega
      have q1 := cell_thru (HR.out.cell k hlt) (by rw [HB.out]; exact hb)
      obtain ⟨a3, c3, hv3, hc31, hc32, hs31⟩ := HR.out.row k hlt
      have hrl := Gr.row_len N R k
      have hrl2 := Gr.rowI_len N R k
      rw [hv3] at q1
      obtain ⟨L, hL⟩ : ∃ x, x = (Gr.rowI N R k).length := ⟨_, rfl⟩
      rw [← hL] at q1 hc31 hrl2
      have hLN : (L : Int) ≤ 400 := by omega
      have Hs31 := Lib.hid hs31
      have HL := Lib.hid hL
      have Hrl2 := Lib.hid hrl2
      have hG0 : RowKit.Hid (Grid 23 3 wr B N us (Gr.frmP R k ((Gr.rowN N R k).take 0))) := Lib.hid (hG.out.congr fun v _ => by rw [List.take_zero, Gr.frmP_nil])
      clear hG hs31 hv3 hL hrl2
      go_wp2_with fail
      go_loopg [26] L (fun gm i wj => ∃ j : Nat, RowKit.Hid (gm = L - j) ∧ j ≤ L ∧ i = .int .i64 j ∧ (∃ us, RowKit.Hid (Grid 23 3 wj B N us (Gr.frmP R k ((Gr.rowN N R k).take j)))) ∧ Below B w wj)
      case atStart => exact ⟨0, Lib.hid rfl, Nat.zero_le _, rfl, ⟨us, hG0⟩, hb⟩
      case round =>
        clear hG0 hb q1
        clear us
        obtain ⟨j, hgm, hj, rfl, ⟨us, hGj⟩, hbj⟩ := hrel
        by_cases hjl : j < L
        · have hji : (j : Int) < (L : Int) := by omega
          have hj0 : (0 : Int) ≤ (j : Int) := by omega
          have hsj := Hs31.out.below (by decide) (show Below w.heap.size w wr by rw [HB.out]; exact hbj)
          obtain ⟨b4, o4, rfl, p4, r41, r42⟩ := SlI.at hsj j (by rw [← HL.out]; exact hjl)
          have hjr : j < (Gr.rowN N R k).length := by rw [← Hrl2.out]; exact hjl
          have hval : (Gr.rowI N R k)[j]'(by rw [← HL.out]; exact hjl) = (((Gr.rowN N R k)[j] : Nat) : Int) := by simp [Gr.rowI]
          rw [hval] at p4
          have hfresh := Gr.take_fresh (Gr.row_nodup N R k) hjr
          have htk : (Gr.rowN N R k).take (j + 1) = (Gr.rowN N R k).take j ++ [(Gr.rowN N R k)[j]] := (List.take_append_getElem hjr).symm
          have hmem : (Gr.rowN N R k)[j] < N := (Gr.mem_row.1 (List.getElem_mem hjr)).1
          obtain ⟨u, hu⟩ : ∃ u, u = (Gr.rowN N R k)[j] := ⟨_, rfl⟩
          rw [← hu] at p4 hfresh htk hmem
          clear r41 r42 hval hu hsj
          have hu0 : (0 : Int) ≤ (u : Int) := by omega
          have hu1 : (u : Int) < (N : Int) := by omega
          have z2 := hGj.out.vec.cell hmem
          have zf := hGj.out.vec.free u
          have hv4 := hGj.out.own u hmem
          have hgw := hGj.out.vec.lt
          have hvl := Gr.frmP_len R k ((Gr.rowN N R k).take j) u
          obtain ⟨vo, hvo⟩ : ∃ x, x = us u := ⟨_, rfl⟩
          rw [← hvo] at z2 hv4
          obtain ⟨l4, hl4⟩ : ∃ x, x = Gr.frmP R k ((Gr.rowN N R k).take j) u := ⟨_, rfl⟩
          rw [← hl4] at hv4 hvl
          have hkr : -9223372036854775808 ≤ (k : Int) ∧ (k : Int) ≤ 9223372036854775807 := by omega
          have Hb7 := Lib.hid (alloc_below wr (.cells #[.int .i64 k] 3))
          have Hv7 := Lib.hid (hv4.below Hb7.out)
          have Hs7 : RowKit.Hid (Sl EInt (fun b => some b ≠ vo.ownBlock) (wr.alloc (.cells #[.int .i64 k] 3)) (some ⟨wr.heap.size, 0, none⟩) [(k : Int)]) := Lib.hid (sl_one (heap_alloc_new wr _) ⟨rfl, hkr⟩ hv4.fresh)
          have HneB : RowKit.Hid (some B ≠ vo.ownBlock) := Lib.hid fun e => by have := (hv4.lt B e.symm).1; omega
          have Hvo := Lib.hid hvo
          have Hl4 := Lib.hid hl4
          have Htk := Lib.hid htk
          have Hfr := Lib.hid hfresh
          clear hvo hl4 htk hfresh hv4 hkr
          go_upto_region 8 with fail
          go_wp2_with (refine wpList_app EInt rfl rfl rfl rfl ti_ints Hv7.out rfl Hs7.out ?_ ?_ ?_ ?_)
          · simp [maxLen]; omega
          · simp; omega
          · simp; omega
          · intro v8 w8 ho8 hg8 hv8 hb8
            have y2 : w8.cell? ⟨B, u, none⟩ = some vo := by
              rw [cell_keep (hg8.block B (by simp; omega) HneB.out)]; exact cell_thru z2 Hb7.out
            have yf : w8.frozen? ⟨B, u, none⟩ = false := (World.frozen?_of_block (a := ⟨B, u, none⟩) (hg8.block B (by simp; omega) HneB.out)).trans ((Hb7.out.frozen (p := ⟨B, u, none⟩) hgw).trans zf)
            have hGs := hGj.out.set (w1 := w8) hmem (v' := v8) (l' := l4 ++ [(k : Int)]) (fun q hq hne => (hg8.block q (by simp; omega) (by rw [Hvo.out]; exact hne)).trans (Hb7.out.block q hq)) ho8 (by
              rcases hv8 with h | ⟨b, h, h2⟩
              · exact .inr (.inl (by rw [← Hvo.out]; exact h))
              · exact .inr (.inr ⟨b, h, by have := h2; omega⟩))
            have HGn := Lib.hid (hGs.congr (ls' := Gr.frmP R k ((Gr.rowN N R k).take (j + 1))) fun v hv => by
              rw [Htk.out, Gr.frmP_snoc R k Hfr.out]
              unfold updL
              by_cases e : v = u
              · rw [if_pos e, if_pos e, Hl4.out]
              · rw [if_neg e, if_neg e])
            have Hbn := Lib.hid (((hbj.trans (Hb7.out.mono (Nat.le_of_lt hgw))).trans (hb8.mono (Nat.le_succ B))).setCell (p := ⟨B, u, none⟩) (Nat.le_refl _) v8)
            obtain ⟨a9, c9, rfl, _, _, _, _⟩ := ho8.shape (l4.length + 1) (by simp)
            clear hGs ho8 hg8 hv8 hb8 z2 zf
            go_wp2_with fail
            go_roundg (L - (j + 1))
            case measure => rw [hgm.out]; omega
            case rel => exact ⟨j + 1, Lib.hid rfl, by omega, by go_num, ⟨_, HGn⟩, Hbn.out⟩
        · have hji : ¬ ((j : Int) < (L : Int)) := by omega
          have hGn : RowKit.Hid (Grid 23 3 wr B N us (fun v => natI (Gr.frm R (k + 1) v))) := Lib.hid (hGj.out.congr fun v hv => by
            rw [List.take_of_length_le (by have := Hrl2.out; omega), Gr.frmP_row N R k hv])
          clear hGj
          go_wp2_with fail
          go_roundg (N - (k + 1))
          case measure => rw [hgn.out]; omega
          case rel => exact ⟨k + 1, Lib.hid rfl, by omega, by go_num, ⟨us, hGn⟩, hbj⟩
    · have hki : ¬ ((k : Int) < (N : Int)) := by omega
      obtain rfl : N = k := by omega
      clear hlt hki hgn hk
      obtain ⟨wrr, rfl⟩ : ∃ x : World, x = wr := ⟨_, rfl⟩
      have hgw := hG.out.vec.lt
      have hFR := Lib.hid hG.out.rows
      have hx1 : (wrr.alloc (.cells #[.int .i64 (-1)] 3)).cell? ⟨wrr.heap.size, 0, none⟩ = some (.int .i64 (-1)) := by unfold World.cell?; rw [heap_alloc_new wrr]; rfl
      have Hx1 := Lib.hid hx1
      have Hb1 := Lib.hid (alloc_below wrr (.cells #[.int .i64 (-1)] 3))
      have Hbw := Lib.hid hb
      clear hG hx1 hb
      have hbB : Below B w wrr := Hbw.out
      obtain ⟨D, hD⟩ : ∃ D, D = wrr.heap.size := ⟨_, rfl⟩
      obtain ⟨E, hE⟩ : ∃ E, E = (wrr.alloc (.cells #[.int .i64 (-1)] 3)).heap.size := ⟨_, rfl⟩
      have hDE : D + 1 = E := by rw [hE, hD]; simp
      have HE := Lib.hid hE
      have HD := Lib.hid hD
      have hBD : B < D := by omega
      clear hE hbB
      go_wp2_with fail
      refine (repeat_one E _ _ N (-1) _ HE.out.symm Hx1.out (by omega) (by omega)).mono ?_
      rintro e w3 ⟨rfl, hv3, hb3⟩
      have hb03 : Below D wrr w3 := by
        have h1 := Hb1.out
        rw [← HD.out] at h1
        exact h1.trans (hb3.mono (by omega))
      have y1 := hv3.cell hgo
      have yf := hv3.free goal
      have hv4 := (hv3.set goal (.int .i64 0)).congr (f' := fun v => .int .i64 (Gr.out0 goal v)) fun v _ => by
        unfold updV Gr.out0
        by_cases e : v = goal
        · rw [if_pos e, if_pos e]
        · rw [if_neg e, if_neg e]
      have hb4 : Below D wrr (w3.setCell ⟨E, goal, none⟩ (.int .i64 0)) := hb03.setCell (by show D ≤ E; omega) _
      obtain ⟨w4, hw4⟩ : ∃ x, x = w3.setCell ⟨E, goal, none⟩ (.int .i64 0) := ⟨_, rfl⟩
      have hw4' := hw4.symm
      rw [← hw4] at hv4 hb4
      have hEs : E + 1 ≤ w4.heap.size := hv4.lt
      have Hq5 := Lib.hid ((que_one w4 (goal : Int)).base hEs)
      have Hv5 := Lib.hid (hv4.below (alloc_below w4 (.cells #[.int .i64 goal] 3)))
      have Hb5 := Lib.hid (hb4.alloc (by omega) (.cells #[.int .i64 goal] 3))
      have hEs5 : E + 1 ≤ (w4.alloc (.cells #[.int .i64 goal] 3)).heap.size := by simp; omega
      have HEs5 := Lib.hid hEs5
      have hg0 : (0 : Int) ≤ (goal : Int) := by omega
      have hg1 : (goal : Int) < (N : Int) := by omega
      have HFR := Lib.hid (show Rows wrr B N us (fun v => natI (Gr.frm R N v)) from hFR.out)
      clear hb3 hv3 hw4 hv4 hb4 hb03 Hx1 Hb1 hEs5 hD
      go_upto_region 13 with fail
      clear hw4' y1 yf
      go_wp2_with fail
      go_loopg [11] (2 * Gr.unI N (Gr.out0 goal) + 1) (fun gn v w' => ∃ (q : List Nat) (out : Nat → Int), RowKit.Hid (gn = 2 * Gr.unI N out + q.length) ∧ RowKit.Hid (Que 3 (E + 1) w' v (natI q)) ∧ RowKit.Hid (Vec w' E 3 N (fun v => .int .i64 (out v))) ∧ RowKit.Hid (Gr.Bfs N R goal out q) ∧ RowKit.Hid (Gr.Sml N out) ∧ q.length + Gr.unI N out ≤ N ∧ Below D wrr w' ∧ E + 1 ≤ w'.heap.size)
      case atStart => exact ⟨[goal], Gr.out0 goal, Lib.hid rfl, Hq5, Hv5, Lib.hid (Gr.Bfs.init hgo (if_pos rfl) fun u hu => by unfold Gr.out0; rw [if_neg hu]; decide), Lib.hid (Gr.out0_sml hgo), by have := Gr.out0_un hgo; simp; omega, Hb5.out, HEs5.out⟩
      case round =>
        clear Hq5 Hv5 Hb5 HEs5
        obtain ⟨q, out, hgn, hQ, hV, hBf, hSm, hql, hbq, hsz⟩ := hrel
        cases q with
        | nil =>
          obtain ⟨g4, o4, c4, rfl, _, _, _, _⟩ := hQ.out.shape 0 (by rw [natI_len]; rfl)
          have hbf : Below B w wr := Hbw.out.trans (hbq.mono (by omega))
          have hpost : FarPost B N goal R w (.returned (.slice (some ⟨E, 0, none⟩) N N)) wr := ⟨E, out, rfl, hV.out, hBf.out.fin, fun v => by have := hSm.out.1 v; omega, hbf⟩
          have Hpost := Lib.hid hpost
          clear hgn hQ hV hBf hSm hpost hbf
          go_wp2_with fail
          go_ret
          exact Hpost.out
        | cons x r =>
          obtain ⟨p, hp⟩ : ∃ p, p = r.length + 1 := ⟨_, rfl⟩
          have hlen : p = (natI (x :: r)).length := by rw [natI_len, hp]; rfl
          obtain ⟨g4, o4, c4, rfl, hc4, hm4, hcells, hQ4⟩ := hQ.out.shape p hlen
          have p4 := hcells 0 (by rw [← hlen]; omega)
          rw [show (natI (x :: r))[0]'(by rw [← hlen]; omega) = (x : Int) from rfl, Nat.add_zero] at p4
          have hx : x < N := hBf.out.lt x (by simp)
          have hp0 : (0 : Int) < (p : Int) := by omega
          have hpd : decide (0 < p) = true := by simp; omega
          have hx0 : (0 : Int) ≤ (x : Int) := by omega
          have hx1 : (x : Int) < (N : Int) := by omega
          have q1 := (HFR.out.lowW HD.out.symm hbq).cell x hx
          obtain ⟨a3, c3, hv3, hc31, hc32, hs31⟩ := HFR.out.row x hx
          rw [hv3] at q1
          have hll : (natI (Gr.frm R N x)).length ≤ N := by rw [natI_len]; exact Gr.frm_len R N x
          have hfl : (natI (Gr.frm R N x)).length = (Gr.frm R N x).length := natI_len _
          obtain ⟨L, hL⟩ : ∃ y, y = (natI (Gr.frm R N x)).length := ⟨_, rfl⟩
          rw [← hL] at q1 hc31 hll hfl
          have hLN : (L : Int) ≤ 400 := by omega
          have Hs31 := Lib.hid hs31
          have HL := Lib.hid hL
          have Hfl := Lib.hid hfl
          have hQ0 : RowKit.Hid (Que 3 (E + 1) wr (.slice (some ⟨g4, o4, none⟩) p c4) (natI (x :: r))) := Lib.hid hQ4
          have hgn2 : 2 * Gr.unI N out + r.length + 1 ≤ gk := by rw [hgn.out, List.length_cons]; omega
          have hql2 : r.length + 1 + Gr.unI N out ≤ N := by rw [List.length_cons] at hql; omega
          obtain ⟨gq, hgq⟩ : ∃ y, y = gk := ⟨_, rfl⟩
          rw [← hgq] at hgn2
          have Hgq := Lib.hid hgq
          clear hcells hQ4 hlen hp hs31 hv3 hL hQ hgn hql hfl hgq
          go_wp2_with fail
          go_loopg [11, 63] L (fun gm v i w' => ∃ (j : Nat) (r : List Nat) (out : Nat → Int), RowKit.Hid (gm = L - j) ∧ j ≤ L ∧ i = .int .i64 j ∧ RowKit.Hid (Que 3 (E + 1) w' v (natI (x :: r))) ∧ RowKit.Hid (Vec w' E 3 N (fun v => .int .i64 (out v))) ∧ RowKit.Hid (Gr.Bfs N R goal out (x :: r)) ∧ RowKit.Hid (Gr.Sml N out) ∧ RowKit.Hid (∀ u ∈ (Gr.frm R N x).take j, 0 ≤ out u) ∧ 2 * Gr.unI N out + r.length + 1 ≤ gq ∧ r.length + 1 + Gr.unI N out ≤ N ∧ Below D wrr w' ∧ E + 1 ≤ w'.heap.size)
          case atStart => exact ⟨0, r, out, Lib.hid rfl, Nat.zero_le _, rfl, hQ0, hV, hBf, hSm, Lib.hid (by simp), hgn2, hql2, hbq, hsz⟩
          case round =>
            clear hQ0 hV hBf hSm hgn2 hql2 hbq hsz q1 p4
            clear r out
            obtain ⟨j, r, out, hgm, hj, rfl, hQ, hV, hBf, hSm, hpr, hgn2, hql2, hbq, hsz⟩ := hrel
            obtain ⟨p, hp⟩ : ∃ p, p = r.length + 1 := ⟨_, rfl⟩
            have hlen : p = (natI (x :: r)).length := by rw [natI_len, hp]; rfl
            obtain ⟨g4, o4, c4, rfl, hc4, hm4, hcells, hQ4⟩ := hQ.out.shape p hlen
            have p4 := hcells 0 (by rw [← hlen]; omega)
            rw [show (natI (x :: r))[0]'(by rw [← hlen]; omega) = (x : Int) from rfl, Nat.add_zero] at p4
            have HQ4 := Lib.hid hQ4
            have Hlen := Lib.hid hlen
            have hpb : p ≤ 400 := by omega
            have hp1 : (1 : Int) ≤ (p : Int) := by omega
            have hpc : (p : Int) ≤ (c4 : Int) := by omega
            have hpc1 : (1 : Int) ≤ (c4 : Int) := by omega
            have hcm : (c4 : Int) ≤ 9223372036854775807 := by unfold maxLen at hm4; omega
            have Hp := Lib.hid hp
            clear hcells hQ4 hlen hp hm4 hQ
            by_cases hjl : j < L
            · have hji : (j : Int) < (L : Int) := by omega
              have hj0 : (0 : Int) ≤ (j : Int) := by omega
              have hsj := Hs31.out.below (by decide) (show Below wrr.heap.size wrr wr by rw [← HD.out]; exact hbq)
              obtain ⟨b5, o5, rfl, p5, r41, r42⟩ := SlI.at hsj j (by rw [← HL.out]; exact hjl)
              have hjr : j < (Gr.frm R N x).length := by rw [← Hfl.out]; exact hjl
              have hval : (natI (Gr.frm R N x))[j]'(by rw [← HL.out]; exact hjl) = (((Gr.frm R N x)[j] : Nat) : Int) := by simp [natI]
              rw [hval] at p5
              have htk : (Gr.frm R N x).take (j + 1) = (Gr.frm R N x).take j ++ [(Gr.frm R N x)[j]] := (List.take_append_getElem hjr).symm
              have hmem := Gr.mem_frm.1 (List.getElem_mem hjr)
              obtain ⟨u, hu⟩ : ∃ u, u = (Gr.frm R N x)[j] := ⟨_, rfl⟩
              rw [← hu] at p5 htk hmem
              obtain ⟨huN, huR⟩ := hmem
              clear r41 r42 hval hu hsj
              have hu0 : (0 : Int) ≤ (u : Int) := by omega
              have hu1 : (u : Int) < (N : Int) := by omega
              have y1 := hV.out.cell huN
              have yf := hV.out.free u
              have y2 := hV.out.cell hx
              have hxa := hBf.out.asg x (by simp)
              have hxb := (hSm.out.1 x).2
              have hub := hSm.out.1 u
              have hunb := Gr.unI_le N out
              obtain ⟨ox, hox⟩ : ∃ y, y = out x := ⟨_, rfl⟩
              obtain ⟨ou, hou⟩ : ∃ y, y = out u := ⟨_, rfl⟩
              rw [← hox] at y2 hxa hxb
              rw [← hou] at y1 hub
              obtain ⟨hub1, hub2⟩ := hub
              have Hox := Lib.hid hox
              have Hou := Lib.hid hou
              have Htk := Lib.hid htk
              have HuR := Lib.hid huR
              clear hox hou htk huR
              by_cases hneg : ou < 0
              · have hV2 := (hV.out.set u (.int .i64 (ox + 1))).congr (f' := fun v => .int .i64 (Gr.upd out u (out x + 1) v)) fun v _ => by
                  unfold updV Gr.upd
                  by_cases e : v = u
                  · rw [if_pos e, if_pos e, Hox.out]
                  · rw [if_neg e, if_neg e]
                have hB2 := hBf.out.add hbd HuR.out (by rw [← Hou.out]; exact hneg)
                have hS2 := hSm.out.upd huN (by rw [← Hou.out]; exact hneg) (x := x) (by rw [← Hox.out]; exact hxa)
                have hun2 := Gr.unI_upd (y := out x + 1) huN (show out u < 0 by rw [← Hou.out]; exact hneg) (by rw [← Hox.out]; omega)
                have hpr2 : ∀ v ∈ (Gr.frm R N x).take (j + 1), 0 ≤ Gr.upd out u (out x + 1) v := fun v hv => by
                  unfold Gr.upd
                  by_cases e : v = u
                  · rw [if_pos e, ← Hox.out]; omega
                  · rw [if_neg e]
                    rw [Htk.out] at hv
                    rcases List.mem_append.1 hv with h | h
                    · exact hpr.out v h
                    · simp at h; exact absurd h e
                have hb6 : Below D wrr (wr.setCell ⟨E, u, none⟩ (.int .i64 (ox + 1))) := hbq.setCell (by show D ≤ E; omega) _
                have hQ6 := HQ4.out.setOld (Nat.lt_succ_self E) u (.int .i64 (ox + 1))
                obtain ⟨w6, hw6⟩ : ∃ y, y = wr.setCell ⟨E, u, none⟩ (.int .i64 (ox + 1)) := ⟨_, rfl⟩
                have hw6' := hw6.symm
                have hsz6 : E + 1 ≤ w6.heap.size := by rw [hw6]; simpa using hsz
                rw [← hw6] at hV2 hb6 hQ6
                have HQ7 := Lib.hid (hQ6.below (alloc_below w6 (.cells #[.int .i64 u] 3)))
                have Hb67 := Lib.hid (alloc_below w6 (.cells #[.int .i64 u] 3))
                have Hx7 : RowKit.Hid ((w6.alloc (.cells #[.int .i64 u] 3)).cell? ⟨w6.heap.size, 0, none⟩ = some (.int .i64 u)) := Lib.hid (by unfold World.cell?; rw [heap_alloc_new w6]; rfl)
                have HV7 := Lib.hid (hV2.below Hb67.out)
                have Hb7 := Lib.hid (hb6.alloc (by omega) (.cells #[.int .i64 u] 3))
                have HB2 := Lib.hid hB2
                have HS2 := Lib.hid hS2
                have Hun2 := Lib.hid hun2
                have Hpr2 := Lib.hid hpr2
                clear hV2 hb6 hQ6 hw6 hB2 hS2 hun2 hpr2 hV hBf hSm hpr
                go_upto_region 21 with fail
                clear hw6' y1 yf y2 p4 p5
                go_wp2_with (refine wpList_que rfl rfl rfl rfl ti_ints HQ7.out Hx7.out rfl ?_ ?_ ?_)
                · rw [← Hlen.out]; omega
                · simp; omega
                · intro v8 w8 hQ8 hb8
                  have hV8 := Lib.hid (HV7.out.keep (hb8.block E (Nat.lt_succ_self E)))
                  have hb08 := Lib.hid (Hb7.out.trans (hb8.mono (by omega)))
                  have hsz8 : E + 1 ≤ w8.heap.size := by have := Hb67.out.size; have := hb8.size; omega
                  have hlist : natI (x :: r) ++ [(u : Int)] = natI (x :: (r ++ [u])) := by unfold natI; simp
                  rw [hlist] at hQ8
                  have HQ8 := Lib.hid hQ8
                  obtain ⟨g9, o9, c9, rfl, _, _, _, _⟩ := hQ8.shape (p + 1) (by rw [natI_len]; simp; exact Hp.out)
                  clear hQ8 hb8 hlist HQ7 Hx7 HV7 Hb7
                  go_wp2_with fail
                  go_roundg (L - (j + 1))
                  case measure => rw [hgm.out]; omega
                  case rel => exact ⟨j + 1, r ++ [u], Gr.upd out u (out x + 1), Lib.hid rfl, by omega, by go_num, HQ8, hV8, HB2, HS2, Hpr2, by have := Hun2.out; rw [List.length_append, List.length_singleton]; omega, by have := Hun2.out; rw [List.length_append, List.length_singleton]; omega, hb08.out, hsz8⟩
              · have hpr2 : RowKit.Hid (∀ v ∈ (Gr.frm R N x).take (j + 1), 0 ≤ out v) := Lib.hid fun v hv => by
                  rw [Htk.out] at hv
                  rcases List.mem_append.1 hv with h | h
                  · exact hpr.out v h
                  · simp at h; rw [h, ← Hou.out]; omega
                clear hpr
                go_wp2_with fail
                go_roundg (L - (j + 1))
                case measure => rw [hgm.out]; omega
                case rel => exact ⟨j + 1, r, out, Lib.hid rfl, by omega, by go_num, HQ4, hV, hBf, hSm, hpr2, hgn2, hql2, hbq, hsz⟩
            · have hji : ¬ ((j : Int) < (L : Int)) := by omega
              have hBp := Lib.hid (hBf.out.pop fun u hu => hpr.out u (by
                rw [List.take_of_length_le (by have := Hfl.out; omega)]
                exact Gr.mem_frm.2 ⟨(hbd _ _ hu).1, hu⟩))
              have hQt : RowKit.Hid (Que 3 (E + 1) wr (.slice (if c4 = 1 then some ⟨g4, o4, none⟩ else some ⟨g4, o4 + 1, none⟩) (p - 1) (c4 - 1)) (natI r)) := Lib.hid (HQ4.out.tail)
              clear hBf hpr p4 HQ4
              by_cases hc1 : c4 = 1
              · subst hc1
                have hQu : RowKit.Hid (Que 3 (E + 1) wr (.slice (some ⟨g4, o4, none⟩) 0 0) (natI r)) := que_last (by omega) hQt.out
                clear hQt
                go_wp2_with fail
                go_roundg (2 * Gr.unI N out + r.length)
                case measure => rw [← Hgq.out]; omega
                case rel => exact ⟨r, out, Lib.hid rfl, hQu, hV, hBp, hSm, by omega, hbq, hsz⟩
              · have hQu : RowKit.Hid (Que 3 (E + 1) wr (.slice (some ⟨g4, o4 + 1, none⟩) (p - 1) (c4 - 1)) (natI r)) := Lib.hid (by have h := hQt.out; rw [if_neg hc1] at h; exact h)
                clear hQt
                go_wp2_with fail
                go_roundg (2 * Gr.unI N out + r.length)
                case measure => rw [← Hgq.out]; omega
                case rel => exact ⟨r, out, Lib.hid rfl, hQu, hV, hBp, hSm, by omega, hbq, hsz⟩
end Go.Proofs.Yticpbiccgnfecaa

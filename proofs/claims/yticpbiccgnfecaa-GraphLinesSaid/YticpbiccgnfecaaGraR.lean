
/-
  What can be reached: the program's search.
-/
import Derived.Test.YticpbiccgnfecaaGraC
import Derived.Deep.LoopGhost
namespace Go.Proofs.Yticpbiccgnfecaa
open Go.RowKit
set_option linter.unusedVariables false

theorem clone_own {ok : Nat → Prop} (B : Nat) (a : Option Addr) (n c : Nat) (l : List Int) (w : World) (hB : w.heap.size = B) (h : Sl EInt ok w a l) (hn : n = l.length) (hl : n ≤ 1000000) :
    Calls Try.prog 27 #[.slice a n c] w fun e w' => ∃ v, e = .returned v ∧ Own EInt 3 B w' v l ∧ Below B w w' := by
  subst hn
  subst hB
  cases a with
  | none =>
    have hl0 : l = [] := by
      cases l with
      | nil => rfl
      | cons x r => obtain ⟨b, o, e, _⟩ := SlI.at h 0 (by simp); cases e
    subst hl0
    refine (shf_slices_Clone_int_nil 0 c w).mono ?_
    rintro e w' ⟨rfl, rfl⟩
    exact ⟨_, rfl, Own.nil _ _ _ _, Below.refl _ _⟩
  | some p =>
    have mk : ∀ {w' : World} {v : Value} {n : Nat} {l : List Int}, n = l.length → (∀ x ∈ l, -9223372036854775808 ≤ x ∧ x ≤ 9223372036854775807) → w'.ownsRow w.heap.size 3 1 v n (l.map (Value.int .i64)) → Own EInt 3 w.heap.size w' v l := by
      intro w' v n l hn hr ho
      subst hn
      refine Own.of_row (E := EInt) ho fun k x hx => ⟨[.int .i64 x], ⟨rfl, hr x (List.mem_of_getElem? hx)⟩, fun j u hj => ?_⟩
      have hj0 : j = 0 := by have := (List.getElem?_eq_some_iff.1 hj).1; simp at this; exact this
      subst hj0
      simp at hj; subst hj
      show (l.map (Value.int .i64))[k * 1 + 0]? = _
      rw [Nat.mul_one, Nat.add_zero, List.getElem?_map, hx]; rfl
    have hrange : ∀ x ∈ l, -9223372036854775808 ≤ x ∧ x ≤ 9223372036854775807 := fun x hx => by
      obtain ⟨k, hk, rfl⟩ := List.mem_iff_getElem.1 hx
      obtain ⟨_, _, _, _, h1, h2⟩ := SlI.at h k hk
      exact ⟨h1, h2⟩
    by_cases h0 : l.length = 0
    · have : l = [] := List.eq_nil_of_length_eq_zero h0
      subst this
      refine (shf_slices_Clone_int_zero p c w).mono ?_
      rintro e w' ⟨v, rfl, ho, _, hb⟩
      exact ⟨v, rfl, mk (l := []) rfl (by simp) ho, hb⟩
    · obtain ⟨b, o, e, hc⟩ := SlI.all h (by omega)
      injection e with e
      subst e
      refine (shf_slices_Clone_int b o l.length c l w (Nat.le_refl _) (by omega) (fun j hj => by rw [hc j hj]; simp [List.getD, hj])).mono ?_
      rintro e w' ⟨v, rfl, ho, _, hb⟩
      rw [List.take_length] at ho
      exact ⟨v, rfl, mk rfl hrange ho, hb⟩

theorem Mtx.low {ts tb : Nat} {w w1 : World} {g n m k : Nat} {rows cp : Nat → Nat} {f : Nat → Nat → Bool} (h : Mtx ts tb w g n m k rows cp f) {D : Nat} (hg : g < D) (hr : ∀ i, i < k → rows i < D) (hb : ∀ b, b < D → w1.heap[b]? = w.heap[b]?) : Mtx ts tb w1 g n m k rows cp f :=
  ⟨h.vec.keep (hb g hg), fun i hi => (h.row i hi).keep (hb _ (hr i hi)), h.cap, h.far, h.dis, h.kn⟩
theorem Rows.low {w w' : World} {D g n : Nat} {vs : Nat → Value} {ls : Nat → List Int} (h : Rows w g n vs ls) (hD : w.heap.size = D) (hb : Below D w w') : Rows w' g n vs ls := by
  subst hD; exact h.below hb

/-- a table of bools comes back, in new memory -/
def MtxPost (B N : Nat) (f : Nat → Nat → Bool) (w : World) (e : Ending) (w' : World) : Prop :=
  ∃ g rows cp, e = .returned (.slice (some ⟨g, 0, none⟩) N N) ∧ Mtx 33 4 w' g N N N rows cp f ∧ Below B w w'

def natI (l : List Nat) : List Int := l.map fun (x : Nat) => (x : Int)
theorem natI_len (l : List Nat) : (natI l).length = l.length := by unfold natI; rw [List.length_map]

theorem updB_row (k v : Nat) (f : Nat → Bool) (g : Nat → Nat → Bool) (i j : Nat) : updB (fun i => if i = k then f else g i) k v true i j = (if i = k then Gr.markB f v else g i) j := by
  unfold updB Gr.markB
  by_cases e : i = k
  · subst e; simp
  · simp [e]
theorem unB_step {N : Nat} {f : Nat → Bool} {v : Nat} (hv : v < N) (hf : f v = false) : Gr.unB N f = Gr.unB N (Gr.markB f v) + 1 := Gr.unB_mark hv hf

set_option maxRecDepth 4096 in
set_option maxHeartbeats 1600000 in
theorem graph_Reach (B : Nat) (n : Int) (N : Nat) (a : Option Addr) (m c : Nat) (l : List (Int × Int)) (w : World) (hB : w.heap.size = B) (hr : RS EArc w a m l) (hN : min (max n 0) 400 = (N : Int)) (hl : m ≤ 100000) :
    Calls Try.prog 15 #[.int .i64 n, .slice a m c] w (MtxPost B N (Gr.wayB (Gr.T N l) N) w) := by
  have hNl : N ≤ 400 := by omega
  have HN := Lib.hid hN
  have hN0 : (0 : Int) ≤ (N : Int) := by omega
  have hN1 : (N : Int) ≤ 400 := by omega
  clear hN
  have hmk := run_make_row' (P := Try.prog) 29 33 (.slice none 0 0) 24 Try.underlying29 (by kernel_rfl) rfl .i64 .i64 N (by omega) (by omega)
  have hmk2 := run_make_row' (P := Try.prog) 33 4 (.bool false) 1 Try.underlying33 (by kernel_rfl) rfl .i64 .i64 N (by omega) (by omega)
  go_enter Try.func15, Try.ntmps15
  go_wp2_with fail
  refine (graph_size n _).mono ?_
  rintro e w' ⟨rfl, rfl⟩
  rw [HN.out]
  go_wp2_with fail
  refine (graph_next B N a m c l _ hB hr (by omega) hl).mono ?_
  rintro e w2 ⟨rfl, ⟨vs, hR⟩, hb⟩
  obtain ⟨D, hD⟩ : ∃ D, D = w2.heap.size := ⟨_, rfl⟩
  have HR := Lib.hid hR
  have Hb := Lib.hid hb
  have HB := Lib.hid hB
  obtain ⟨R, hRe⟩ : ∃ R, R = Gr.T N l := ⟨_, rfl⟩
  have hbd : Gr.Bd N R := by rw [hRe]; exact Gr.T_bd N l
  rw [← hRe] at HR ⊢
  have hgr := Mtx.made (ts := 33) (tb := 4) w2 N N (fun _ => 0) (fun _ => 0) (Gr.wayB R N)
  have hb0 := alloc_below w2 (.cells (madeCells #[.slice none 0 0] N) 33)
  obtain ⟨w3, hw3⟩ : ∃ x, x = w2.alloc (.cells (madeCells #[.slice none 0 0] N) 33) := ⟨_, rfl⟩
  have hex3 := hw3.symm
  rw [← hw3] at hgr hb0
  rw [← hD] at hgr hb0
  have HD := Lib.hid hD
  have HRe := Lib.hid hRe
  clear hR hb hB hr hw3 hRe
  go_upto_region 4 with fail
  rw [← hD]
  clear hex3 hD hmk
  go_wp2_with fail
  go_loopw [19] (fun i wr => ∃ k : Nat, k ≤ N ∧ i = .int .i64 k ∧ (∃ rows cp, Mtx 33 4 wr D N N k rows cp (Gr.wayB R N)) ∧ Below D w2 wr) (fun i _ => N - (intOf i).toNat)
  case atStart => exact ⟨0, Nat.zero_le _, rfl, ⟨_, _, hgr⟩, hb0⟩
  case round =>
    clear hgr hb0
    obtain ⟨k, hk, rfl, ⟨rows, cp, hM⟩, hb⟩ := hrel
    by_cases hlt : k < N
    · have hki : (k : Int) < (N : Int) := by omega
      have hk0 : (0 : Int) ≤ (k : Int) := by omega
      have hgw := hM.vec.lt
      obtain ⟨w5, hw5⟩ : ∃ x, x = wr.alloc (.cells (madeCells #[.bool false] N) 4) := ⟨_, rfl⟩
      have hb5 : Below wr.heap.size wr w5 := by subst hw5; exact alloc_below wr _
      have hv5 : Vec w5 wr.heap.size 4 N (fun _ => .bool false) := by subst hw5; exact Vec.made wr _ _ N
      have hM5 := (hM.push hlt hb5 (Nat.le_refl _) (c := N) (q := fun _ => false) hv5 ⟨Nat.le_refl _, by unfold maxLen; omega⟩)
      have hx2 : w5.cell? ⟨D, k, none⟩ = some (.slice none 0 0) := by
        have := (hM.vec.below hb5).cell hlt
        rw [if_neg (by omega)] at this; exact this
      have hxf : w5.frozen? ⟨D, k, none⟩ = false := (hM.vec.below hb5).free k
      have hbn : Below D w2 (w5.setCell ⟨D, k, none⟩ (.slice (some ⟨wr.heap.size, 0, none⟩) N N)) := (hb.trans (hb5.mono (by omega))).setCell (Nat.le_refl _) _
      have q1 := cell_thru (HR.out.cell k hlt) (by rw [← HD.out]; exact hbn)
      obtain ⟨a3, c3, hv3, hc31, hc32, hs31⟩ := (HR.out.low HD.out.symm hbn).row k hlt
      have hrl := Gr.rowI_le N R k
      rw [hv3] at q1
      obtain ⟨rows', hrows'⟩ : ∃ x : Nat → Nat, x = fun i => if i = k then wr.heap.size else rows i := ⟨_, rfl⟩
      obtain ⟨cp', hcp'⟩ : ∃ x : Nat → Nat, x = fun i => if i = k then N else cp i := ⟨_, rfl⟩
      rw [← hrows', ← hcp'] at hM5
      obtain ⟨w6, hw6⟩ : ∃ x, x = w5.setCell ⟨D, k, none⟩ (.slice (some ⟨wr.heap.size, 0, none⟩) N N) := ⟨_, rfl⟩
      have hw6' := hw6.symm
      rw [← hw6] at hM5 hbn q1 hs31
      have HM5 := Lib.hid hM5
      have Hbn := Lib.hid hbn
      have Hs31 := Lib.hid hs31
      have hw5' := hw5.symm
      clear hM hb hb5 hv5 hM5 hbn hw5 hw6 hs31 hv3 hrows' hcp'
      go_upto_region 8 with fail
      clear hmk2 hw5' hw6' hx2 hxf
      go_wp2_with fail
      refine (clone_own _ a3 _ c3 (Gr.rowI N R k) _ rfl Hs31.out rfl (by omega)).mono ?_
      rintro e w7 ⟨v7, rfl, ho7, hb7⟩
      have hM7 := HM5.out.below hb7
      have hlr : ∀ i, i < k + 1 → rows' i < w6.heap.size := fun i hi => (HM5.out.row i hi).lt
      have hlg : D < w6.heap.size := HM5.out.vec.lt
      have hb07 : Below D w2 w7 := Hbn.out.trans (hb7.mono (by omega))
      have hd0 : Gr.Dfs N R k (Gr.rowN N R k) (fun _ => false) := Gr.Dfs.start hbd k fun _ => rfl
      obtain ⟨D2, hD2⟩ : ∃ x, x = w6.heap.size := ⟨_, rfl⟩
      rw [← hD2] at ho7 hb7 hlr hlg
      have hsz7 : D2 ≤ w7.heap.size := by rw [hD2]; exact hb7.size
      have HM7 := Lib.hid hM7
      have Ho7 := Lib.hid ho7
      have Hlr := Lib.hid hlr
      have Hb07 := Lib.hid hb07
      have Hd0 := Lib.hid hd0
      have hrl0 := Gr.row_len N R k
      clear hM7 ho7 hlr hb07 hd0 hb7 hD2 q1
      go_wp2_with fail
      go_loopg [8] (Gr.unB N (fun _ => false) * (N + 1) + (Gr.rowN N R k).length) (fun gn v wr2 => ∃ (td : List Nat) (f : Nat → Bool), RowKit.Hid (gn = Gr.unB N f * (N + 1) + td.length) ∧ Own EInt 3 D2 wr2 v (natI td) ∧ RowKit.Hid (Mtx 33 4 wr2 D N N (k + 1) rows' cp' (fun i => if i = k then f else Gr.wayB R N i)) ∧ RowKit.Hid (Gr.Dfs N R k td f) ∧ Gr.unB N f * N + td.length ≤ N * N + N ∧ Below D w2 wr2 ∧ D2 ≤ wr2.heap.size)
      case atStart => exact ⟨Gr.rowN N R k, fun _ => false, Lib.hid rfl, Ho7.out, Lib.hid HM7.out, Lib.hid Hd0.out, by have := Nat.mul_le_mul_right N (Gr.unB_le N (fun _ => false)); omega, Hb07.out, hsz7⟩
      case round =>
        clear HM7 Ho7 Hd0 Hb07 hsz7
        obtain ⟨td, f, hgn, ho, hMx, hdf, hbnd, hbw, hsz⟩ := hrel
        rcases List.eq_nil_or_concat td with htd | ⟨t, v, htd⟩
        · subst htd
          obtain ⟨a4, c4, rfl, _, _, _, _⟩ := ho.shape 0 (by rw [natI_len]; rfl)
          have hMf := hMx.out.congr (f' := Gr.wayB R N) fun i j hi hj => by
            by_cases e : i = k
            · rw [if_pos e, e]; exact hdf.out.fin j
            · rw [if_neg e]
          have HMf := Lib.hid hMf
          clear hMf hMx hdf hgn hbnd ho
          go_wp2_with fail
          go_roundw
          case rel => exact ⟨k + 1, by omega, by go_num, ⟨rows', cp', HMf.out⟩, hbw⟩
          case measure => simp [intOf]; omega
        · rw [List.concat_eq_append] at htd
          subst htd
          have hv : v < N := hdf.out.lt v (by simp)
          have hNN : N * N ≤ 160000 := Nat.mul_le_mul hNl hNl
          have hlen : (natI (t ++ [v])).length = t.length + 1 := by rw [natI_len]; simp
          obtain ⟨q, hq⟩ : ∃ q, q = t.length := ⟨_, rfl⟩
          have hqb : q ≤ 170000 := by rw [hq]; simp only [List.length_append, List.length_cons, List.length_nil] at hbnd; omega
          obtain ⟨p, hp⟩ : ∃ p, p = q + 1 := ⟨_, rfl⟩
          obtain ⟨a4, c4, rfl, hc4, hm4, hr4, ho4⟩ := ho.shape p (by rw [hlen, hp, hq])
          obtain ⟨b4, o4, rfl, p4, r41, r42⟩ := SlI.at hr4.2 q (by rw [hlen]; omega)
          have hval : (natI (t ++ [v]))[q]'(by rw [hlen]; omega) = (v : Int) := by simp [natI, hq]
          rw [hval] at p4
          have hpq : (p : Int) - 1 = (q : Int) := by omega
          have hpw : IntKind.i64.wrap ((p : Int) - 1) = (q : Int) := by rw [IntWalk.i64_in _ (by omega)]; exact hpq
          have hp0 : (0 : Int) < (p : Int) := by omega
          have hq0 : (0 : Int) ≤ (q : Int) := by omega
          have hqp : (q : Int) < (p : Int) := by omega
          have hqc : (q : Int) ≤ (c4 : Int) := by omega
          have hcb : (c4 : Int) ≤ 9223372036854775807 := by unfold maxLen at hm4; omega
          have hot : Own EInt 3 D2 wr (.slice (some ⟨b4, o4, none⟩) q c4) (natI t) := by
            have := Own.takeI ho4 (k := q) (by rw [hlen]; omega)
            have e : (natI (t ++ [v])).take q = natI t := by simp [natI, hq]
            rw [e] at this; exact this
          have y2 := hMx.out.cell (Nat.lt_succ_self k)
          have y3 := hMx.out.at (Nat.lt_succ_self k) hv
          rw [if_pos rfl] at y3
          have yf := (hMx.out.row k (Nat.lt_succ_self k)).free v
          have hcap := hMx.out.cap k (Nat.lt_succ_self k)
          have hrk := Hlr.out k (Nat.lt_succ_self k)
          have hfar := hMx.out.far k (Nat.lt_succ_self k)
          obtain ⟨rk, hrkE⟩ : ∃ x, x = rows' k := ⟨_, rfl⟩
          obtain ⟨ck, hckE⟩ : ∃ x, x = cp' k := ⟨_, rfl⟩
          obtain ⟨fv, hfv⟩ : ∃ x, x = f v := ⟨_, rfl⟩
          rw [← hrkE, ← hckE] at y2
          rw [← hrkE, ← hfv] at y3
          rw [← hrkE] at yf hrk hfar
          have hN2 : (v : Int) < (N : Int) := by omega
          have hv0 : (0 : Int) ≤ (v : Int) := by omega
          have Hot := Lib.hid hot
          have Hq := Lib.hid hq
          have HrkE := Lib.hid hrkE
          have Hfv := Lib.hid hfv
          have Hm4 := Lib.hid hm4
          clear r41 r42
          clear hp hlen hval ho4 hot hr4 ho hq hrkE hckE hfv hcap hm4
          cases fv
          · have hgn' := unB_step (N := N) (f := f) (v := v) hv Hfv.out.symm
            have HMn := Lib.hid (hMx.out.put (j := v) (Nat.lt_succ_self k) true)
            have Hdn := Lib.hid (hdf.out.new hbd)
            obtain ⟨a5, c5, hv5, hc51, hc52, hs51⟩ := HR.out.row v hv
            have z1 := cell_thru (HR.out.cell v hv) (by rw [← HD.out]; exact hbw)
            rw [hv5] at z1
            have hrl5 := Gr.rowI_le N R v
            have hb8 : Below D w2 (wr.setCell ⟨rk, v, none⟩ (.bool true)) := hbw.setCell (by show D ≤ rk; omega) _
            have hneb : some rk ≠ (Value.slice (some ⟨b4, o4, none⟩) q c4).ownBlock := fun e => by have := (Hot.out.lt rk e.symm).1; omega
            have ho8 : Own EInt 3 D2 (wr.setCell ⟨rk, v, none⟩ (.bool true)) (.slice (some ⟨b4, o4, none⟩) q c4) (natI t) :=
              OwnI.stay Hot.out fun g hg => heap_setOther _ (fun e => hneb (by rw [← e]; exact hg.symm)) _ _
            have hs8 : Sl EInt (fun b => some b ≠ (Value.slice (some ⟨b4, o4, none⟩) q c4).ownBlock) (wr.setCell ⟨rk, v, none⟩ (.bool true)) a5 (Gr.rowI N R v) :=
              hs51.mono (by decide) fun b _ hb => ⟨hb8.block b (by rw [HD.out]; exact hb), fun e => by have := (Hot.out.lt b e.symm).1; have := HD.out; omega⟩
            obtain ⟨w9, hw9⟩ : ∃ x, x = wr.setCell ⟨rk, v, none⟩ (.bool true) := ⟨_, rfl⟩
            have hw9' := hw9.symm
            rw [← hw9] at hb8 ho8 hs8
            rw [← HrkE.out, ← hw9] at HMn
            have hsz9 : D2 ≤ w9.heap.size := by rw [hw9]; simpa using hsz
            have z2 : w9.cell? ⟨B, v, none⟩ = some (.slice a5 (Gr.rowI N R v).length c5) := by
              rw [cell_keep (hb8.block B (by rw [HD.out]; exact cell_lt (HR.out.cell v hv)))]
              rw [← hv5]; exact HR.out.cell v hv
            have Hb8 := Lib.hid hb8
            have Ho8 := Lib.hid ho8
            have Hs8 := Lib.hid hs8
            have Hgn := Lib.hid hgn'
            clear hw9 hb8 ho8 hs8 hneb hs51 hv5 hgn' hMx hdf z1
            go_upto_region 14 with fail
            clear hw9' y2 y3 yf p4
            go_wp2_with (refine wpList_app EInt rfl rfl rfl rfl ti_ints Ho8.out rfl Hs8.out ?_ ?_ ?_ ?_)
            · rw [natI_len, ← Hq.out]; unfold maxLen; omega
            · rw [natI_len, ← Hq.out]; omega
            · exact hsz9
            · intro v10 w10 ho10 hg10 hv10 hb10
              have hMl := HMn.out.low (w1 := w10) hlg Hlr.out hb10.block
              have hb010 : Below D w2 w10 := Hb8.out.trans (hb10.mono (by omega))
              have hsz10 : D2 ≤ w10.heap.size := Nat.le_trans hsz9 hb10.size
              have hlist : natI t ++ Gr.rowI N R v = natI (t ++ Gr.rowN N R v) := by unfold natI Gr.rowI; rw [List.map_append]
              rw [hlist] at ho10
              have hMl' := hMl.congr (f' := fun i => if i = k then Gr.markB f v else Gr.wayB R N i) fun i j _ _ => by
                exact updB_row _ _ _ _ _ _
              have HMl' := Lib.hid hMl'
              have Ho10 := Lib.hid ho10
              clear hMl hMl' hlist ho10 hg10 hv10 hb10
              go_wp2_with fail
              have hrl6 := Gr.row_len N R v
              have hgn2 := hgn.out
              have hgn3 := Hgn.out
              simp only [List.length_append, List.length_cons, List.length_nil] at hgn2 hbnd
              go_roundg (Gr.unB N (Gr.markB f v) * (N + 1) + (t ++ Gr.rowN N R v).length)
              case measure => rw [hgn2, hgn3, Nat.add_mul, List.length_append]; omega
              case rel => exact ⟨t ++ Gr.rowN N R v, Gr.markB f v, Lib.hid rfl, Ho10.out, HMl', Hdn, by rw [hgn3, Nat.add_mul] at hbnd; rw [List.length_append]; omega, hb010, hsz10⟩
          · have hdo := Lib.hid (hdf.out.old Hfv.out.symm)
            have hgn2 := hgn.out
            simp only [List.length_append, List.length_cons, List.length_nil] at hgn2 hbnd
            have Hgn2 := Lib.hid hgn2
            clear hgn2 hdf
            go_wp2_with fail
            go_roundg (Gr.unB N f * (N + 1) + t.length)
            case measure => rw [Hgn2.out]; omega
            case rel => exact ⟨t, f, Lib.hid rfl, Hot.out, hMx, hdo, by omega, hbw, hsz⟩
    · have hki : ¬ ((k : Int) < (N : Int)) := by omega
      obtain rfl : k = N := by omega
      rw [HRe.out] at hM
      go_wp2_with fail
      go_ret
      exact ⟨D, rows, cp, rfl, hM, Hb.out.trans (hb.mono (by rw [HD.out]; have := Hb.out.size; rw [HB.out] at this; exact this))⟩
end Go.Proofs.Yticpbiccgnfecaa

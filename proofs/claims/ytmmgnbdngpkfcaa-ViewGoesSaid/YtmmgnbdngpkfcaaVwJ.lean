/-
  The library's sort of numbers. (Its contract was laid by the kit's lay-shelf and lay-plain, for this claim.)
  A member feeds another one; it sends to all; it counts: walked.
-/
import Derived.Shelf.Sort.Plain
import Derived.Shelf.Slices.In.SortNone
import Derived.Test.YtmmgnbdngpkfcaaBas
import Derived.Test.YtmmgnbdngpkfcaaVwE
import Derived.Test.YtmmgnbdngpkfcaaVwF
import Derived.Test.YtmmgnbdngpkfcaaVwH
namespace Go.Proofs.Ytmmgnbdngpkfcaa
def shf_lays189_ren : Go.Shelf.Ren := ⟨fun | 189 => 134 | 125 => 150 | 257 => 149 | 128 => 162 | 129 => 131 | 294 => 153 | 295 => 154 | 296 => 155 | 297 => 156 | 298 => 157 | 299 => 158 | 216 => 159 | 300 => 160 | 301 => 161 | 328 => 163 | 329 => 164 | 330 => 165 | 331 => 166 | 332 => 167 | 215 => 168 | 343 => 169 | n => n, fun | 28 => 29 | 3 => 3 | 46 => 168 | 0 => 0 | 51 => 174 | 53 => 54 | 4 => 4 | 183 => 206 | 182 => 205 | 131 => 135 | 5 => 5 | 9 => 9 | 218 => 213 | 222 => 216 | 228 => 218 | 229 => 219 | n => n, fun | n => n⟩
theorem shf_lays189 : Go.Proofs.Lays.n189 Try.prog shf_lays189_ren := {
  mixed := by kernel_rfl
  f125 := Try.func150.trans (congrArg some (by kernel_rfl))
  f128 := Try.func162.trans (congrArg some (by kernel_rfl))
  f129 := Try.func131.trans (congrArg some (by kernel_rfl))
  f189 := Try.func134.trans (congrArg some (by kernel_rfl))
  f215 := Try.func168.trans (congrArg some (by kernel_rfl))
  f216 := Try.func159.trans (congrArg some (by kernel_rfl))
  f257 := Try.func149.trans (congrArg some (by kernel_rfl))
  f294 := Try.func153.trans (congrArg some (by kernel_rfl))
  f295 := Try.func154.trans (congrArg some (by kernel_rfl))
  f296 := Try.func155.trans (congrArg some (by kernel_rfl))
  f297 := Try.func156.trans (congrArg some (by kernel_rfl))
  f298 := Try.func157.trans (congrArg some (by kernel_rfl))
  f299 := Try.func158.trans (congrArg some (by kernel_rfl))
  f300 := Try.func160.trans (congrArg some (by kernel_rfl))
  f301 := Try.func161.trans (congrArg some (by kernel_rfl))
  f328 := Try.func163.trans (congrArg some (by kernel_rfl))
  f329 := Try.func164.trans (congrArg some (by kernel_rfl))
  f330 := Try.func165.trans (congrArg some (by kernel_rfl))
  f331 := Try.func166.trans (congrArg some (by kernel_rfl))
  f332 := Try.func167.trans (congrArg some (by kernel_rfl))
  f343 := Try.func169.trans (congrArg some (by kernel_rfl))
  t0 := Try.underlying0
  a0 := Try.isAgg0
  z0 := Try.sizeOf0
  v0 := Try.zeroValue0
  t3 := Try.underlying3
  a3 := Try.isAgg3
  z3 := Try.sizeOf3
  v3 := Try.zeroValue3
  t4 := Try.underlying4
  a4 := Try.isAgg4
  z4 := Try.sizeOf4
  v4 := Try.zeroValue4
  t5 := Try.underlying5
  a5 := Try.isAgg5
  z5 := Try.sizeOf5
  v5 := Try.zeroValue5
  t9 := Try.underlying9
  a9 := Try.isAgg9
  z9 := Try.sizeOf9
  v9 := Try.zeroValue9
  t28 := Try.underlying29
  a28 := Try.isAgg29
  z28 := Try.sizeOf29
  v28 := Try.zeroValue29
  t46 := Try.underlying168
  a46 := Try.isAgg168
  z46 := Try.sizeOf168
  v46 := Try.zeroValue168
  t51 := Try.underlying174
  a51 := Try.isAgg174
  z51 := Try.sizeOf174
  v51 := Try.zeroValue174
  t53 := Try.underlying54
  a53 := Try.isAgg54
  z53 := Try.sizeOf54
  v53 := Try.zeroValue54
  t131 := Try.underlying135
  a131 := Try.isAgg135
  z131 := Try.sizeOf135
  v131 := Try.zeroValue135
  t182 := Try.underlying205
  a182 := Try.isAgg205
  z182 := Try.sizeOf205
  v182 := Try.zeroValue205
  t183 := Try.underlying206
  a183 := Try.isAgg206
  z183 := Try.sizeOf206
  v183 := Try.zeroValue206
  t218 := Try.underlying213
  a218 := Try.isAgg213
  z218 := Try.sizeOf213
  v218 := Try.zeroValue213
  t222 := Try.underlying216
  a222 := Try.isAgg216
  z222 := Try.sizeOf216
  v222 := Try.zeroValue216
  t228 := Try.underlying218
  a228 := Try.isAgg218
  z228 := Try.sizeOf218
  v228 := Try.zeroValue218
  t229 := Try.underlying219
  a229 := Try.isAgg219
  z229 := Try.sizeOf219
  v229 := Try.zeroValue219 }
open Go.Sort Go.RowKit in
theorem shf_slices_Sort_int (blk off cap : Nat) (zs : List Int) (w : World) (hH : Holds (Value.int .i64) w blk off zs.toArray) (hblk : blk < w.heap.size) (hsz : zs.length < 4611686018427387904) :
    Calls Try.prog 134 #[.slice (some ⟨blk, off, none⟩) zs.length cap] w fun e w' =>
      e = .returned (.tuple #[]) ∧ ∃ n os, w' = grow (putRow (Value.int .i64) (Sort.ahead w n) blk off (zs.mergeSort fun x y => decide (x ≤ y)).toArray) os := Any.slices_Sort_int shf_lays189 blk off cap zs w hH hblk hsz
open Go.RowKit Go.Sort in
theorem shf_slices_Sort_int_none (p : Option Addr) (cap : Nat) (w : World) :
    Calls Try.prog 134 #[.slice p 0 cap] w fun e w' => e = .returned (.tuple #[]) ∧ w' = w := Any.slices_Sort_int_none shf_lays189 p cap w
open Go.RowKit
set_option linter.unusedVariables false
namespace Vw
def msort (zs : List Int) : List Int := zs.mergeSort fun x y => decide (x ≤ y)
theorem msort_len (zs : List Int) : (msort zs).length = zs.length := List.length_mergeSort _
theorem mem_msort (zs : List Int) (x : Int) : x ∈ msort zs ↔ x ∈ zs := List.mem_mergeSort
end Vw
theorem ownI_range {te base : Nat} {w : World} {v : Value} {l : List Int} (h : Own EInt te base w v l) : ∀ x ∈ l, -9223372036854775808 ≤ x ∧ x ≤ 9223372036854775807 := by
  intro x hx
  obtain ⟨k, hk, rfl⟩ := List.mem_iff_getElem.1 hx
  obtain ⟨a, c, _, _, _, hs⟩ := h.sl
  obtain ⟨b, o, _, _, h1, h2⟩ := SlI.at hs k hk
  exact ⟨h1, h2⟩
theorem own_put {te base : Nat} {w : World} {g n c : Nat} {l l' : List Int} (h : Own EInt te base w (.slice (some ⟨g, 0, none⟩) n c) l) (hl : l'.length = l.length) (hr : ∀ x ∈ l', -9223372036854775808 ≤ x ∧ x ≤ 9223372036854775807) (q : Nat) (os : Array Obj) :
    Own EInt te base (Sort.grow (Sort.putRow (Value.int .i64) (Sort.ahead w q) g 0 l'.toArray) os) (.slice (some ⟨g, 0, none⟩) n c) l' ∧ w.grownBy (Sort.grow (Sort.putRow (Value.int .i64) (Sort.ahead w q) g 0 l'.toArray) os) (some g) := by
  rcases h with ⟨h0, _⟩ | ⟨g', cap, cur, hv, hg, hh, h1, h2, h3, h4⟩
  · cases h0
  · injection hv with e1 e2 e3
    injection e1 with e1
    injection e1 with e1
    subst e1; subst e2; subst e3
    have hlt : g < w.heap.size := (Array.getElem?_eq_some_iff.1 hh).1
    have hz : cur.size = c := by rw [h3]; show c * 1 = c; omega
    constructor
    · refine .inr ⟨g, c, Sort.putCells (Value.int .i64) 0 l'.toArray cur, by rw [hl], hg, ?_, by omega, h2, by simp [Sort.putCells, h3], fun k x hx => ?_⟩
      · rw [Sort.heap_grow_old _ _ (by simpa [Sort.putRow, Sort.mapBlock, Sort.ahead] using hlt)]
        simp [Sort.putRow, Sort.mapBlock, Sort.ahead, Array.getElem?_modify, hh, Sort.onCells]
      · obtain ⟨hk, rfl⟩ := List.getElem?_eq_some_iff.1 hx
        refine ⟨[.int .i64 l'[k]], ⟨rfl, hr _ (List.getElem_mem hk)⟩, fun j u hj => ?_⟩
        have hj0 : j = 0 := by have := (List.getElem?_eq_some_iff.1 hj).1; simp at this; exact this
        subst hj0
        simp at hj; subst hj
        have hkc : k < cur.size := by omega
        show (Sort.putCells (Value.int .i64) 0 l'.toArray cur)[k * 1 + 0]? = _
        rw [Nat.mul_one, Nat.add_zero]
        simp [Sort.putCells, Array.getElem?_mapIdx, Array.getElem?_eq_getElem hkc, hk]
    · refine ⟨rfl, rfl, rfl, by simp [Sort.putRow, Sort.mapBlock, Sort.ahead], fun k hk hne => ?_⟩
      rw [Sort.heap_grow_old _ _ (by simpa [Sort.putRow, Sort.mapBlock, Sort.ahead] using hk)]
      simp only [Sort.putRow, Sort.mapBlock, Sort.ahead, Array.getElem?_modify]
      rw [if_neg fun e => hne (by rw [e])]
theorem own_holds {te base : Nat} {w : World} {g n c : Nat} {l : List Int} (h : Own EInt te base w (.slice (some ⟨g, 0, none⟩) n c) l) : Sort.Holds (Value.int .i64) w g 0 l.toArray := by
  rcases h with ⟨h0, _⟩ | ⟨g', cap, cur, hv, hg, hh, h1, h2, h3, h4⟩
  · cases h0
  · injection hv with e1 e2 e3
    injection e1 with e1
    injection e1 with e1
    subst e1; subst e2; subst e3
    intro j hj
    have hj' : j < l.length := by simpa using hj
    obtain ⟨cs, hr, hc⟩ := h4 j l[j] (List.getElem?_eq_getElem hj')
    obtain ⟨hr', _⟩ := hr
    subst hr'
    have h5 := hc 0 _ rfl
    have h6 : cur[j]? = some (.int .i64 l[j]) := by simpa [EInt] using h5
    refine ⟨?_, by simp [World.frozen?, hh]⟩
    rw [getElem!_pos _ j hj]
    simp [World.cell?, hh, h6]
theorem sort_own {te base : Nat} {w : World} {v : Value} {l : List Int} (h : Own EInt te base w v l) (hl : l.length ≤ 1000000) :
    Calls Try.prog 134 #[v] w fun e w' => e = .returned (.tuple #[]) ∧ Own EInt te base w' v (Vw.msort l) ∧ w.grownBy w' v.ownBlock := by
  rcases id h with ⟨rfl, rfl⟩ | ⟨g, cap, cur, rfl, hg, hh, h1, h2, h3, h4⟩
  · refine (shf_slices_Sort_int_none none 0 w).mono ?_
    rintro e w' ⟨rfl, rfl⟩
    refine ⟨rfl, ?_, World.grownBy.refl _ _⟩
    have : Vw.msort [] = [] := by simp [Vw.msort]
    rw [this]; exact h
  · by_cases h0 : l.length = 0
    · have hl0 : l = [] := List.eq_nil_of_length_eq_zero h0
      subst hl0
      refine (shf_slices_Sort_int_none _ cap w).mono ?_
      rintro e w' ⟨rfl, rfl⟩
      refine ⟨rfl, ?_, World.grownBy.refl _ _⟩
      have : Vw.msort [] = [] := by simp [Vw.msort]
      rw [this]; exact h
    · refine (shf_slices_Sort_int g 0 cap l w (own_holds h) (Array.getElem?_eq_some_iff.1 hh).1 (by omega)).mono ?_
      rintro e w' ⟨rfl, q, os, rfl⟩
      obtain ⟨p1, p2⟩ := own_put h (Vw.msort_len l) (fun x hx => ownI_range h x ((Vw.mem_msort l x).1 hx)) q os
      exact ⟨rfl, p1, p2⟩
end Go.Proofs.Ytmmgnbdngpkfcaa

namespace Go.Proofs.Ytmmgnbdngpkfcaa
open Go.RowKit
set_option linter.unusedVariables false

theorem VwTo.below {M : Col} {w w1 : World} {g : Nat} {c : Vw.Core} (h : VwAt M w g c) (hb : Below w.heap.size w w1) : VwTo M w w1 g c := by
  obtain ⟨L, h⟩ := h
  exact ⟨M, ⟨L, h.below hb⟩, Fr.of_below hb⟩
theorem VwTo.trans {M M1 : Col} {w w1 w2 : World} {g : Nat} {c : Vw.Core} (f : Fr M w M1 w1) (h : VwTo M1 w1 w2 g c) : VwTo M w w2 g c := by
  obtain ⟨M2, h, f2⟩ := h
  exact ⟨M2, h, f.trans f2⟩
/-- 'log[i:j]' -/
theorem slice_texts {ok : Nat → Prop} {w : World} {a : Option Addr} {l : List (List (BitVec 8))} {c i j : Nat} (h : Sl EBytes ok w a l) (hij : i ≤ j) (hj : j ≤ l.length) (hc : l.length ≤ c) :
    ∃ a', (∀ W : World, (Instr.slice 50 (.slice a l.length c) (some (.int .i64 i)) (some (.int .i64 j)) none).run Try.prog W = .ok (.slice a' (j - i) (c - i)) W) ∧ Sl EBytes ok w a' ((l.drop i).take (j - i)) := by
  obtain ⟨i0, z, hi, hz, hsz, hby, hzc⟩ := ti_texts.info
  refine ⟨if c = i then a else a.map (·.add (i * 1)), fun W => ?_, ?_⟩
  · have e1 : (0 : Int) ≤ (i : Int) := by omega
    have e2 : ((i : Int) ≤ (j : Int)) := by omega
    have e3 : (j : Int) ≤ (c : Int) := by omega
    have e4 : (0 : Int) ≤ (j : Int) := by omega
    have e5 : i0.size = 1 := hsz
    simp [Instr.slice, run_underlying ti_texts.under, Instr.sliceBounds, run_sliceBound, sizeOf, typeInfo, hi, e5, e3, hij]
  · have := h.cut (c := c) hij hj hc (decide (c = i)) (by simp; omega)
    simp only [decide_eq_true_eq] at this
    exact this
theorem vzero_int (w : World) : (zeroValue 3).run Try.prog w = .ok (.int .i64 0) w := by
  have h : (Try.prog.info? 3).map (fun i => i.zero) = some (some (.int .i64 0)) := by kernel_rfl
  obtain ⟨i, hi, hz⟩ := Option.map_eq_some_iff.1 h
  simp [zeroValue, typeInfo, hi, hz]
/-- one more looked up in 'has' -/
theorem has_look {M : Col} {w : World} {g : Nat} {c : Vw.Core} {L : Lo} (h : VwL M w g c L) (z : Int) (hz : 1 ≤ z ∧ z ≤ 7) :
    ∀ W : World, W.heap = w.heap → (Instr.lookup 129 (.map (some L.hb)) (.int .i64 z) false).run Try.prog W = .ok (.int .i64 (c.has z)) W := by
  intro W hW
  obtain ⟨f, h1, h2, h3⟩ := h.p.has
  have hm : IMap W L.hb 8 f := h1.keep (by rw [hW])
  have := hm.lookup (t := 129) (e := 3) (z := .int .i64 0) Try.underlying129 (vzero_int W) (k := z) (by unfold i64ok; omega)
  rw [this, h2]
set_option maxRecDepth 4096 in
set_option maxHeartbeats 6400000 in
theorem vw_feed {M : Col} {g : Nat} {c : Vw.Core} (w : World) (h : VwAt M w g c) (z : Int) (hz : 1 ≤ z ∧ z ≤ 7) (hlen : c.msgs.length ≤ 1000000) :
    Calls Try.prog 96 #[.pointer (some ⟨g, 0, none⟩), .int .i64 z] w fun e w' => e = .returned (.tuple #[]) ∧ VwTo M w w' g (c.send (c.feedM z)) := by
  obtain ⟨L, h⟩ := h
  have y7 := h.c7
  have y9 := h.c9
  have y11 := h.c11
  have hlk := has_look h z hz w rfl
  have hlk2 := has_look h z hz w.drew rfl
  have hr := h.right.has z
  obtain ⟨at_, hat, hatl⟩ : ∃ at_ : Nat, min (c.has z) (c.keep.log.length : Int) = (at_ : Int) ∧ at_ ≤ c.keep.log.length := ⟨(min (c.has z) (c.keep.log.length : Int)).toNat, by omega, by omega⟩
  have H := Lib.hid h
  have Hat := Lib.hid hat
  clear h hat
  go_enter Try.func96, Try.ntmps96
  go_wp2_with fail
  go_region
  simp only [Hat.out]
  obtain ⟨w2, hw2⟩ : ∃ x, x = w.drew := ⟨_, rfl⟩
  have h2 : VwL M w2 g c L := by rw [hw2]; exact H.out.drew
  have f2 : Fr M w M w2 := by rw [hw2]; exact (Fr.refl M w).drew
  rw [← hw2]
  clear y7 y9 y11 hlk hlk2 hw2
  have y7 := h2.c7
  have y9 := h2.c9
  obtain ⟨e_, he, hel, hee⟩ : ∃ e_ : Nat, min ((at_ : Int) + 8) (c.keep.log.length : Int) = (e_ : Int) ∧ at_ ≤ e_ ∧ e_ ≤ c.keep.log.length := ⟨min (at_ + 8) c.keep.log.length, by omega, by omega, by omega⟩
  have hl2 := h2.right.log.1
  have hadd : IntKind.i64.wrap ((at_ : Int) + 8) = (at_ : Int) + 8 := IntWalk.i64_in _ (by omega)
  obtain ⟨sa, hsl, hss⟩ := slice_texts h2.p.log hel hee h2.p.lc.1
  have hfm : c.feedM z = { Vw.Msg.z with kind := 1, to_ := z, at_ := (at_ : Int), commit := c.commit, list := (c.keep.log.drop at_).take (e_ - at_) } := by
    unfold Vw.Core.feedM
    simp only [Hat.out, Int.toNat_natCast]
    congr 1
    have : e_ = min (at_ + 8) c.keep.log.length := by omega
    rw [List.take_eq_take_iff]
    simp; omega
  have hsn : ((c.keep.log.drop at_).take (e_ - at_)).length = e_ - at_ := by simp; omega
  have hC : Calls Try.prog 132 #[.pointer (some ⟨g, 0, none⟩), .agg #[.int .i64 1, .int .i64 0, .int .i64 z, .int .i64 0, .int .i64 0, .int .i64 0, .int .i64 at_, .int .i64 c.commit, .int .i64 0, .int .i64 0, .slice sa (e_ - at_) (L.lc - at_), .slice none 0 0]] w2.drew fun e w' => e = .returned (.tuple #[]) ∧ VwTo M w2.drew w' g (c.send (c.feedM z)) := by
    rw [hfm]
    refine vw_send w2.drew ⟨L, h2.drew⟩ _ _ ⟨sa, L.lc - at_, none, 0, ?_, ?_, ?_, ⟨Nat.le_refl _, Nat.zero_le _⟩, Sl.nil _ _ _ _⟩ hlen
    · show _ = msgRow _ _ _
      rw [hsn]; rfl
    · rw [hsn]; have := h2.p.lc; omega
    · exact hss.heap (by decide) rfl
  have HC := Lib.hid hC
  have H2 := Lib.hid h2
  have Hf2 := Lib.hid f2
  clear hC h2 f2 hfm hsn hss H Hat
  go_wp2_with fail
  go_region_law ((go_simp; go_at_call 132; refine HC.out.mono ?_; rintro e w4 ⟨rfl, h4⟩))
  all_goals
    have H4 := Lib.hid h4
    clear h4
    go_wp2_with fail
    refine bodyPost_end (v := .tuple #[]) (by simp [results, Try.results96, go_sem]) rfl ?_
    exact ⟨rfl, VwTo.trans Hf2.out.drew H4.out⟩
end Go.Proofs.Ytmmgnbdngpkfcaa

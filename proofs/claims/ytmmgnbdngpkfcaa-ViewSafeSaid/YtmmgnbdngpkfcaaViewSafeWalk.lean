
/-
  A group's step, walked.
  The law ViewSafe, walked.
-/
import Derived.Test.YtmmgnbdngpkfcaaVwHf
import Derived.Test.YtmmgnbdngpkfcaaVwHj3
import Derived.Test.YtmmgnbdngpkfcaaVwHj7
import Derived.Test.YtmmgnbdngpkfcaaVwHl
namespace Go.Proofs.Ytmmgnbdngpkfcaa
open Go.RowKit
set_option linter.unusedVariables false
set_option linter.unusedSimpArgs false

set_option maxRecDepth 1000000 in
set_option maxHeartbeats 0 in
theorem vw_spP4 (C0 : Col) (w0 : World) (gg q i0 : Nat) (cut : Int) (k N I : Int) (x : Vw.Gr) (K : Nat) (C : Col) (L : GrL) (w : World) (HG : RowKit.Hid (GrM C w gg (toGx x) L)) (HK : RowKit.Hid (KpA C0 w0 C w)) (HI : RowKit.Hid (Vw.GrI x K ∧ K ≤ 1000000))
    (HB : RowKit.Hid (Im C q ∧ w.heap[q]? = some (.cells #[.int .i64 k, .int .i64 N, .int .i64 I] 120 (0, 0)))) (HN : RowKit.Hid ((i0 : Int) = N % 65536 % x.n ∧ i0 < x.n ∧ cut = if 6 ≤ k then I % 4 else -1)) (u1 u2 u6 u7 u8 u9 u10 u11 u12 u13 u14 u15 u16 u17 u18 u19 u20 u21 u22 u23 u24 u25 u26 u27 u28 u29 u30 u31 u32 u33 u34 u35 u36 u37 u38 u39 u40 u41 u42 u43 u44 u45 u46 u47 u48 u49 u50 u51 u52 u53 u54 u55 u56 u57 u58 u59 u60 u61 u62 u63 u64 u65 u66 u67 u68 u69 u70 u71 u72 u73 u74 u75 u76 u77 u78 u79 u80 u81 u82 u83 u84 u85 u86 u87 u88 u89 u90 u91 u92 u93 u94 u95 u96 u97 u98 u99 u100 u101 u102 u103 u104 u105 u106 u107 u108 u109 u110 u111 u112 u113 u114 u115 u116 u117 u118 u119 u120 u121 u122 u123 u124 u125 u126 u127 u128 u129 u130 u131 u132 u133 u134 u135 u136 u137 u138 u139 u140 u141 u142 u143 u144 u145 u146 u147 u148 u149 u150 u151 u152 : Value) :
    Code.wp Try.prog spP4 (bodyPost Try.prog Try.f65 fun e w' => e = .returned (.tuple #[]) ∧ GrTo C0 w0 w' gg (toGx (Vw.grStep x k N I))) ⟨#[.pointer (some ⟨gg, 0, none⟩), u1, u2, .pointer (some ⟨q, 0, none⟩), .int .i64 i0, .int .i64 cut, u6, u7, u8, u9, u10, u11, u12, u13, u14, u15, u16, u17, u18, u19, u20, u21, u22, u23, u24, u25, u26, u27, u28, u29, u30, u31, u32, u33, u34, u35, u36, u37, u38, u39, u40, u41, u42, u43, u44, u45, u46, u47, u48, u49, u50, u51, u52, u53, u54, u55, u56, u57, u58, u59, u60, u61, u62, u63, u64, u65, u66, u67, u68, u69, u70, u71, u72, u73, u74, u75, u76, u77, u78, u79, u80, u81, u82, u83, u84, u85, u86, u87, u88, u89, u90, u91, u92, u93, u94, u95, u96, u97, u98, u99, u100, u101, u102, u103, u104, u105, u106, u107, u108, u109, u110, u111, u112, u113, u114, u115, u116, u117, u118, u119, u120, u121, u122, u123, u124, u125, u126, u127, u128, u129, u130, u131, u132, u133, u134, u135, u136, u137, u138, u139, u140, u141, u142, u143, u144, u145, u146, u147, u148, u149, u150, u151, u152], []⟩ w := by
  by_cases h0 : k = 0 ∨ k = 6
  · exact vw_spT0 C0 w0 gg q i0 cut k N I x K C L w HG HK HI HB HN h0 _ _ _ _ _ _ _ _ _ _ _ _ _ _ _ _ _ _ _ _ _ _ _ _ _ _ _ _ _ _ _ _ _ _ _ _ _ _ _ _ _ _ _ _ _ _ _ _ _ _ _ _ _ _ _ _ _ _ _ _ _ _ _ _ _ _ _ _ _ _ _ _ _ _ _ _ _ _ _ _ _ _ _ _ _ _ _ _ _ _ _ _ _ _ _ _ _ _ _ _ _ _ _ _ _ _ _ _ _ _ _ _ _ _ _ _ _ _ _ _ _ _ _ _ _ _ _ _ _ _ _ _ _ _ _ _ _ _ _ _ _ _ _ _ _ _ _ _ _
  by_cases h1 : k = 1
  · exact vw_spM1 C0 w0 gg q i0 cut k N I x K C L w HG HK HI HB HN h1 _ _ _ _ _ _ _ _ _ _ _ _ _ _ _ _ _ _ _ _ _ _ _ _ _ _ _ _ _ _ _ _ _ _ _ _ _ _ _ _ _ _ _ _ _ _ _ _ _ _ _ _ _ _ _ _ _ _ _ _ _ _ _ _ _ _ _ _ _ _ _ _ _ _ _ _ _ _ _ _ _ _ _ _ _ _ _ _ _ _ _ _ _ _ _ _ _ _ _ _ _ _ _ _ _ _ _ _ _ _ _ _ _ _ _ _ _ _ _ _ _ _ _ _ _ _ _ _ _ _ _ _ _ _ _ _ _ _ _ _ _ _ _ _ _ _ _ _ _
  by_cases h2 : k = 2
  · exact vw_spM2 C0 w0 gg q i0 cut k N I x K C L w HG HK HI HB HN h2 _ _ _ _ _ _ _ _ _ _ _ _ _ _ _ _ _ _ _ _ _ _ _ _ _ _ _ _ _ _ _ _ _ _ _ _ _ _ _ _ _ _ _ _ _ _ _ _ _ _ _ _ _ _ _ _ _ _ _ _ _ _ _ _ _ _ _ _ _ _ _ _ _ _ _ _ _ _ _ _ _ _ _ _ _ _ _ _ _ _ _ _ _ _ _ _ _ _ _ _ _ _ _ _ _ _ _ _ _ _ _ _ _ _ _ _ _ _ _ _ _ _ _ _ _ _ _ _ _ _ _ _ _ _ _ _ _ _ _ _ _ _ _ _ _ _ _ _ _
  by_cases h3 : k = 3
  · exact vw_spM3 C0 w0 gg q i0 cut k N I x K C L w HG HK HI HB HN h3 _ _ _ _ _ _ _ _ _ _ _ _ _ _ _ _ _ _ _ _ _ _ _ _ _ _ _ _ _ _ _ _ _ _ _ _ _ _ _ _ _ _ _ _ _ _ _ _ _ _ _ _ _ _ _ _ _ _ _ _ _ _ _ _ _ _ _ _ _ _ _ _ _ _ _ _ _ _ _ _ _ _ _ _ _ _ _ _ _ _ _ _ _ _ _ _ _ _ _ _ _ _ _ _ _ _ _ _ _ _ _ _ _ _ _ _ _ _ _ _ _ _ _ _ _ _ _ _ _ _ _ _ _ _ _ _ _ _ _ _ _ _ _ _ _ _ _ _ _
  by_cases h7 : k = 7
  · exact vw_spM7 C0 w0 gg q i0 cut k N I x K C L w HG HK HI HB HN h7 _ _ _ _ _ _ _ _ _ _ _ _ _ _ _ _ _ _ _ _ _ _ _ _ _ _ _ _ _ _ _ _ _ _ _ _ _ _ _ _ _ _ _ _ _ _ _ _ _ _ _ _ _ _ _ _ _ _ _ _ _ _ _ _ _ _ _ _ _ _ _ _ _ _ _ _ _ _ _ _ _ _ _ _ _ _ _ _ _ _ _ _ _ _ _ _ _ _ _ _ _ _ _ _ _ _ _ _ _ _ _ _ _ _ _ _ _ _ _ _ _ _ _ _ _ _ _ _ _ _ _ _ _ _ _ _ _ _ _ _ _ _ _ _ _ _ _ _ _
  by_cases h4 : k = 4
  · exact vw_spT4 C0 w0 gg q i0 cut k N I x K C L w HG HK HI HB HN h4 _ _ _ _ _ _ _ _ _ _ _ _ _ _ _ _ _ _ _ _ _ _ _ _ _ _ _ _ _ _ _ _ _ _ _ _ _ _ _ _ _ _ _ _ _ _ _ _ _ _ _ _ _ _ _ _ _ _ _ _ _ _ _ _ _ _ _ _ _ _ _ _ _ _ _ _ _ _ _ _ _ _ _ _ _ _ _ _ _ _ _ _ _ _ _ _ _ _ _ _ _ _ _ _ _ _ _ _ _ _ _ _ _ _ _ _ _ _ _ _ _ _ _ _ _ _ _ _ _ _ _ _ _ _ _ _ _ _ _ _ _ _ _ _ _ _ _ _ _
  by_cases h5 : k = 5
  · exact vw_spT5 C0 w0 gg q i0 cut k N I x K C L w HG HK HI HB HN h5 _ _ _ _ _ _ _ _ _ _ _ _ _ _ _ _ _ _ _ _ _ _ _ _ _ _ _ _ _ _ _ _ _ _ _ _ _ _ _ _ _ _ _ _ _ _ _ _ _ _ _ _ _ _ _ _ _ _ _ _ _ _ _ _ _ _ _ _ _ _ _ _ _ _ _ _ _ _ _ _ _ _ _ _ _ _ _ _ _ _ _ _ _ _ _ _ _ _ _ _ _ _ _ _ _ _ _ _ _ _ _ _ _ _ _ _ _ _ _ _ _ _ _ _ _ _ _ _ _ _ _ _ _ _ _ _ _ _ _ _ _ _ _ _ _ _ _ _ _
  · exact vw_spTx C0 w0 gg q i0 cut k N I x K C L w HG HK HI HB HN ⟨h0, by omega, h4, h5⟩ _ _ _ _ _ _ _ _ _ _ _ _ _ _ _ _ _ _ _ _ _ _ _ _ _ _ _ _ _ _ _ _ _ _ _ _ _ _ _ _ _ _ _ _ _ _ _ _ _ _ _ _ _ _ _ _ _ _ _ _ _ _ _ _ _ _ _ _ _ _ _ _ _ _ _ _ _ _ _ _ _ _ _ _ _ _ _ _ _ _ _ _ _ _ _ _ _ _ _ _ _ _ _ _ _ _ _ _ _ _ _ _ _ _ _ _ _ _ _ _ _ _ _ _ _ _ _ _ _ _ _ _ _ _ _ _ _ _ _ _ _ _ _ _ _ _ _ _ _
set_option maxRecDepth 1000000 in
set_option maxHeartbeats 0 in
theorem vw_gstep (gg : Nat) (k N I : Int) (x : Vw.Gr) (K : Nat) (C : Col) (L : GrL) (w : World) (h : GrM C w gg (toGx x) L) (hI : Vw.GrI x K) (hK : K ≤ 1000000) :
    Calls Try.prog 65 #[.pointer (some ⟨gg, 0, none⟩), .agg #[.int .i64 k, .int .i64 N, .int .i64 I]] w fun e w' => e = .returned (.tuple #[]) ∧ GrTo C w w' gg (toGx (Vw.grStep x k N I)) := by
  obtain ⟨w1, hw1⟩ : ∃ w1, w1 = w.alloc (.cells #[.int .i64 k, .int .i64 N, .int .i64 I] 120) := ⟨_, rfl⟩
  obtain ⟨q, hq⟩ : ∃ q, q = w.heap.size := ⟨_, rfl⟩
  have hb1 : Below w.heap.size w w1 := by rw [hw1]; exact alloc_below _ _
  have hh1 : w1.heap[q]? = some (.cells #[.int .i64 k, .int .i64 N, .int .i64 I] 120 (0, 0)) := by rw [hw1, hq]; exact heap_alloc_new w _
  have hqi : Im C q := Classical.byContradiction fun h' => by have := h.p.dom _ h'; omega
  have m1 := h.below hb1
  have k1 : KpA C w C w1 := KpA.below h hb1
  obtain ⟨n, hn⟩ : ∃ n, n = x.n := ⟨_, rfl⟩
  have hnn := hI.2.2.2.1
  have y0 : w1.cell? ⟨gg, 0, none⟩ = some (.int .i64 n) := by rw [hn]; exact m1.c0
  have e0 : w1.cell? ⟨q, 0, none⟩ = some (.int .i64 k) := by simp [World.cell?, hh1]
  have e1 : w1.cell? ⟨q, 1, none⟩ = some (.int .i64 N) := by simp [World.cell?, hh1]
  have e2 : w1.cell? ⟨q, 2, none⟩ = some (.int .i64 I) := by simp [World.cell?, hh1]
  obtain ⟨i0, hi0⟩ : ∃ i0, i0 = (N % 65536 % (n : Int)).toNat := ⟨_, rfl⟩
  have hr0 : 0 ≤ N % 65536 := by omega
  have hmod : N % 65536 % (n : Int) = (i0 : Int) := by have := Int.emod_nonneg (N % 65536) (show (n : Int) ≠ 0 by omega); omega
  have hlt : i0 < n := by have := Int.emod_lt_of_pos (N % 65536) (show 0 < (n : Int) by omega); omega
  have HN0 : RowKit.Hid ((i0 : Int) = N % 65536 % x.n ∧ i0 < x.n) := Lib.hid (by rw [← hn]; exact ⟨hmod.symm, hlt⟩)
  have hand : bits .and .i64 N 65535 = N % 65536 := bits_and65535 N
  have hand3 : bits .and .i64 I 3 = I % 4 := bits_and3 I
  obtain ⟨r, hr⟩ : ∃ r, r = N % 65536 := ⟨_, rfl⟩
  rw [← hr] at hand hmod hr0
  have htm : Int.tmod r (n : Int) = (i0 : Int) := by rw [Int.tmod_eq_emod_of_nonneg hr0]; exact hmod
  have hne : ¬ (n : Int) = 0 := by omega
  have hnz : ¬ n = 0 := by omega
  have hw0 : IntKind.i64.wrap (i0 : Int) = (i0 : Int) := IntWalk.i64_in _ (by omega)
  have hw2 : IntKind.i64.wrap (r % (n : Int)) = (i0 : Int) := by rw [hmod]; exact hw0
  have hw3 : IntKind.i64.wrap (Int.tmod r (n : Int)) = (i0 : Int) := by rw [htm]; exact hw0
  have HW1 := Lib.hid hw1.symm
  have Hq := Lib.hid hq.symm
  have M1 := Lib.hid m1
  have K1 := Lib.hid k1
  have HI := Lib.hid (And.intro hI hK)
  have HB := Lib.hid (And.intro hqi hh1)
  clear h hI hw1 hq hb1 hh1 hqi m1 k1 hn hi0 hr
  refine calls_of_wp Try.func65 spBody_is ?_
  simp only [Try.ntmps65, List.size_toArray, List.length_cons, List.length_nil, Nat.reduceAdd, Nat.reduceSub, Array.replicate_succ,
     Array.replicate_zero, List.push_toArray, List.append_toArray, List.nil_append, List.cons_append]
  rw [spBody_eq]
  refine wp_seq ?_
  conv => arg 2; whnf
  go_wp2_with fail
  rw [HW1.out, Hq.out]
  clear HW1
  conv => arg 2; whnf
  go_wp2_with fail
  go_region_held3 (fun W => W.cell? ⟨q, 1, none⟩ = some (.int .i64 N) ∧ W.cell? ⟨gg, 0, none⟩ = some (.int .i64 n)) (first | exact ⟨e1, y0⟩ | go_keep) (fail)
  obtain ⟨w2, hw2'⟩ : ∃ w2, w2 = w1.drew := ⟨_, rfl⟩
  have M2 : RowKit.Hid (GrM C w2 gg (toGx x) L) := Lib.hid (by rw [hw2']; exact M1.out.below (Below.refl _ _).drew)
  have K2 : RowKit.Hid (KpA C w C w2) := Lib.hid (by rw [hw2']; exact K1.out.trans (KpA.below M1.out (Below.refl _ _).drew))
  have HB2 : RowKit.Hid (Im C q ∧ w2.heap[q]? = some (.cells #[.int .i64 k, .int .i64 N, .int .i64 I] 120 (0, 0))) := Lib.hid (by rw [hw2']; exact HB.out)
  have f0 : w2.cell? ⟨q, 0, none⟩ = some (.int .i64 k) := by rw [hw2']; exact e0
  have f2 : w2.cell? ⟨q, 2, none⟩ = some (.int .i64 I) := by rw [hw2']; exact e2
  rw [← hw2']
  clear hw2' e0 e1 e2 y0 hand htm hne hnz hw0 hw2 hw3 hmod hr0 M1 K1 HB
  go_wp2_with fail
  conv => arg 2; whnf
  go_wp2_with fail
  conv => arg 2; whnf
  by_cases h6 : 6 ≤ k
  · have h6d : decide (6 ≤ k) = true := by simpa using h6
    have HN := Lib.hid (And.intro HN0.out.1 (And.intro HN0.out.2 (if_pos h6).symm) : (i0 : Int) = N % 65536 % x.n ∧ i0 < x.n ∧ I % 4 = if 6 ≤ k then I % 4 else -1)
    go_wp2_with fail
    exact vw_spP4 C w gg q i0 (I % 4) k N I x K C L w2 M2 K2 HI HB2 HN _ _ _ _ _ _ _ _ _ _ _ _ _ _ _ _ _ _ _ _ _ _ _ _ _ _ _ _ _ _ _ _ _ _ _ _ _ _ _ _ _ _ _ _ _ _ _ _ _ _ _ _ _ _ _ _ _ _ _ _ _ _ _ _ _ _ _ _ _ _ _ _ _ _ _ _ _ _ _ _ _ _ _ _ _ _ _ _ _ _ _ _ _ _ _ _ _ _ _ _ _ _ _ _ _ _ _ _ _ _ _ _ _ _ _ _ _ _ _ _ _ _ _ _ _ _ _ _ _ _ _ _ _ _ _ _ _ _ _ _ _ _ _ _ _ _ _ _ _
  · have h6d : decide (6 ≤ k) = false := by simpa using h6
    have HN := Lib.hid (And.intro HN0.out.1 (And.intro HN0.out.2 (if_neg h6).symm) : (i0 : Int) = N % 65536 % x.n ∧ i0 < x.n ∧ (-1 : Int) = if 6 ≤ k then I % 4 else -1)
    go_wp2_with fail
    exact vw_spP4 C w gg q i0 (-1) k N I x K C L w2 M2 K2 HI HB2 HN _ _ _ _ _ _ _ _ _ _ _ _ _ _ _ _ _ _ _ _ _ _ _ _ _ _ _ _ _ _ _ _ _ _ _ _ _ _ _ _ _ _ _ _ _ _ _ _ _ _ _ _ _ _ _ _ _ _ _ _ _ _ _ _ _ _ _ _ _ _ _ _ _ _ _ _ _ _ _ _ _ _ _ _ _ _ _ _ _ _ _ _ _ _ _ _ _ _ _ _ _ _ _ _ _ _ _ _ _ _ _ _ _ _ _ _ _ _ _ _ _ _ _ _ _ _ _ _ _ _ _ _ _ _ _ _ _ _ _ _ _ _ _ _ _ _ _ _ _
end Go.Proofs.Ytmmgnbdngpkfcaa

namespace Go.Proofs.Ytmmgnbdngpkfcaa
open Go.RowKit
set_option linter.unusedVariables false
set_option linter.unusedSimpArgs false

set_option maxRecDepth 100000 in
set_option maxHeartbeats 0 in
theorem law_ViewSafe0 (x0 x1 : Int) (a2 : Option Addr) (sn c2 : Nat) (ops : List (Int × Int × Int)) (w : World) (hs : Sl EOp3 (fun _ => True) w a2 ops) (hsn : sn = ops.length) (hc : sn ≤ c2) (hm : c2 ≤ maxLen) :
    Calls Try.prog 13 #[.int .i64 x0, .int .i64 x1, .slice a2 sn c2] w fun e w' => e = .returned (.bool true) ∧ Below w.heap.size w w' := by
  have HH := Lib.hid (law20_head w)
  obtain ⟨n, hn⟩ : ∃ n : Nat, n = (x0 % 1024 % 5 + 1).toNat := ⟨_, rfl⟩
  obtain ⟨pat, hpat⟩ : ∃ pat : Int, pat = x1 % 16 + 1 := ⟨_, rfl⟩
  have hn5 : 1 ≤ n ∧ n ≤ 5 := by omega
  have hp5 : 1 ≤ pat ∧ pat ≤ 100 := by omega
  have hand : bits .and .i64 x0 1023 = x0 % 1024 := bits_and1023 x0
  have hand2 : bits .and .i64 x1 15 = x1 % 16 := bits_and15 x1
  have hr0 : 0 ≤ x0 % 1024 := by omega
  have hmod : x0 % 1024 % 5 = (n : Int) - 1 := by omega
  obtain ⟨r, hr⟩ : ∃ r, r = x0 % 1024 := ⟨_, rfl⟩
  obtain ⟨s, hs1⟩ : ∃ s, s = x1 % 16 := ⟨_, rfl⟩
  rw [← hr] at hand hr0 hmod
  rw [← hs1] at hand2 hpat
  obtain ⟨n1, hn1⟩ : ∃ n1 : Nat, n = n1 + 1 := ⟨n - 1, by omega⟩
  have hmod1 : r % 5 = (n1 : Int) := by omega
  have htm : Int.tmod r 5 = (n1 : Int) := by rw [Int.tmod_eq_emod_of_nonneg hr0]; exact hmod1
  have hw0 : IntKind.i64.wrap (n1 : Int) = (n1 : Int) := IntWalk.i64_in _ (by omega)
  have hw2 : IntKind.i64.wrap (1 + (n1 : Int)) = (n : Int) := by rw [IntWalk.i64_in _ (by omega)]; omega
  have hw3 : IntKind.i64.wrap (1 + s) = pat := by rw [IntWalk.i64_in _ (by omega)]; omega
  have hst : ∀ W : World, Calls Try.prog 64 #[.int .i64 n, .int .i64 pat] W fun e w' => StTo W w' n pat e := fun W => vw_gstart n pat W hn5 hp5
  have HSt := Lib.hid hst
  have Hs := Lib.hid hs
  have Hsn := Lib.hid hsn
  have Hn5 := Lib.hid (And.intro hn5 hp5)
  unfold maxLen at hm
  clear hn hpat hr hs1 hst hs hsn hmod hn1 hn5 hp5
  go_enter Try.func13, Try.ntmps13
  go_wp2_with fail
  refine HH.out.mono ?_
  rintro e w1 ⟨rfl, hb1⟩
  have Hb1 := Lib.hid hb1
  clear hb1 HH
  go_wp2_with fail
  refine (HSt.out _).mono ?_
  rintro e w2 ⟨gg, C0, L0, rfl, hM, hK⟩
  have M2 := Lib.hid hM
  have K2 := Lib.hid hK
  clear hM hK HSt hand hand2 hr0 hmod1 htm hw0 hw2 hw3
  go_wp2_with fail
  go_loopg [8] sn (fun gn v wr => ∃ (j : Nat) (C : Col) (L : GrL) (x : Vw.Gr), RowKit.Hid (gn = sn - j) ∧ j ≤ sn ∧ j ≤ 400 ∧ v = .int .i64 j ∧ RowKit.Hid (GrM C wr gg (toGx x) L) ∧ RowKit.Hid (KpA (fun _ => 0) w1 C wr) ∧ RowKit.Hid (Vw.GrI x j))
  case atStart => exact ⟨0, C0, L0, _, Lib.hid rfl, Nat.zero_le _, Nat.zero_le _, rfl, M2, K2, Lib.hid (Vw.GrI.start n pat Hn5.out.1 Hn5.out.2)⟩
  case round =>
    obtain ⟨j, C, L, x, hgn, hj, hj4, rfl, hM, hK, hI⟩ := hrel
    by_cases hgo : j < sn ∧ j < 400
    · obtain ⟨hg1, hg2⟩ := hgo
      have hlti : (j : Int) < (sn : Int) := by omega
      have hlt4 : (j : Int) < 400 := by omega
      have hd1 : decide ((j : Int) < (sn : Int)) = true := by simp; omega
      have hd2 : decide ((j : Int) < 400) = true := by simp; omega
      have hadd : IntKind.i64.wrap ((j : Int) + 1) = (j : Int) + 1 := IntWalk.i64_in _ (by omega)
      obtain ⟨y, hy⟩ : ∃ y, ops[j]? = some y := ⟨_, List.getElem?_eq_getElem (by have := Hsn.out; omega)⟩
      have hsr : Sl EOp3 (fun _ => True) wr a2 ops := by
        have h1 := Hs.out.below (by decide) Hb1.out
        intro k z hz
        obtain ⟨b, o, e, hb, cs, hrep, hcs⟩ := Hs.out k z hz
        refine ⟨b, o, e, trivial, cs, EOp3.mono (ok' := fun _ => True) hrep fun b hb hlt => ⟨?_, trivial⟩, fun i v hv => ?_⟩
        · have h2 := (Hb1.out.trans (hK.out.belowAll.mono Hb1.out.size)).block b hlt
          exact h2
        · exact cell_thru (hcs i v hv) (Hb1.out.trans (hK.out.belowAll.mono Hb1.out.size))
      obtain ⟨b, o, rfl, -, c0, c1, c2'⟩ := op3_at hsr hy
      have HStep := Lib.hid (vw_gstep gg y.1 y.2.1 y.2.2 x j C L wr hM.out hI.out (by omega))
      have HI2 : RowKit.Hid (Vw.GrI (Vw.grStep x y.1 y.2.1 y.2.2) (j + 1)) := Lib.hid (Vw.grStep_ok hI.out (by omega) hM.out.rights _ _ _)
      clear hy hsr hI hM
      go_wp2_with fail
      refine HStep.out.mono ?_
      rintro e w3 ⟨rfl, C3, L3, m3, k3⟩
      have q7 := m3.c7
      have M3 := Lib.hid m3
      have K3 := Lib.hid (hK.out.trans k3)
      clear m3 k3 HStep c0 c1 c2' hK
      go_wp2_with fail
      go_roundg (sn - (j + 1))
      case measure => rw [hgn.out]; omega
      case rel => exact ⟨j + 1, C3, L3, _, Lib.hid rfl, by omega, by omega, by go_num, M3, K3, HI2⟩
    · have hgo2 : ¬ (j : Int) < (sn : Int) ∨ ((j : Int) < (sn : Int) ∧ ¬ (j : Int) < 400) := by omega
      have HBe : RowKit.Hid (Below w.heap.size w wr) := Lib.hid (Hb1.out.trans (hK.out.belowAll.mono Hb1.out.size))
      clear hM hK hI hgo
      rcases hgo2 with hg1 | ⟨hg1, hg2⟩
      · have hd1 : decide ((j : Int) < (sn : Int)) = false := by simpa using hg1
        go_wp2_with fail
        go_ret
        exact ⟨rfl, HBe.out⟩
      · have hd1 : decide ((j : Int) < (sn : Int)) = true := by simpa using hg1
        have hd2 : decide ((j : Int) < 400) = false := by simpa using hg2
        go_wp2_with fail
        go_ret
        exact ⟨rfl, HBe.out⟩
theorem law_ViewSafe (x0 x1 : Int) (a2 : Option Addr) (c2 : Nat) (ops : List (Int × Int × Int)) (w : World) (h0 : -9223372036854775808 ≤ x0 ∧ x0 ≤ 9223372036854775807) (h1 : -9223372036854775808 ≤ x1 ∧ x1 ≤ 9223372036854775807) (hs : Sl EOp3 (fun _ => True) w a2 ops) (hc : ops.length ≤ c2) (hm : c2 ≤ maxLen) :
    Calls Try.prog 13 #[.int .i64 x0, .int .i64 x1, .slice a2 ops.length c2] w fun e w' => e = .returned (.bool true) ∧ Below w.heap.size w w' :=
  law_ViewSafe0 x0 x1 a2 _ c2 ops w hs rfl hc hm
end Go.Proofs.Ytmmgnbdngpkfcaa


/-
  A transaction under way, walked: In.
-/
import Derived.Test.YtmmgnbdngpkfcaaCoI
namespace Go.Proofs.Ytmmgnbdngpkfcaa
open Go.RowKit
set_option linter.unusedVariables false

theorem nextT_stage (T : Co.Tx) : (Co.nextT T).stage = T.stage ∧ (Co.nextT T).at_ = T.at_ ∧ (Co.nextT T).id = T.id ∧ (Co.nextT T).res = T.res ∧ (Co.nextT T).ops = T.ops := by
  unfold Co.nextT
  split <;> exact ⟨rfl, rfl, rfl, rfl, rfl⟩

set_option maxRecDepth 4096 in
set_option maxHeartbeats 6400000 in
theorem co_In {B g vm : Nat} {ov : Value} {T : Co.Tx} (a : Co.An) (av : Option Addr) (n c : Nat) (w : World) (h : TxA B w g vm ov T) (hn : n = a.vals.length) (hc : n ≤ c ∧ c ≤ maxLen) (hs : Sl EInt (fun k => k ≠ g ∧ k ≠ vm) w av a.vals) (hat : T.at_ ≤ 3 ∨ (T.stage ≠ 1 ∧ T.stage ≠ 4 ∧ T.stage ≠ 7)) (hst : 0 ≤ T.stage ∧ T.stage ≤ 8) :
    Calls Try.prog 20 #[.pointer (some ⟨g, 0, none⟩), .agg (ansRow a (.slice av n c))] w fun e w' => e = .returned (.tuple #[]) ∧ TxA B w' g vm ov (Co.inT T a) ∧ Only (fun k => k = g ∨ k = vm) w w' := by
  obtain ⟨w1, hw1⟩ : ∃ x, x = w.alloc (.cells #[.int .i64 a.err, .slice av n c, .int .i64 a.at_, .int .i64 a.by_, .int .i64 a.home, .int .i64 a.e.t, .bool a.e.c, .int .i64 a.e.a] 41) := ⟨_, rfl⟩
  have hh1 : w1.heap[w.heap.size]? = some (.cells #[.int .i64 a.err, .slice av n c, .int .i64 a.at_, .int .i64 a.by_, .int .i64 a.home, .int .i64 a.e.t, .bool a.e.c, .int .i64 a.e.a] 41 (0, 0)) := by rw [hw1]; exact heap_alloc_new w _
  have hb1 : Below w.heap.size w w1 := by rw [hw1]; exact alloc_below _ _
  obtain ⟨q, hq⟩ : ∃ q, q = w.heap.size := ⟨_, rfl⟩
  rw [← hq] at hh1
  have hz1 : w1.heap.size = q + 1 := by rw [hw1, hq]; simp
  have h1 := h.keep hb1
  have hgq : g ≠ q := by have := h.lt; omega
  have hs1 : Sl EInt (fun k => k ≠ g ∧ k ≠ vm) w1 av a.vals := hs.below (by decide) hb1
  have HC : RowKit.Hid (Calls Try.prog 19 #[.pointer (some ⟨g, 0, none⟩)] w1 (NextPost B g vm ov T w1.heap.size w1)) := Lib.hid (co_Next w1.heap.size w1 rfl h1)
  have Ho1 : RowKit.Hid (Only (fun k => k = g ∨ k = vm) w w1) := Lib.hid (Below.only hb1)
  have H1 := Lib.hid h1
  have Hh1 := Lib.hid hh1
  have Hs1 := Lib.hid hs1
  have Hn := Lib.hid hn
  have Hc := Lib.hid hc
  clear h h1 hh1 hs hs1 hn hc hb1
  unfold ansRow
  go_enter Try.func20, Try.ntmps20
  go_upto_region 1 with fail
  rw [← hw1, ← hq]
  have Hq := Lib.hid hq
  clear hw1 hq
  go_wp2_with fail
  refine HC.out.mono ?_
  rintro e w2 ⟨wv, rv, rfl, ho1, ho2, hl1, hl2, h2, ho12⟩
  obtain ⟨aw, cw, rfl, _, _, _, _⟩ := ho1.shape _ rfl
  obtain ⟨ar, cr, rfl, _, _, _, _⟩ := ho2.shape _ rfl
  obtain ⟨A, hA⟩ : ∃ A, A = (Co.nextA T).1 := ⟨_, rfl⟩
  obtain ⟨ok, hok⟩ : ∃ A, A = (Co.nextA T).2 := ⟨_, rfl⟩
  rw [← hA, ← hok]
  clear ho1 ho2 hl1 hl2 hA
  unfold askRow
  obtain ⟨w3, hw3⟩ : ∃ x, x = w2.alloc (.cells #[.int .i64 A.shard, .int .i64 A.kind, .int .i64 A.txn, .int .i64 A.home, .int .i64 A.start, .slice aw A.writes.length cw, .slice ar A.reads.length cr, .int .i64 A.e.t, .bool A.e.c, .int .i64 A.e.a] 37) := ⟨_, rfl⟩
  have hb3 : Below w2.heap.size w2 w3 := by rw [hw3]; exact alloc_below _ _
  obtain ⟨T1, hT1⟩ : ∃ T1, T1 = Co.nextT T := ⟨_, rfl⟩
  rw [← hT1] at h2
  have h3 := h2.keep hb3
  have hh3 : w3.heap[q]? = _ := (hb3.block q (by have := ho12.size; omega)).trans ((ho12.block q (by omega) (Ne.symm hgq)).trans Hh1.out)
  have ho3 : Only (fun k => k = g ∨ k = vm) w w3 := (Ho1.out.trans ho12 fun _ _ h => .inl h).trans (T := fun k => k = g ∨ k = vm) (Below.only hb3) fun _ _ h => h
  have hs3 : Sl EInt (fun k => k ≠ g ∧ k ≠ vm) w3 av a.vals := (Hs1.out.mono (ok' := fun k => k ≠ g ∧ k ≠ vm) (w' := w2) (by decide) fun k hk hlt => ⟨ho12.block k hlt hk.1, hk⟩).below (by decide) hb3
  have H3 := Lib.hid h3
  have Hh3 := Lib.hid hh3
  have Ho3 := Lib.hid ho3
  have Hs3 := Lib.hid hs3
  have Hok := Lib.hid hok
  have HT1 := Lib.hid hT1
  clear h2 h3 hh3 ho3 hs3 hb3 ho12 hok hT1 HC
  go_upto_region 2 with fail
  obtain ⟨p4, hp4⟩ : ∃ p, p = w2.heap.size := ⟨_, rfl⟩
  rw [← hw3, ← hp4]
  clear hw3 hp4
  cases ok
  · have hg : Co.inT T a = T1 := by
      unfold Co.inT
      dsimp only
      rw [← Hok.out, if_pos rfl, HT1.out]
    have Hg := Lib.hid hg
    clear hg
    go_wp2_with fail
    refine bodyPost_ret (v := .tuple #[]) (by simp [results, Try.results20, go_sem]) rfl ?_
    exact ⟨rfl, by rw [Hg.out]; exact H3.out, Ho3.out⟩
  · have hs8 : T1.stage = 0 ∨ T1.stage = 1 ∨ T1.stage = 2 ∨ T1.stage = 3 ∨ T1.stage = 4 ∨ T1.stage = 5 ∨ T1.stage = 6 ∨ T1.stage = 7 := by
      have e1 : T1.stage = T.stage := by rw [HT1.out]; exact (nextT_stage T).1
      have e2 := Hok.out
      by_cases e3 : T.stage = 8
      · exfalso
        unfold Co.nextA at e2
        rw [e3] at e2
        split at e2
        · cases e2
        · simp at e2
      · omega
    have q0 : w3.cell? ⟨q, 0, none⟩ = some (.int .i64 a.err) := by simp [World.cell?, Hh3.out]
    have q1 : w3.cell? ⟨q, 1, none⟩ = some (.slice av n c) := by simp [World.cell?, Hh3.out]
    have q2 : w3.cell? ⟨q, 2, none⟩ = some (.int .i64 a.at_) := by simp [World.cell?, Hh3.out]
    have q3 : w3.cell? ⟨q, 3, none⟩ = some (.int .i64 a.by_) := by simp [World.cell?, Hh3.out]
    have q4 : w3.cell? ⟨q, 4, none⟩ = some (.int .i64 a.home) := by simp [World.cell?, Hh3.out]
    have q5 : w3.cell? ⟨q, 5, none⟩ = some (.int .i64 a.e.t) := by simp [World.cell?, Hh3.out]
    have q6 : w3.cell? ⟨q, 6, none⟩ = some (.bool a.e.c) := by simp [World.cell?, Hh3.out]
    have q7 : w3.cell? ⟨q, 7, none⟩ = some (.int .i64 a.e.a) := by simp [World.cell?, Hh3.out]
    have c5 := H3.out.c5
    rcases hs8 with hs | hs | hs | hs | hs | hs | hs | hs
    all_goals rw [hs] at c5
    · have c6 := H3.out.c6
      have c18 := H3.out.c18
      have fr := H3.out.fr
      by_cases he : a.err = 0
      · have hg : Co.inT T a = Co.goR { T1 with start := a.at_ } 0 := by
          unfold Co.inT
          dsimp only
          rw [← HT1.out, ← Hok.out, if_neg (by decide)]
          rw [if_pos hs, if_neg (fun h => h he)]
        have Hg := Lib.hid hg
        clear hg
        rw [he] at q0
        have h6 := H3.out.st6 a.at_
        have H6 := Lib.hid h6
        clear h6 he
        go_wp2_with fail
        refine (co_goR 0 _ H6.out (by decide)).mono ?_
        rintro e w7 ⟨rfl, h7, ho7⟩
        have H7 := Lib.hid h7
        have Ho7 := Lib.hid ho7
        clear h7 ho7
        go_wp2_with fail
        refine bodyPost_end (v := .tuple #[]) (by simp [results, Try.results20, go_sem]) rfl ?_
        exact ⟨rfl, by rw [Hg.out]; exact H7.out, ((Ho3.out.setCell (p := ⟨g, 6, none⟩) (.inl (.inl rfl)) _)).trans Ho7.out fun k _ h => .inl h⟩
      · have hg : Co.inT T a = { T1 with res := 3, stage := 8 } := by
          unfold Co.inT
          dsimp only
          rw [← HT1.out, ← Hok.out, if_neg (by decide)]
          rw [if_pos hs, if_pos he]
        have Hg := Lib.hid hg
        clear hg
        have heb : (a.err == 0) = false := by simpa using he
        clear he
        go_wp2_with fail
        refine bodyPost_ret (v := .tuple #[]) (by simp [results, Try.results20, go_sem]) rfl ?_
        exact ⟨rfl, by rw [Hg.out]; exact (H3.out.st18 3).st5 8, ((Ho3.out.setCell (p := ⟨g, 18, none⟩) (.inl (.inl rfl)) _).setCell (p := ⟨g, 5, none⟩) (.inl (.inl rfl)) _)⟩
    · have hg : Co.inT T a = Co.got T1 a := by
        unfold Co.inT
        dsimp only
        rw [← HT1.out, ← Hok.out, if_neg (by decide)]
        rw [if_neg (by rw [hs]; decide), if_pos hs]
      have Hg := Lib.hid hg
      clear hg
      have hg1 := co_got a av n c w3 H3.out Hn.out Hc.out Hs3.out (by rw [HT1.out, (nextT_stage T).2.1]; rcases hat with h | h; exact h; exact absurd (by rw [← hs, HT1.out, (nextT_stage T).1]) h.1)
      unfold ansRow at hg1
      have Hg1 := Lib.hid hg1
      clear hg1
      go_wp2_with fail
      refine Hg1.out.mono ?_
      rintro e w7 ⟨rfl, h7, ho7⟩
      have H7 := Lib.hid h7
      have Ho7 := Lib.hid ho7
      clear h7 ho7
      go_wp2_with fail
      refine bodyPost_end (v := .tuple #[]) (by simp [results, Try.results20, go_sem]) rfl ?_
      exact ⟨rfl, by rw [Hg.out]; exact H7.out, Ho3.out.trans Ho7.out fun k _ h => h⟩
    · have hg : Co.inT T a = { T1 with by_ := a.e, stage := 3 } := by
        unfold Co.inT
        dsimp only
        rw [← HT1.out, ← Hok.out, if_neg (by decide)]
        rw [if_neg (by rw [hs]; decide), if_neg (by rw [hs]; decide), if_pos hs]
      have Hg := Lib.hid hg
      clear hg
      have c13 := H3.out.c13
      have c14 := H3.out.c14
      have c15 := H3.out.c15
      have fr := H3.out.fr
      have h6 := (H3.out.st13 a.e).st5 3
      unfold setEnd at h6
      have H6 := Lib.hid h6
      clear h6
      go_wp2_with fail
      refine bodyPost_end (v := .tuple #[]) (by simp [results, Try.results20, go_sem]) rfl ?_
      exact ⟨rfl, by rw [Hg.out]; exact H6.out, ((((Ho3.out.setCell (p := ⟨g, 13, none⟩) (.inl (.inl rfl)) _).setCell (p := ⟨g, 14, none⟩) (.inl (.inl rfl)) _).setCell (p := ⟨g, 15, none⟩) (.inl (.inl rfl)) _).setCell (p := ⟨g, 5, none⟩) (.inl (.inl rfl)) _)⟩
    · have hg : Co.inT T a = { T1 with stage := 1, waited := 0 } := by
        unfold Co.inT
        dsimp only
        rw [← HT1.out, ← Hok.out, if_neg (by decide)]
        rw [if_neg (by rw [hs]; decide), if_neg (by rw [hs]; decide), if_neg (by rw [hs]; decide), if_pos hs]
      have Hg := Lib.hid hg
      clear hg
      have c12 := H3.out.c12
      have fr := H3.out.fr
      go_wp2_with fail
      refine bodyPost_end (v := .tuple #[]) (by simp [results, Try.results20, go_sem]) rfl ?_
      exact ⟨rfl, by rw [Hg.out]; exact (H3.out.st5 1).st12 0 (by decide), ((Ho3.out.setCell (p := ⟨g, 5, none⟩) (.inl (.inl rfl)) _).setCell (p := ⟨g, 12, none⟩) (.inl (.inl rfl)) _)⟩
    · have c10 := H3.out.c10
      have hat0 := H3.out.right.at_
      have hat1 : T1.at_ ≤ 3 := by rw [HT1.out, (nextT_stage T).2.1]; rcases hat with h | h; exact h; exact absurd (by rw [← hs, HT1.out, (nextT_stage T).1]) h.2.1
      have hadd : IntKind.i64.wrap (T1.at_ + 1) = T1.at_ + 1 := IntWalk.i64_in _ (by omega)
      by_cases he : a.err = 0
      · have hg : Co.inT T a = Co.goA T1 4 (T1.at_ + 1) := by
          unfold Co.inT
          dsimp only
          rw [← HT1.out, ← Hok.out, if_neg (by decide)]
          rw [if_neg (by rw [hs]; decide), if_neg (by rw [hs]; decide), if_neg (by rw [hs]; decide), if_neg (by rw [hs]; decide), if_pos hs, if_neg (fun h => h he)]
        have Hg := Lib.hid hg
        clear hg
        rw [he] at q0
        clear he
        go_wp2_with fail
        refine (co_goA 4 (T1.at_ + 1) w3 H3.out (.inl rfl) (by omega)).mono ?_
        rintro e w7 ⟨rfl, h7, ho7⟩
        have H7 := Lib.hid h7
        have Ho7 := Lib.hid ho7
        clear h7 ho7
        go_wp2_with fail
        refine bodyPost_end (v := .tuple #[]) (by simp [results, Try.results20, go_sem]) rfl ?_
        exact ⟨rfl, by rw [Hg.out]; exact H7.out, Ho3.out.trans Ho7.out fun k _ h => .inl h⟩
      · have hg : Co.inT T a = Co.fail T1 := by
          unfold Co.inT
          dsimp only
          rw [← HT1.out, ← Hok.out, if_neg (by decide)]
          rw [if_neg (by rw [hs]; decide), if_neg (by rw [hs]; decide), if_neg (by rw [hs]; decide), if_neg (by rw [hs]; decide), if_pos hs, if_pos he]
        have Hg := Lib.hid hg
        clear hg
        have heb : (a.err == 0) = false := by simpa using he
        clear he
        go_wp2_with fail
        refine (co_fail w3 H3.out).mono ?_
        rintro e w7 ⟨rfl, h7, ho7⟩
        have H7 := Lib.hid h7
        have Ho7 := Lib.hid ho7
        clear h7 ho7
        go_wp2_with fail
        refine bodyPost_ret (v := .tuple #[]) (by simp [results, Try.results20, go_sem]) rfl ?_
        exact ⟨rfl, by rw [Hg.out]; exact H7.out, Ho3.out.trans Ho7.out fun k _ h => .inl h⟩
    · have c0 := H3.out.c0
      have c7 := H3.out.c7
      have c8 := H3.out.c8
      have c9 := H3.out.c9
      have fr := H3.out.fr
      by_cases he : a.err = 0
      · have hg : Co.inT T a = { T1 with e := ⟨T1.id, true, a.at_⟩, stage := 6 } := by
          unfold Co.inT
          dsimp only
          rw [← HT1.out, ← Hok.out, if_neg (by decide)]
          rw [if_neg (by rw [hs]; decide), if_neg (by rw [hs]; decide), if_neg (by rw [hs]; decide), if_neg (by rw [hs]; decide), if_neg (by rw [hs]; decide), if_pos hs, if_neg (fun h => h he)]
        have Hg := Lib.hid hg
        clear hg
        rw [he] at q0
        have h6 := ((H3.out.st7 ⟨T1.id, true, a.at_⟩).st5 6).keep (Below.refl _ _).drew
        unfold setEnd at h6
        have H6 := Lib.hid h6
        clear h6 he
        go_wp2_with fail
        go_region
        go_wp2_with fail
        refine bodyPost_end (v := .tuple #[]) (by simp [results, Try.results20, go_sem]) rfl ?_
        exact ⟨rfl, by rw [Hg.out]; exact H6.out, (((((Ho3.out.setCell (p := ⟨g, 7, none⟩) (.inl (.inl rfl)) _).setCell (p := ⟨g, 8, none⟩) (.inl (.inl rfl)) _).setCell (p := ⟨g, 9, none⟩) (.inl (.inl rfl)) _).setCell (p := ⟨g, 5, none⟩) (.inl (.inl rfl)) _)).drewL⟩
      · have hg : Co.inT T a = Co.fail T1 := by
          unfold Co.inT
          dsimp only
          rw [← HT1.out, ← Hok.out, if_neg (by decide)]
          rw [if_neg (by rw [hs]; decide), if_neg (by rw [hs]; decide), if_neg (by rw [hs]; decide), if_neg (by rw [hs]; decide), if_neg (by rw [hs]; decide), if_pos hs, if_pos he]
        have Hg := Lib.hid hg
        clear hg
        have heb : (a.err == 0) = false := by simpa using he
        clear he
        go_wp2_with fail
        refine (co_fail w3 H3.out).mono ?_
        rintro e w7 ⟨rfl, h7, ho7⟩
        have H7 := Lib.hid h7
        have Ho7 := Lib.hid ho7
        clear h7 ho7
        go_wp2_with fail
        refine bodyPost_ret (v := .tuple #[]) (by simp [results, Try.results20, go_sem]) rfl ?_
        exact ⟨rfl, by rw [Hg.out]; exact H7.out, Ho3.out.trans Ho7.out fun k _ h => .inl h⟩
    · have c7 := H3.out.c7
      have c8 := H3.out.c8
      have c9 := H3.out.c9
      have c18 := H3.out.c18
      have fr := H3.out.fr
      obtain ⟨rs, hrs⟩ : ∃ r, r = T1.res := ⟨_, rfl⟩
      rw [← hrs] at c18
      by_cases hr : rs = 0
      · subst hr
        obtain ⟨ec, hec⟩ : ∃ b, b = a.e.c := ⟨_, rfl⟩
        rw [← hec] at q6
        cases ec
        · have hg : Co.inT T a = Co.goA { T1 with e := a.e, res := 3 } 7 0 := by
            unfold Co.inT
            dsimp only
            rw [← HT1.out, ← Hok.out, if_neg (by decide)]
            rw [if_neg (by rw [hs]; decide), if_neg (by rw [hs]; decide), if_neg (by rw [hs]; decide), if_neg (by rw [hs]; decide), if_neg (by rw [hs]; decide), if_neg (by rw [hs]; decide), if_pos hs, if_pos hrs.symm, ← hec]
            rfl
          have Hg := Lib.hid hg
          clear hg
          have h6 := (H3.out.st7 a.e).st18 3
          unfold setEnd at h6
          rw [← hec] at h6
          have H6 := Lib.hid h6
          clear h6 hrs hec
          go_wp2_with fail
          refine (co_goA 7 0 _ H6.out (.inr rfl) (by decide)).mono ?_
          rintro e w7 ⟨rfl, h7, ho7⟩
          have H7 := Lib.hid h7
          have Ho7 := Lib.hid ho7
          clear h7 ho7
          go_wp2_with fail
          refine bodyPost_end (v := .tuple #[]) (by simp [results, Try.results20, go_sem]) rfl ?_
          exact ⟨rfl, by rw [Hg.out]; exact H7.out, (((((Ho3.out.setCell (p := ⟨g, 7, none⟩) (.inl (.inl rfl)) _).setCell (p := ⟨g, 8, none⟩) (.inl (.inl rfl)) _).setCell (p := ⟨g, 9, none⟩) (.inl (.inl rfl)) _).setCell (p := ⟨g, 18, none⟩) (.inl (.inl rfl)) _)).trans Ho7.out fun k _ h => .inl h⟩
        · have hg : Co.inT T a = Co.goA { T1 with e := a.e, res := 2 } 7 0 := by
            unfold Co.inT
            dsimp only
            rw [← HT1.out, ← Hok.out, if_neg (by decide)]
            rw [if_neg (by rw [hs]; decide), if_neg (by rw [hs]; decide), if_neg (by rw [hs]; decide), if_neg (by rw [hs]; decide), if_neg (by rw [hs]; decide), if_neg (by rw [hs]; decide), if_pos hs, if_pos hrs.symm, ← hec]
            rfl
          have Hg := Lib.hid hg
          clear hg
          have h6 := ((H3.out.st7 a.e).st18 3).st18 2
          unfold setEnd at h6
          rw [← hec] at h6
          have H6 := Lib.hid h6
          clear h6 hrs hec
          go_wp2_with fail
          refine (co_goA 7 0 _ H6.out (.inr rfl) (by decide)).mono ?_
          rintro e w7 ⟨rfl, h7, ho7⟩
          have H7 := Lib.hid h7
          have Ho7 := Lib.hid ho7
          clear h7 ho7
          go_wp2_with fail
          refine bodyPost_end (v := .tuple #[]) (by simp [results, Try.results20, go_sem]) rfl ?_
          exact ⟨rfl, by rw [Hg.out]; exact H7.out, ((((((Ho3.out.setCell (p := ⟨g, 7, none⟩) (.inl (.inl rfl)) _).setCell (p := ⟨g, 8, none⟩) (.inl (.inl rfl)) _).setCell (p := ⟨g, 9, none⟩) (.inl (.inl rfl)) _).setCell (p := ⟨g, 18, none⟩) (.inl (.inl rfl)) _).setCell (p := ⟨g, 18, none⟩) (.inl (.inl rfl)) _)).trans Ho7.out fun k _ h => .inl h⟩
      · have hrb : (rs == 0) = false := by simpa using hr
        have hg : Co.inT T a = Co.goA { T1 with e := a.e } 7 0 := by
          unfold Co.inT
          dsimp only
          rw [← HT1.out, ← Hok.out, if_neg (by decide)]
          rw [if_neg (by rw [hs]; decide), if_neg (by rw [hs]; decide), if_neg (by rw [hs]; decide), if_neg (by rw [hs]; decide), if_neg (by rw [hs]; decide), if_neg (by rw [hs]; decide), if_pos hs, if_neg (by rw [← hrs]; exact hr)]
        have Hg := Lib.hid hg
        clear hg
        have h6 := H3.out.st7 a.e
        unfold setEnd at h6
        have H6 := Lib.hid h6
        clear h6 hrs hr
        go_wp2_with fail
        refine (co_goA 7 0 _ H6.out (.inr rfl) (by decide)).mono ?_
        rintro e w7 ⟨rfl, h7, ho7⟩
        have H7 := Lib.hid h7
        have Ho7 := Lib.hid ho7
        clear h7 ho7
        go_wp2_with fail
        refine bodyPost_end (v := .tuple #[]) (by simp [results, Try.results20, go_sem]) rfl ?_
        exact ⟨rfl, by rw [Hg.out]; exact H7.out, ((((Ho3.out.setCell (p := ⟨g, 7, none⟩) (.inl (.inl rfl)) _).setCell (p := ⟨g, 8, none⟩) (.inl (.inl rfl)) _).setCell (p := ⟨g, 9, none⟩) (.inl (.inl rfl)) _)).trans Ho7.out fun k _ h => .inl h⟩
    · have c10 := H3.out.c10
      have hat0 := H3.out.right.at_
      have hat1 : T1.at_ ≤ 3 := by rw [HT1.out, (nextT_stage T).2.1]; rcases hat with h | h; exact h; exact absurd (by rw [← hs, HT1.out, (nextT_stage T).1]) h.2.2
      have hadd : IntKind.i64.wrap (T1.at_ + 1) = T1.at_ + 1 := IntWalk.i64_in _ (by omega)
      have hg : Co.inT T a = Co.goA T1 7 (T1.at_ + 1) := by
        unfold Co.inT
        dsimp only
        rw [← HT1.out, ← Hok.out, if_neg (by decide)]
        rw [if_neg (by rw [hs]; decide), if_neg (by rw [hs]; decide), if_neg (by rw [hs]; decide), if_neg (by rw [hs]; decide), if_neg (by rw [hs]; decide), if_neg (by rw [hs]; decide), if_neg (by rw [hs]; decide)]
      have Hg := Lib.hid hg
      clear hg
      go_wp2_with fail
      refine (co_goA 7 (T1.at_ + 1) w3 H3.out (.inr rfl) (by omega)).mono ?_
      rintro e w7 ⟨rfl, h7, ho7⟩
      have H7 := Lib.hid h7
      have Ho7 := Lib.hid ho7
      clear h7 ho7
      go_wp2_with fail
      refine bodyPost_end (v := .tuple #[]) (by simp [results, Try.results20, go_sem]) rfl ?_
      exact ⟨rfl, by rw [Hg.out]; exact H7.out, Ho3.out.trans Ho7.out fun k _ h => .inl h⟩
end Go.Proofs.Ytmmgnbdngpkfcaa

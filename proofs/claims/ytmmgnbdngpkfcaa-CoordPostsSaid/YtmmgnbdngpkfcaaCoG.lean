
/-
  A transaction under way, walked: it goes on to a stage.
-/
import Derived.Test.YtmmgnbdngpkfcaaCoF
import Derived.Deep.RegionHeld3
namespace Go.Proofs.Ytmmgnbdngpkfcaa
open Go.RowKit
set_option linter.unusedVariables false

theorem TxA.st5 {B g vm : Nat} {w : World} {ov : Value} {T : Co.Tx} (h : TxA B w g vm ov T) (s : Int) : TxA B (w.setCell ⟨g, 5, none⟩ (.int .i64 s)) g vm ov { T with stage := s } :=
  h.set (Only.setCell (S := (· = g)) (Only.refl _ _) (p := ⟨g, 5, none⟩) (.inl rfl) _) (heap_set h.row 5 _) rfl rfl ⟨h.right.ops, h.right.many, h.right.sh, h.right.at_, h.right.waited, h.right.vals⟩
theorem TxA.st10 {B g vm : Nat} {w : World} {ov : Value} {T : Co.Tx} (h : TxA B w g vm ov T) (s : Int) (hs : 0 ≤ s ∧ s ≤ 4) : TxA B (w.setCell ⟨g, 10, none⟩ (.int .i64 s)) g vm ov { T with at_ := s } :=
  h.set (Only.setCell (S := (· = g)) (Only.refl _ _) (p := ⟨g, 10, none⟩) (.inl rfl) _) (heap_set h.row 10 _) rfl rfl ⟨h.right.ops, h.right.many, h.right.sh, hs, h.right.waited, h.right.vals⟩
theorem TxA.st18 {B g vm : Nat} {w : World} {ov : Value} {T : Co.Tx} (h : TxA B w g vm ov T) (s : Int) : TxA B (w.setCell ⟨g, 18, none⟩ (.int .i64 s)) g vm ov { T with res := s } :=
  h.set (Only.setCell (S := (· = g)) (Only.refl _ _) (p := ⟨g, 18, none⟩) (.inl rfl) _) (heap_set h.row 18 _) rfl rfl ⟨h.right.ops, h.right.many, h.right.sh, h.right.at_, h.right.waited, h.right.vals⟩
theorem set_only (w : World) (g k : Nat) (v : Value) : Only (· = g) w (w.setCell ⟨g, k, none⟩ v) := Only.setCell (S := (· = g)) (Only.refl _ _) (p := ⟨g, k, none⟩) (.inl rfl) _
theorem first_le {p : Int → Bool} {sh a : Int} (h0 : 0 ≤ a ∧ a ≤ 4) (hs : sh ≤ 4) : 0 ≤ Co.first p sh a ∧ Co.first p sh a ≤ 4 := by
  obtain ⟨h1, h2, _⟩ := Co.first_spec p sh _ a rfl
  omega

set_option maxRecDepth 4096 in
set_option maxHeartbeats 3200000 in
theorem co_goA {B g vm : Nat} {ov : Value} {T : Co.Tx} (stage from_ : Int) (w : World) (h : TxA B w g vm ov T) (hst : stage = 4 ∨ stage = 7) (hf : 0 ≤ from_ ∧ from_ ≤ 4) :
    Calls Try.prog 71 #[.pointer (some ⟨g, 0, none⟩), .int .i64 stage, .int .i64 from_] w fun e w' => e = .returned (.tuple #[]) ∧ TxA B w' g vm ov (Co.goA T stage from_) ∧ Only (· = g) w w' := by
  obtain ⟨w1, hw1⟩ : ∃ x, x = w.alloc (.cells #[.pointer (some ⟨g, 0, none⟩)] 26) := ⟨_, rfl⟩
  have hh1 : w1.heap[w.heap.size]? = some (.cells #[.pointer (some ⟨g, 0, none⟩)] 26 (0, 0)) := by rw [hw1]; exact heap_alloc_new w _
  have hb1 : Below w.heap.size w w1 := by rw [hw1]; exact alloc_below _ _
  obtain ⟨q, hq⟩ : ∃ q, q = w.heap.size := ⟨_, rfl⟩
  rw [← hq] at hh1
  have k0 : w1.cell? ⟨q, 0, none⟩ = some (.pointer (some ⟨g, 0, none⟩)) := by simp [World.cell?, hh1]
  have h1 := h.keep hb1
  have hgq : g ≠ q := by have := h.lt; omega
  have ho1 : Only (· = g) w w1 := Below.only hb1
  have f5 := h1.fr 5
  have c5 := h1.c5
  have h2 := h1.st5 stage
  have ho2 := ho1.trans (set_only w1 g 5 (.int .i64 stage)) fun _ _ h => h
  have k2 : (w1.setCell ⟨g, 5, none⟩ (.int .i64 stage)).cell? ⟨q, 0, none⟩ = some (.pointer (some ⟨g, 0, none⟩)) := by rw [cell_keep (heap_setOther w1 (Ne.symm hgq) 5 _)]; exact k0
  go_enter Try.func71, Try.ntmps71
  go_upto_region 1 with fail
  rw [← hw1, ← hq]
  clear hw1 hq hh1 hb1 h h1
  go_upto_region 2 with fail
  obtain ⟨w2, hw2⟩ : ∃ x, x = w1.setCell ⟨g, 5, none⟩ (.int .i64 stage) := ⟨_, rfl⟩
  rw [← hw2] at h2 ho2 k2 ⊢
  clear hw2 k0 ho1 f5 c5
  have H2 := Lib.hid h2
  have Ho2 := Lib.hid ho2
  clear h2 ho2
  have hne1 : ¬ stage = 1 := by omega
  go_upto_region 5 with fail
  obtain ⟨a, ha⟩ : ∃ a, a = Co.first (Co.conc T.sh T.ops T.ser) T.sh from_ := ⟨_, rfl⟩
  have HC : RowKit.Hid (Calls Try.prog 106 #[.pointer (some ⟨g, 0, none⟩), .int .i64 from_, .func (.func 107) #[.pointer (some ⟨g, 0, none⟩)] #[]] w2.drew fun e w' => e = .returned (.int .i64 a) ∧ Below w2.heap.size w2.drew w') :=
    Lib.hid ((co_firstC from_ w2.heap.size w2.drew rfl (H2.out.keep (Below.refl _ _).drew) (by omega)).mono fun e w' h => ⟨h.1.trans (by rw [ha]), h.2⟩)
  have ha4 : 0 ≤ a ∧ a ≤ 4 := by rw [ha]; exact first_le hf H2.out.right.sh.2
  have Ha := Lib.hid ha
  clear ha
  go_region_held3 (fun W => W.cell? ⟨q, 0, none⟩ = some (.pointer (some ⟨g, 0, none⟩))) (first | go_keep | exact cell_thru k2 ((Below.refl _ _).drew.trans hb3))
    ((first
      | (go_at_call 106
         refine HC.out.mono ?_
         rintro e w3 ⟨rfl, hb3⟩
         have h3 := H2.out.keep ((Below.refl _ _).drew.trans hb3)
         have c10 := h3.c10
         have f10 := h3.fr 10)))
  all_goals
    obtain ⟨w4, hw4⟩ : ∃ x, x = w3.setCell ⟨g, 10, none⟩ (.int .i64 a) := ⟨_, rfl⟩
    have h4 : TxA B w4 g vm ov { T with stage := stage, at_ := a } := by rw [hw4]; exact h3.st10 a ha4
    have k4 : w4.cell? ⟨q, 0, none⟩ = some (.pointer (some ⟨g, 0, none⟩)) := by rw [hw4, cell_keep (heap_setOther w3 (Ne.symm hgq) 10 _)]; exact cell_thru k2 ((Below.refl _ _).drew.trans hb3)
    have ho4 : Only (· = g) w w4 := by rw [hw4]; exact (Ho2.out.trans (T := (· = g)) (Below.only ((Below.refl _ _).drew.trans hb3)) (fun _ _ h => h)).trans (set_only w3 g 10 _) fun _ _ h => h
    rw [← hw4]
    clear hw4 h3 c10 f10 hb3
    have d10 : w4.cell? ⟨g, 10, none⟩ = some (.int .i64 a) := h4.c10
    have d3 : w4.cell? ⟨g, 3, none⟩ = some (.int .i64 T.sh) := h4.c3
    have d5 : w4.cell? ⟨g, 5, none⟩ = some (.int .i64 stage) := h4.c5
    have f5 := h4.fr 5
    have H4 := Lib.hid h4
    have Ho4 := Lib.hid ho4
    clear h4 ho4 HC
    obtain ⟨s, hs⟩ : ∃ s, s = T.sh := ⟨_, rfl⟩
    rw [← hs] at d3
    have Hs := Lib.hid hs
    clear hs
    by_cases hlt : a < s
    · have hg : Co.goA T stage from_ = { T with stage := stage, at_ := a } := by
        unfold Co.goA
        dsimp only
        rw [← Ha.out, if_pos (by rw [← Hs.out]; exact hlt)]
      have Hg := Lib.hid hg
      clear hg
      go_wp2_with fail
      go_region
      go_wp2_with fail
      refine bodyPost_ret (v := .tuple #[]) (by simp [results, Try.results71, go_sem]) rfl ?_
      exact ⟨rfl, by rw [Hg.out]; exact H4.out.keep (Below.refl _ _).drew, Ho4.out.trans (T := (· = g)) (Below.only (Below.refl _ _).drew) fun _ _ h => h⟩
    · rcases hst with rfl | rfl
      · have hg : Co.goA T 4 from_ = { T with stage := 5, at_ := a } := by
          unfold Co.goA
          dsimp only
          rw [← Ha.out, if_neg (by rw [← Hs.out]; exact hlt), if_neg (by decide)]
        have Hg := Lib.hid hg
        clear hg
        go_wp2_with fail
        go_region
        go_wp2_with fail
        refine bodyPost_end (v := .tuple #[]) (by simp [results, Try.results71, go_sem]) rfl ?_
        exact ⟨rfl, by rw [Hg.out]; exact (H4.out.keep (Below.refl _ _).drew).st5 5, (Ho4.out.trans (T := (· = g)) (Below.only (Below.refl _ _).drew) fun _ _ h => h).trans (set_only _ g 5 _) fun _ _ h => h⟩
      · have hg : Co.goA T 7 from_ = { T with stage := 8, at_ := a } := by
          unfold Co.goA
          dsimp only
          rw [← Ha.out, if_neg (by rw [← Hs.out]; exact hlt), if_pos rfl]
        have Hg := Lib.hid hg
        clear hg
        go_wp2_with fail
        go_region
        go_wp2_with fail
        refine bodyPost_end (v := .tuple #[]) (by simp [results, Try.results71, go_sem]) rfl ?_
        exact ⟨rfl, by rw [Hg.out]; exact (H4.out.keep (Below.refl _ _).drew).st5 8, (Ho4.out.trans (T := (· = g)) (Below.only (Below.refl _ _).drew) fun _ _ h => h).trans (set_only _ g 5 _) fun _ _ h => h⟩
set_option maxRecDepth 4096 in
set_option maxHeartbeats 3200000 in
theorem co_goR {B g vm : Nat} {ov : Value} {T : Co.Tx} (from_ : Int) (w : World) (h : TxA B w g vm ov T) (hf : 0 ≤ from_ ∧ from_ ≤ 4) :
    Calls Try.prog 71 #[.pointer (some ⟨g, 0, none⟩), .int .i64 1, .int .i64 from_] w fun e w' => e = .returned (.tuple #[]) ∧ TxA B w' g vm ov (Co.goR T from_) ∧ Only (· = g) w w' := by
  obtain ⟨w1, hw1⟩ : ∃ x, x = w.alloc (.cells #[.pointer (some ⟨g, 0, none⟩)] 26) := ⟨_, rfl⟩
  have hh1 : w1.heap[w.heap.size]? = some (.cells #[.pointer (some ⟨g, 0, none⟩)] 26 (0, 0)) := by rw [hw1]; exact heap_alloc_new w _
  have hb1 : Below w.heap.size w w1 := by rw [hw1]; exact alloc_below _ _
  obtain ⟨q, hq⟩ : ∃ q, q = w.heap.size := ⟨_, rfl⟩
  rw [← hq] at hh1
  have k0 : w1.cell? ⟨q, 0, none⟩ = some (.pointer (some ⟨g, 0, none⟩)) := by simp [World.cell?, hh1]
  have h1 := h.keep hb1
  have hgq : g ≠ q := by have := h.lt; omega
  have ho1 : Only (· = g) w w1 := Below.only hb1
  have f5 := h1.fr 5
  have c5 := h1.c5
  have h2 := h1.st5 1
  have ho2 := ho1.trans (set_only w1 g 5 (.int .i64 1)) fun _ _ h => h
  have k2 : (w1.setCell ⟨g, 5, none⟩ (.int .i64 1)).cell? ⟨q, 0, none⟩ = some (.pointer (some ⟨g, 0, none⟩)) := by rw [cell_keep (heap_setOther w1 (Ne.symm hgq) 5 _)]; exact k0
  go_enter Try.func71, Try.ntmps71
  go_upto_region 1 with fail
  rw [← hw1, ← hq]
  clear hw1 hq hh1 hb1 h h1
  go_upto_region 2 with fail
  obtain ⟨w2, hw2⟩ : ∃ x, x = w1.setCell ⟨g, 5, none⟩ (.int .i64 1) := ⟨_, rfl⟩
  rw [← hw2] at h2 ho2 k2 ⊢
  clear hw2 k0 ho1 f5 c5
  have H2 := Lib.hid h2
  have Ho2 := Lib.hid ho2
  clear h2 ho2
  go_upto_region 5 with fail
  obtain ⟨a, ha⟩ : ∃ a, a = Co.first (fun a => !(Co.reads T.sh T.ops a).isEmpty) T.sh from_ := ⟨_, rfl⟩
  have HC : RowKit.Hid (Calls Try.prog 106 #[.pointer (some ⟨g, 0, none⟩), .int .i64 from_, .func (.func 110) #[] #[.pointer (some ⟨q, 0, none⟩)]] w2.drew fun e w' => e = .returned (.int .i64 a) ∧ Below w2.heap.size w2.drew w') :=
    Lib.hid ((co_firstR from_ w2.heap.size w2.drew rfl (H2.out.keep (Below.refl _ _).drew) (by omega) k2).mono fun e w' h => ⟨h.1.trans (by rw [ha]; rfl), h.2⟩)
  have ha4 : 0 ≤ a ∧ a ≤ 4 := by rw [ha]; exact first_le hf H2.out.right.sh.2
  have Ha := Lib.hid ha
  clear ha
  go_region_held3 (fun W => W.cell? ⟨q, 0, none⟩ = some (.pointer (some ⟨g, 0, none⟩))) (first | go_keep | exact cell_thru k2 ((Below.refl _ _).drew.trans hb3))
    ((first
      | (go_at_call 106
         refine HC.out.mono ?_
         rintro e w3 ⟨rfl, hb3⟩
         have h3 := H2.out.keep ((Below.refl _ _).drew.trans hb3)
         have c10 := h3.c10
         have f10 := h3.fr 10)))
  all_goals
    obtain ⟨w4, hw4⟩ : ∃ x, x = w3.setCell ⟨g, 10, none⟩ (.int .i64 a) := ⟨_, rfl⟩
    have h4 : TxA B w4 g vm ov { T with stage := 1, at_ := a } := by rw [hw4]; exact h3.st10 a ha4
    have k4 : w4.cell? ⟨q, 0, none⟩ = some (.pointer (some ⟨g, 0, none⟩)) := by rw [hw4, cell_keep (heap_setOther w3 (Ne.symm hgq) 10 _)]; exact cell_thru k2 ((Below.refl _ _).drew.trans hb3)
    have ho4 : Only (· = g) w w4 := by rw [hw4]; exact (Ho2.out.trans (T := (· = g)) (Below.only ((Below.refl _ _).drew.trans hb3)) (fun _ _ h => h)).trans (set_only w3 g 10 _) fun _ _ h => h
    rw [← hw4]
    clear hw4 h3 c10 f10 hb3
    have d10 : w4.cell? ⟨g, 10, none⟩ = some (.int .i64 a) := h4.c10
    have d3 : w4.cell? ⟨g, 3, none⟩ = some (.int .i64 T.sh) := h4.c3
    have d5 : w4.cell? ⟨g, 5, none⟩ = some (.int .i64 1) := h4.c5
    have f5 := h4.fr 5
    have H4 := Lib.hid h4
    have Ho4 := Lib.hid ho4
    clear h4 ho4 HC
    obtain ⟨s, hs⟩ : ∃ s, s = T.sh := ⟨_, rfl⟩
    rw [← hs] at d3
    have Hs := Lib.hid hs
    clear hs
    have d18 := H4.out.c18
    have f18 := H4.out.fr 18
    have d1 := H4.out.c1
    obtain ⟨ao, co, rfl, hco1, hco2, hso⟩ := H4.out.ops
    have Hso := Lib.hid hso
    clear hso
    by_cases hlt : a < s
    · have hg : Co.goR T from_ = { T with stage := 1, at_ := a } := by
        unfold Co.goR
        dsimp only
        rw [← Ha.out, if_pos (by rw [← Hs.out]; exact hlt)]
      have Hg := Lib.hid hg
      clear hg
      go_wp2_with fail
      go_region
      go_wp2_with fail
      refine bodyPost_ret (v := .tuple #[]) (by simp [results, Try.results71, go_sem]) rfl ?_
      exact ⟨rfl, by rw [Hg.out]; exact H4.out.keep (Below.refl _ _).drew, Ho4.out.trans (T := (· = g)) (Below.only (Below.refl _ _).drew) fun _ _ h => h⟩
    · have hg : Co.goR T from_ = if Co.hasW T.ops = true then Co.goA { T with at_ := a, stage := 1 } 4 0 else { T with at_ := a, stage := 8, res := 2 } := by
        unfold Co.goR
        dsimp only
        rw [← Ha.out, if_neg (by rw [← Hs.out]; exact hlt)]
      have Hg := Lib.hid hg
      clear hg
      go_wp2_with fail
      go_region
      go_wp2_with fail
      refine (co_anyG ao T.ops.length co T.ops w4.drew ((Hso.out.any (by decide)).below (by decide) (Below.refl _ _).drew) rfl ⟨hco1, hco2⟩).mono ?_
      rintro e w5 ⟨rfl, hb5⟩
      have hb5 : Below w4.heap.size w4 w5 := (Below.refl _ _).drew.trans hb5
      rw [show (T.ops.any fun x => x.1 == 2) = Co.hasW T.ops from rfl]
      have h5 := H4.out.keep hb5
      have ho5 : Only (· = g) w w5 := Ho4.out.trans (T := (· = g)) (Below.only hb5) fun _ _ h => h
      have k5 := cell_thru k4 hb5
      have e18 := h5.c18
      have e5 := h5.c5
      have g5 := h5.fr 5
      have g18 := h5.fr 18
      have H5 := Lib.hid h5
      have Ho5 := Lib.hid ho5
      clear h5 ho5 hb5 d1 d3 d5 d10 d18 k4 f18 f5
      obtain ⟨hw, hhw⟩ : ∃ b, b = Co.hasW T.ops := ⟨_, rfl⟩
      rw [← hhw]
      have hg := Hg.out
      rw [← hhw] at hg
      have Hg2 := Lib.hid hg
      clear hhw hg Hg
      cases hw
      · have hg := Hg2.out
        rw [if_neg (by decide)] at hg
        have Hg := Lib.hid hg
        clear hg Hg2
        go_wp2_with fail
        go_region
        go_wp2_with fail
        refine bodyPost_end (v := .tuple #[]) (by simp [results, Try.results71, go_sem]) rfl ?_
        exact ⟨rfl, by rw [Hg.out]; exact ((H5.out.st18 2).st5 8).keep (Below.refl _ _).drew, ((Ho5.out.trans (set_only w5 g 18 (.int .i64 2)) fun _ _ h => h).trans (set_only _ g 5 (.int .i64 8)) fun _ _ h => h).trans (T := (· = g)) (Below.only (Below.refl _ _).drew) fun _ _ h => h⟩
      · have hg := Hg2.out
        rw [if_pos rfl] at hg
        have Hg := Lib.hid hg
        clear hg Hg2
        go_wp2_with fail
        refine (co_goA 4 0 w5 H5.out (.inl rfl) (by decide)).mono ?_
        rintro e w6 ⟨rfl, h6, ho6⟩
        have H6 := Lib.hid h6
        have Ho6 := Lib.hid ho6
        clear h6 ho6
        go_wp2_with fail
        refine bodyPost_end (v := .tuple #[]) (by simp [results, Try.results71, go_sem]) rfl ?_
        exact ⟨rfl, by rw [Hg.out]; exact H6.out, Ho5.out.trans Ho6.out fun _ _ h => h⟩
end Go.Proofs.Ytmmgnbdngpkfcaa

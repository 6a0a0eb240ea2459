
/-
  A transaction under way, walked: failing, a unit of time, what is known of it.
-/
import Derived.Test.YtmmgnbdngpkfcaaCoG
namespace Go.Proofs.Ytmmgnbdngpkfcaa
open Go.RowKit
set_option linter.unusedVariables false

theorem TxA.st11 {B g vm : Nat} {w : World} {ov : Value} {T : Co.Tx} (h : TxA B w g vm ov T) (s : Bool) : TxA B (w.setCell ⟨g, 11, none⟩ (.bool s)) g vm ov { T with wait := s } :=
  h.set (Only.setCell (S := (· = g)) (Only.refl _ _) (p := ⟨g, 11, none⟩) (.inl rfl) _) (heap_set h.row 11 _) rfl rfl ⟨h.right.ops, h.right.many, h.right.sh, h.right.at_, h.right.waited, h.right.vals⟩
theorem TxA.st12 {B g vm : Nat} {w : World} {ov : Value} {T : Co.Tx} (h : TxA B w g vm ov T) (s : Int) (hs : 0 ≤ s ∧ s ≤ 1000) : TxA B (w.setCell ⟨g, 12, none⟩ (.int .i64 s)) g vm ov { T with waited := s } :=
  h.set (Only.setCell (S := (· = g)) (Only.refl _ _) (p := ⟨g, 12, none⟩) (.inl rfl) _) (heap_set h.row 12 _) rfl rfl ⟨h.right.ops, h.right.many, h.right.sh, h.right.at_, hs, h.right.vals⟩
theorem TxA.st19 {B g vm : Nat} {w : World} {ov : Value} {T : Co.Tx} (h : TxA B w g vm ov T) (s : Bool) : TxA B (w.setCell ⟨g, 19, none⟩ (.bool s)) g vm ov { T with doubt := s } :=
  h.set (Only.setCell (S := (· = g)) (Only.refl _ _) (p := ⟨g, 19, none⟩) (.inl rfl) _) (heap_set h.row 19 _) rfl rfl ⟨h.right.ops, h.right.many, h.right.sh, h.right.at_, h.right.waited, h.right.vals⟩
theorem TxA.st6 {B g vm : Nat} {w : World} {ov : Value} {T : Co.Tx} (h : TxA B w g vm ov T) (s : Int) : TxA B (w.setCell ⟨g, 6, none⟩ (.int .i64 s)) g vm ov { T with start := s } :=
  h.set (Only.setCell (S := (· = g)) (Only.refl _ _) (p := ⟨g, 6, none⟩) (.inl rfl) _) (heap_set h.row 6 _) rfl rfl ⟨h.right.ops, h.right.many, h.right.sh, h.right.at_, h.right.waited, h.right.vals⟩
theorem TxA.st16 {B g vm : Nat} {w : World} {ov : Value} {T : Co.Tx} (h : TxA B w g vm ov T) (s : Int) : TxA B (w.setCell ⟨g, 16, none⟩ (.int .i64 s)) g vm ov { T with home := s } :=
  h.set (Only.setCell (S := (· = g)) (Only.refl _ _) (p := ⟨g, 16, none⟩) (.inl rfl) _) (heap_set h.row 16 _) rfl rfl ⟨h.right.ops, h.right.many, h.right.sh, h.right.at_, h.right.waited, h.right.vals⟩
/-- the end, three cells -/
def setEnd (w : World) (g k : Nat) (e : Co.En) : World := ((w.setCell ⟨g, k, none⟩ (.int .i64 e.t)).setCell ⟨g, k + 1, none⟩ (.bool e.c)).setCell ⟨g, k + 2, none⟩ (.int .i64 e.a)
theorem setEnd_only (w : World) (g k : Nat) (e : Co.En) : Only (· = g) w (setEnd w g k e) := ((set_only w g k _).trans (set_only _ g (k + 1) _) fun _ _ h => h).trans (set_only _ g (k + 2) _) fun _ _ h => h
theorem TxA.st7 {B g vm : Nat} {w : World} {ov : Value} {T : Co.Tx} (h : TxA B w g vm ov T) (e : Co.En) : TxA B (setEnd w g 7 e) g vm ov { T with e := e } :=
  h.set (setEnd_only w g 7 e) (heap_set (heap_set (heap_set h.row 7 _) 8 _) 9 _) rfl rfl ⟨h.right.ops, h.right.many, h.right.sh, h.right.at_, h.right.waited, h.right.vals⟩
theorem TxA.st13 {B g vm : Nat} {w : World} {ov : Value} {T : Co.Tx} (h : TxA B w g vm ov T) (e : Co.En) : TxA B (setEnd w g 13 e) g vm ov { T with by_ := e } :=
  h.set (setEnd_only w g 13 e) (heap_set (heap_set (heap_set h.row 13 _) 14 _) 15 _) rfl rfl ⟨h.right.ops, h.right.many, h.right.sh, h.right.at_, h.right.waited, h.right.vals⟩
theorem Only.drewL {S : Nat → Prop} {w w' : World} (h : Only S w w') : Only S w w'.drew := h.trans (T := S) (Below.only (Below.refl _ _).drew) fun _ _ h => h
theorem Only.and {g : Nat} {w w1 w2 : World} (h : Only (· = g) w w1) (h2 : Only (· = g) w1 w2) : Only (· = g) w w2 := h.trans h2 fun _ _ h => h

theorem co_Over {B g vm : Nat} {ov : Value} {T : Co.Tx} (w : World) (h : TxA B w g vm ov T) :
    Calls Try.prog 18 #[.pointer (some ⟨g, 0, none⟩)] w fun e w' => e = .returned (.bool (T.stage == 8)) ∧ w = w' := by
  have c5 := h.c5
  obtain ⟨s, hs⟩ : ∃ s, s = T.stage := ⟨_, rfl⟩
  rw [← hs] at c5 ⊢
  clear hs h
  go_enter Try.func18, Try.ntmps18
  go_wp2_with fail
  go_ret
  exact ⟨rfl, rfl⟩
theorem co_Over_nil (w : World) :
    Calls Try.prog 18 #[.pointer none] w fun e w' => e = .returned (.bool true) ∧ w = w' := by
  go_enter Try.func18, Try.ntmps18
  go_wp2_with fail
  go_ret
  exact ⟨rfl, rfl⟩
theorem co_Doubt {B g vm : Nat} {ov : Value} {T : Co.Tx} (w : World) (h : TxA B w g vm ov T) :
    Calls Try.prog 22 #[.pointer (some ⟨g, 0, none⟩)] w fun e w' => e = .returned (.bool (T.doubt && T.res == 0)) ∧ w = w' := by
  have c18 := h.c18
  have c19 := h.c19
  obtain ⟨s, hs⟩ : ∃ s, s = T.res := ⟨_, rfl⟩
  obtain ⟨d, hd⟩ : ∃ s, s = T.doubt := ⟨_, rfl⟩
  rw [← hs] at c18 ⊢
  rw [← hd] at c19 ⊢
  clear hs hd h
  go_enter Try.func22, Try.ntmps22
  cases d
  · go_wp2_with fail
    go_ret
    exact ⟨rfl, rfl⟩
  · go_wp2_with fail
    go_ret
    exact ⟨rfl, rfl⟩
theorem co_Doubt_nil (w : World) :
    Calls Try.prog 22 #[.pointer none] w fun e w' => e = .returned (.bool false) ∧ w = w' := by
  go_enter Try.func22, Try.ntmps22
  go_wp2_with fail
  go_ret
  exact ⟨rfl, rfl⟩
theorem co_Tick {B g vm : Nat} {ov : Value} {T : Co.Tx} (w : World) (h : TxA B w g vm ov T) (hw : T.waited ≤ 999) :
    Calls Try.prog 23 #[.pointer (some ⟨g, 0, none⟩)] w fun e w' => e = .returned (.tuple #[]) ∧ TxA B w' g vm ov (Co.tick T) ∧ Only (· = g) w w' := by
  have c11 := h.c11
  have c12 := h.c12
  have f11 := h.fr 11
  have f12 := h.fr 12
  have hw0 := h.right.waited
  have H := Lib.hid h
  clear h
  obtain ⟨wt, hwt⟩ : ∃ b, b = T.wait := ⟨_, rfl⟩
  obtain ⟨n, hn⟩ : ∃ b, b = T.waited := ⟨_, rfl⟩
  rw [← hwt] at c11
  rw [← hn] at c12 hw hw0
  have Hwt := Lib.hid hwt
  have Hn := Lib.hid hn
  clear hwt hn
  go_enter Try.func23, Try.ntmps23
  cases wt
  · go_wp2_with fail
    refine bodyPost_end (v := .tuple #[]) (by simp [results, Try.results23, go_sem]) rfl ?_
    exact ⟨rfl, by unfold Co.tick; rw [← Hwt.out, if_neg (by decide)]; exact H.out, Only.refl _ _⟩
  · have hadd : IntKind.i64.wrap (n + 1) = n + 1 := IntWalk.i64_in _ (by omega)
    go_wp2_with fail
    refine bodyPost_end (v := .tuple #[]) (by simp [results, Try.results23, go_sem]) rfl ?_
    exact ⟨rfl, by unfold Co.tick; rw [← Hwt.out, if_pos rfl, ← Hn.out]; exact (H.out.st11 false).st12 (n + 1) (by omega), (set_only _ g 11 _).and (set_only _ g 12 _)⟩
theorem co_Tick_nil (w : World) :
    Calls Try.prog 23 #[.pointer none] w fun e w' => e = .returned (.tuple #[]) ∧ w = w' := by
  go_enter Try.func23, Try.ntmps23
  go_wp2_with fail
  refine bodyPost_end (v := .tuple #[]) (by simp [results, Try.results23, go_sem]) rfl ?_
  exact ⟨rfl, rfl⟩

set_option maxRecDepth 4096 in
set_option maxHeartbeats 1600000 in
theorem co_fail {B g vm : Nat} {ov : Value} {T : Co.Tx} (w : World) (h : TxA B w g vm ov T) :
    Calls Try.prog 73 #[.pointer (some ⟨g, 0, none⟩)] w fun e w' => e = .returned (.tuple #[]) ∧ TxA B w' g vm ov (Co.fail T) ∧ Only (· = g) w w' := by
  have c0 := h.c0
  have c5 := h.c5
  have c7 := h.c7
  have c8 := h.c8
  have c9 := h.c9
  have c18 := h.c18
  have f5 := h.fr 5
  have f7 := h.fr 7
  have f8 := h.fr 8
  have f9 := h.fr 9
  have f18 := h.fr 18
  have H := Lib.hid h
  clear h
  go_enter Try.func73, Try.ntmps73
  go_upto_region 2 with fail
  have h2 := (((H.out.st18 3).st7 ⟨T.id, false, 0⟩)).st5 6
  have ho2 := ((set_only w g 18 (.int .i64 3)).and (setEnd_only _ g 7 ⟨T.id, false, 0⟩)).and (set_only _ g 5 (.int .i64 6))
  unfold setEnd at h2 ho2
  dsimp only at h2 ho2
  obtain ⟨w2, hw2⟩ : ∃ x, x = (((((w.setCell ⟨g, 18, none⟩ (.int .i64 3)).setCell ⟨g, 7, none⟩ (.int .i64 T.id)).setCell ⟨g, 7 + 1, none⟩ (.bool false)).setCell ⟨g, 7 + 2, none⟩ (.int .i64 0)).setCell ⟨g, 5, none⟩ (.int .i64 6)) := ⟨_, rfl⟩
  rw [← hw2] at h2 ho2
  rw [show (((((w.setCell ⟨g, 18, none⟩ (.int .i64 3)).setCell ⟨g, 7, none⟩ (.int .i64 T.id)).setCell ⟨g, 8, none⟩ (.bool false)).setCell ⟨g, 9, none⟩ (.int .i64 0)).setCell ⟨g, 5, none⟩ (.int .i64 6)) = w2 from hw2.symm]
  clear hw2 c0 c5 c7 c8 c9 c18 f5 f7 f8 f9 f18
  have d3 : w2.cell? ⟨g, 3, none⟩ = some (.int .i64 T.sh) := h2.c3
  obtain ⟨a, ha⟩ : ∃ a, a = T.where_ := ⟨_, rfl⟩
  have HC : RowKit.Hid (Calls Try.prog 69 #[.pointer (some ⟨g, 0, none⟩)] w2.drew fun e w' => e = .returned (.int .i64 a) ∧ Below w2.heap.size w2.drew w') :=
    Lib.hid ((co_where w2.heap.size w2.drew rfl (h2.keep (Below.refl _ _).drew)).mono fun e w' h => ⟨h.1.trans (by rw [ha]; rfl), h.2⟩)
  obtain ⟨s, hs⟩ : ∃ a, a = T.sh := ⟨_, rfl⟩
  rw [← hs] at d3
  have Ha := Lib.hid ha
  have Hs := Lib.hid hs
  have H2 := Lib.hid h2
  have Ho2 := Lib.hid ho2
  clear ha hs h2 ho2
  go_region_held3 (fun W => W.cell? ⟨g, 3, none⟩ = some (.int .i64 s)) (first | go_keep | exact cell_thru d3 ((Below.refl _ _).drew.trans hb3))
    ((first
      | (go_at_call 69
         refine HC.out.mono ?_
         rintro e w3 ⟨rfl, hb3⟩)))
  all_goals
    have hb3 : Below w2.heap.size w2 w3 := (Below.refl _ _).drew.trans hb3
    have h3 := H2.out.keep hb3
    have ho3 : Only (· = g) w w3 := Ho2.out.and (Below.only hb3)
    have e5 := h3.c5
    have g5 := h3.fr 5
    have H3 := Lib.hid h3
    have Ho3 := Lib.hid ho3
    clear h3 ho3 hb3 HC d3
    by_cases hlt : s ≤ a
    · have hg : Co.fail T = { T with res := 3, e := ⟨T.id, false, 0⟩, stage := 8 } := by
        unfold Co.fail
        rw [← Ha.out, ← Hs.out, if_pos hlt]
      have Hg := Lib.hid hg
      clear hg
      go_wp2_with fail
      refine bodyPost_end (v := .tuple #[]) (by simp [results, Try.results73, go_sem]) rfl ?_
      exact ⟨rfl, by rw [Hg.out]; exact H3.out.st5 8, Ho3.out.and (set_only _ g 5 _)⟩
    · have hg : Co.fail T = { T with res := 3, e := ⟨T.id, false, 0⟩, stage := 6 } := by
        unfold Co.fail
        rw [← Ha.out, ← Hs.out, if_neg hlt]
      have Hg := Lib.hid hg
      clear hg
      go_wp2_with fail
      refine bodyPost_end (v := .tuple #[]) (by simp [results, Try.results73, go_sem]) rfl ?_
      exact ⟨rfl, by rw [Hg.out]; exact H3.out, Ho3.out⟩
end Go.Proofs.Ytmmgnbdngpkfcaa


/-
  A member alone, as plain functions.
-/
import Derived.Test.YtmmgnbdngpkfcaaVwX
namespace Go.Proofs.Ytmmgnbdngpkfcaa
open Go.RowKit
set_option linter.unusedVariables false
namespace Vw
/-- a member alone, that knows of all it has -/
structure Alone (c : Core) : Prop where
  n : c.n = 1
  me : c.me = 1
  ch : c.ch = false
theorem Alone.others {c : Core} (h : Alone c) : c.others c.n = [] := by
  unfold Core.others
  rw [h.n, h.me]
  decide
theorem Alone.lead {c : Core} (h : Alone c) : lead c.keep.view c.n = 1 := by
  unfold Vw.lead
  rw [h.n]
  simp
theorem Alone.leads {c : Core} (h : Alone c) : c.leads = true := by
  unfold Core.leads
  rw [h.lead, h.me, h.ch]
  rfl
theorem Alone.feeds {c : Core} (h : Alone c) : c.feeds = c := by
  unfold Core.feeds
  rw [h.others]
  simp
theorem med_one (x : Int) : Core.med [x] = x := by
  unfold Core.med
  simp
theorem Alone.count {c : Core} (h : Alone c) (hc : c.commit ≤ c.keep.log.length) : c.count = c.reachTo c.keep.log.length := by
  unfold Core.count
  rw [h.leads, if_pos rfl]
  unfold Core.held
  rw [h.others, List.map_nil, med_one, c.reach_eq]
  congr 1
  omega
/-- what comes of an entry that is handed in -/
theorem Alone.propose {c : Core} (h : Alone c) {b : Bs} (hb : b.length ≤ 4000) (hl : c.keep.log.length < 2000) (hc : c.commit ≤ c.keep.log.length) :
    c.propose b = ((c.rec_ ⟨2, 0, 0, b⟩).reachTo (c.keep.log.length + 1), 0) := by
  unfold Core.propose
  rw [h.leads, if_neg (by simp), if_neg (by omega), if_neg (by omega)]
  have h2 : Alone (c.rec_ ⟨2, 0, 0, b⟩) := ⟨h.n, h.me, h.ch⟩
  have hl2 : (c.rec_ ⟨2, 0, 0, b⟩).keep.log.length = c.keep.log.length + 1 := by
    show (c.keep.log ++ [b]).length = _
    simp
  rw [h2.feeds, h2.count (by rw [hl2]; show c.commit ≤ _; omega), hl2]
theorem Alone.tick {c : Core} (h : Alone c) (hc : c.commit ≤ c.keep.log.length) : ∃ i : Int, c.tick = { c with idle := i }.reachTo c.keep.log.length ∧ (i = 0 ∨ i = c.idle + 1) := by
  rw [c.tick_lead h.leads]
  unfold Core.tickL
  split
  · have h2 : Alone { c with idle := 0 } := ⟨h.n, h.me, h.ch⟩
    exact ⟨0, by rw [h2.feeds, h2.count hc], .inl rfl⟩
  · have h2 : Alone { c with idle := c.idle + 1 } := ⟨h.n, h.me, h.ch⟩
    exact ⟨c.idle + 1, by rw [h2.count hc], .inr rfl⟩
theorem Alone.new (sh pat : Int) (l : List Bs) (v : Int) : Alone (Core.new 1 1 sh pat ⟨v, v, l⟩) := ⟨rfl, rfl, by show (v != v) = false; simp⟩
end Vw
end Go.Proofs.Ytmmgnbdngpkfcaa


/-
  A variable of a function's own, beside a member that it turns.
-/
import Derived.Test.YtmmgnbdngpkfcaaVwH
namespace Go.Proofs.Ytmmgnbdngpkfcaa
open Go.RowKit
set_option linter.unusedVariables false

section
variable {M M9 M5 M6 : Col} {w w1 w5 w6 W : World} {g q : Nat} {c : Vw.Core} {v : Value}
theorem fr_unbox (hq : q = w.heap.size) (f : Fr M w M6 w6) (ho : Only (· = q) w6 W) : Fr M w (updC M6 q 0) W :=
  ⟨f.1.trans ho fun k hk e => by omega, fun k hk hm => (updC_other M6 0 (by omega)).trans (f.2 k hk hm)⟩
theorem to_unbox (hq : q = w.heap.size) (f1 : Fr M w M9 w1) (h9 : M9 q = 9) (hz : q < w1.heap.size) (t : VwTo M9 w1 w6 g c) (ho : Only (· = q) w6 W) : VwTo M w W g c := by
  obtain ⟨M6, ⟨L, h6⟩, f6⟩ := t
  exact ⟨updC M6 q 0, ⟨L, h6.unbox ((f6.other hz (by omega)).2.trans h9) ho⟩, fr_unbox hq (f1.trans f6) ho⟩
theorem take_unbox (hq : q = w.heap.size) (f1 : Fr M w M9 w1) (h9 : M9 q = 9) (hz : q < w1.heap.size) (t : TakeTo M9 w1 w6 g c v) (ho : Only (· = q) w6 W) : TakeTo M w W g c v := by
  obtain ⟨M6, ⟨L, h6⟩, f6, a1, c1, a2, c2, a3, c3, e, ⟨b1, s1⟩, ⟨b2, s2⟩, ⟨b3, s3⟩⟩ := t
  have hM6 : M6 q = 9 := (f6.other hz (by omega)).2.trans h9
  have him : ∀ k, Im M6 k → k < w6.heap.size → W.heap[k]? = w6.heap[k]? ∧ Im (updC M6 q 0) k := fun k hk hlt => by
    have hne : k ≠ q := fun e => by subst e; have : M6 k = 0 := hk; omega
    exact ⟨ho.block k hlt hne, (updC_other M6 0 hne).trans hk⟩
  exact ⟨updC M6 q 0, ⟨L, h6.unbox hM6 ho⟩, fr_unbox hq (f1.trans f6) ho, a1, c1, a2, c2, a3, c3, e, ⟨b1, s1.mono (by decide) him⟩, ⟨b2, s2.mono (by decide) him⟩, ⟨b3, s3.mono (by decide) him⟩⟩
theorem TakeTo.trans {M1' : Col} (f : Fr M w M1' w1) (h : TakeTo M1' w1 w6 g c v) : TakeTo M w w6 g c v := by
  obtain ⟨M6, h6, f6, o6⟩ := h
  exact ⟨M6, h6, f.trans f6, o6⟩
end
theorem TakeTo.slices {M : Col} {w w' : World} {g : Nat} {c : Vw.Core} {v1 v2 v3 : Value} (h : TakeTo M w w' g c (.agg #[v1, v2, v3])) :
    ∃ a1 n1 c1 a2 n2 c2 a3 n3 c3, v1 = .slice a1 n1 c1 ∧ v2 = .slice a2 n2 c2 ∧ v3 = .slice a3 n3 c3 := by
  obtain ⟨M6, h6, f6, a1, c1, a2, c2, a3, c3, e, _⟩ := h
  injection e with e
  simp only [Array.mk.injEq, List.cons.injEq, and_true] at e
  exact ⟨a1, _, c1, a2, _, c2, a3, _, c3, e.1, e.2.1, e.2.2⟩
theorem results_cellM {P : Program} {fn : Func} {u p v : Tmp} {ty : TypeId} (h : fn.results = #[.tmp u, .cell p ty, .tmp v]) (tmps : Array Value) (w : World) (g : Nat) (t : TypeId) (cs : Array Value) (fr : Nat × Nat) (d : TypeDesc)
    (hp : tmps.getD p undef = .pointer (some ⟨g, 0, none⟩)) (hg : w.heap[g]? = some (.cells cs t fr))
    (hu : P.underlying ty = some d) (hd : (match d with | .struct _ | .array _ _ => true | _ => false) = true) (hi : (P.info? ty).map (·.size) = some cs.size) :
    (results fn tmps).run P w = .ok (.tuple #[tmps.getD u undef, .agg cs, tmps.getD v undef]) w := by
  have hp' : tmps[p]?.getD undef = .pointer (some ⟨g, 0, none⟩) := by simpa using hp
  simp [results, h, hp', asAddr, run_loadVar_row w g t ty cs fr d hg hu hd hi]
end Go.Proofs.Ytmmgnbdngpkfcaa


/-
  Elements that hold slices: where these may lie.
-/
import Derived.Test.YtmmgnbdngpkfcaaBtsPut
namespace Go.Proofs.Ytmmgnbdngpkfcaa
open Go.RowKit
set_option linter.unusedVariables false

/-- what is held besides lies from block B on -/
def EIn {α : Type} (B : Nat) (E : Enc α) : Enc α where
  sz := E.sz
  rep ok w cs x := E.rep (fun b => ok b ∧ B ≤ b) w cs x
  len h := E.len h
  one h := E.one h
  mono h hk := E.mono h fun k hk1 hlt => ⟨(hk k hk1.1 hlt).1, (hk k hk1.1 hlt).2, hk1.2⟩
theorem EIn.out {α : Type} {B : Nat} {E : Enc α} {ok : Nat → Prop} {w : World} {cs : List Value} {x : α} (h : (EIn B E).rep ok w cs x) : E.rep ok w cs x :=
  E.mono (w' := w) h fun k hk _ => ⟨rfl, hk.1⟩
theorem Own.of_in {α : Type} {B : Nat} {E : Enc α} {te : TypeId} {base : Nat} {w : World} {v : Value} {l : List α} (h : Own (EIn B E) te base w v l) : Own E te base w v l := by
  rcases h with h | ⟨g, cap, cur, hv, hg, hh, h1, h2, h3, h4⟩
  · exact .inl h
  · refine .inr ⟨g, cap, cur, hv, hg, hh, h1, h2, h3, fun k x hx => ?_⟩
    obtain ⟨cs, hr, hc⟩ := h4 k x hx
    exact ⟨cs, EIn.out hr, hc⟩
/-- what is owned, while blocks turn that are neither its own nor those of what it holds -/
theorem Own.in_only {α : Type} {B : Nat} {E : Enc α} {te : TypeId} {base : Nat} {w w' : World} {v : Value} {l : List α} {S : Nat → Prop} (h : Own (EIn B E) te base w v l) (ho : Only S w w') (hS : ∀ k, S k → k < B) (hB : ∀ k, S k → k < base) : Own (EIn B E) te base w' v l := by
  rcases h with h | ⟨g, cap, cur, hv, hg, hh, h1, h2, h3, h4⟩
  · exact .inl h
  · refine .inr ⟨g, cap, cur, hv, hg, ?_, h1, h2, h3, fun k x hx => ?_⟩
    · rw [ho.block g (Array.getElem?_eq_some_iff.1 hh).1 fun hs => by have := hB g hs; omega]; exact hh
    · obtain ⟨cs, hr, hc⟩ := h4 k x hx
      exact ⟨cs, E.mono (w' := w') hr fun j hj hlt => ⟨ho.block j hlt fun hs => by have := hS j hs; omega, hj⟩, hc⟩
end Go.Proofs.Ytmmgnbdngpkfcaa

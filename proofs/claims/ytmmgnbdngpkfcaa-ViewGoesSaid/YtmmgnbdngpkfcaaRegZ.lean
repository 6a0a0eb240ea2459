/-
  A region that draws its order and ends in one store into a cell that it loads itself: a load is taken first, where what it reads stays till that last store.
-/
import Derived.Test.YtmmgnbdngpkfcaaVwC
import Derived.Deep.RegionHeld3
namespace Go.Proofs.Ytmmgnbdngpkfcaa
open Go Go.RowKit
set_option linter.unusedVariables false
section
variable {P : Program} {ops : Array Oper} {Q : Exit → Act → World → Prop} {md : Region.Mode} {S : World → Prop} {z : Nat}
/-- whatever order is picked; behind each operation but number z the world meets S -/
def AnyZ (P : Program) (md : Region.Mode) (ops : Array Oper) (Q : Exit → Act → World → Prop) (S : World → Prop) (z : Nat) : Nat → Array Bool → Act → World → Prop
  | 0, listed, a, w => Region.ready md ops listed = [] ∧ Q .normal a w
  | n + 1, listed, a, w => (Region.ready md ops listed = [] → Q .normal a w) ∧ ∀ i ∈ Region.ready md ops listed, wpOp P ops Q i (fun a' w' => (i ≠ z → S w') ∧ AnyZ P md ops Q S z n (listed.setIfInBounds i true) a' w') a w
theorem AnyZ.any : ∀ (n : Nat) (listed : Array Bool) (a : Act) (w : World), AnyZ P md ops Q S z n listed a w → wpAny P md ops Q n listed a w
  | 0, _, _, _, h => h
  | n + 1, _, _, _, h => ⟨h.1, fun i hi => wpOp_mono (fun a' w' h' => AnyZ.any n _ a' w' h'.2) (h.2 i hi)⟩
/-- operation number z waits for number i -/
def Waits (md : Region.Mode) (ops : Array Oper) (z i : Nat) : Bool := match ops[z]? with | some o => o.after.any fun e => Region.binds md e && e.on == i | none => false
theorem AnyZ.first {i : Nat} {oi : Oper} {v : Value} (hi : ops[i]? = some oi) (hz : Waits md ops z i = true) (hsel : ∀ (j : Nat) (o : Oper) cs b, ops[j]? = some o → o.op ≠ .select cs b)
    (hQ : ∀ c a w, Q (.panic c) (a.put oi.dst v) w → Q (.panic c) a w) : ∀ (n : Nat) (listed : Array Bool) (a : Act) (w : World),
      (∀ j oj, ops[j]? = some oj → j ≠ i → listed.getD j true = false → (∀ e ∈ oj.after, Region.binds md e = true → e.on ≠ i) → oi.apart ops oj = true) →
      i ∈ Region.ready md ops listed → i ≠ z → YieldsIf P ops S oi v a → S w → AnyZ P md ops Q S z n (listed.setIfInBounds i true) (a.put oi.dst v) w → AnyZ P md ops Q S z (n + 1) listed a w
  | 0, listed, a, w, _, hr, hiz, hy, hS, H => ⟨fun h => (by rw [h] at hr; cases hr), fun j hj => by
      by_cases hji : j = i
      · subst hji; exact hy.wpOp hi hS ⟨fun _ => hS, H⟩
      · have := ready_mono hj hji
        rw [H.1] at this; cases this⟩
  | n + 1, listed, a, w, hfree, hr, hiz, hy, hS, H => ⟨fun h => (by rw [h] at hr; cases hr), fun j hj => by
      by_cases hji : j = i
      · subst hji; exact hy.wpOp hi hS ⟨fun _ => hS, H⟩
      · have h1 := H.2 j (ready_mono hj hji)
        obtain ⟨hjun, oj, hoj, hall⟩ := mem_ready.1 hj
        have hnot : ∀ e ∈ oj.after, Region.binds md e = true → e.on ≠ i := fun e he hb heq => by
          have h1 := hall e he hb
          have h0 := (mem_ready.1 hr).1
          rw [heq] at h1
          rcases Nat.lt_or_ge i listed.size with h' | h'
          · simp [h'] at h0 h1; rw [h0] at h1; cases h1
          · simp [Array.getElem?_eq_none h'] at h1
        have hjz : j ≠ z := fun e => by
          subst e
          unfold Waits at hz
          rw [hoj] at hz
          obtain ⟨x, hx, hb⟩ := Array.any_eq_true'.1 hz
          simp only [Bool.and_eq_true, beq_iff_eq] at hb
          exact hnot x hx hb.1 hb.2
        have h2 := wpOp_putIf hoj (hfree j oj hoj hji hjun hnot) (fun cs b => hsel i oi cs b hi) (fun cs b => hsel j oj cs b hoj) hQ hy h1
        have hfree' : ∀ k ok, ops[k]? = some ok → k ≠ i → (listed.setIfInBounds j true).getD k true = false → (∀ e ∈ ok.after, Region.binds md e = true → e.on ≠ i) → oi.apart ops ok = true := fun k ok hk hki hun hno => by
          refine hfree k ok hk hki ?_ hno
          by_cases hjk : j = k
          · subst hjk; exact hjun
          · rw [getD_set_ne true hjk] at hun; exact hun
        refine wpOp_mono (fun a' w' h3 => ⟨h3.2.1, AnyZ.first hi hz hsel hQ n (listed.setIfInBounds j true) a' w' hfree' (ready_mono hr (Ne.symm hji)) hiz h3.1 (h3.2.1 hjz) ?_⟩) h2
        rw [Array.setIfInBounds_comm _ _ hji]
        exact h3.2.2⟩
theorem AnyZ.take (i : Nat) (oi : Oper) {v : Value} {n : Nat} {listed : Array Bool} {a : Act} {w : World} (hi : ops[i]? = some oi) (hz : Waits md ops z i = true) (hiz : (i == z) = false)
    (hs : Region.noSelect ops = true) (hf : Region.free md ops listed i = true) (hr : (Region.ready md ops listed).contains i = true)
    (hQ : ∀ c a w, Q (.panic c) (a.put oi.dst v) w → Q (.panic c) a w) (hy : YieldsIf P ops S oi v a) (hS : S w)
    (h : AnyZ P md ops Q S z n (listed.setIfInBounds i true) (a.put oi.dst v) w) : AnyZ P md ops Q S z (n + 1) listed a w :=
  AnyZ.first hi hz (Region.noSelect_spec hs) hQ n listed a w (Region.free_spec hi hf) (by simpa using hr) (by simpa using hiz) hy hS h
/-- the only one that may come up is carried out -/
theorem AnyZ.lone (i : Nat) (o : Oper) {n : Nat} {listed : Array Bool} {a : Act} {w : World} (hr : Region.ready md ops listed = [i]) (ho : ops[i]? = some o)
    (h : ∀ K' : Act → World → Prop, Shut (∀ a w, ((i == z) = false → S w) → (((i == z) = false → S w) → AnyZ P md ops Q S z n (listed.setIfInBounds i true) a w) → K' a w) → if Region.wanted o (yielded ops a.tmps) = true then Oper.wp P o a w K' Q else K' (a.put o.dst undef) w) : AnyZ P md ops Q S z (n + 1) listed a w := by
  refine ⟨fun e => (by rw [hr] at e; cases e), fun j hj => ?_⟩
  rw [hr] at hj
  obtain rfl : j = i := by simpa using hj
  refine wpOp_step ho fun K' hK => h K' fun a w hS hW => hK a w ⟨fun hne => hS (by simpa using hne), hW hS⟩
theorem AnyZ.done {listed : Array Bool} {a : Act} {w : World} (hr : Region.ready md ops listed = []) (h : Q .normal a w) : ∀ n, AnyZ P md ops Q S z n listed a w
  | 0 => ⟨hr, h⟩
  | n + 1 => ⟨fun _ => h, fun i hi => by rw [hr] at hi; cases hi⟩
theorem AnyZ.start {id : Nat} {a : Act} {w : World} (z : Nat) (S : World → Prop) (hm : P.follows .mixedOrders = true) (hS : S w.drew)
    (h : S w.drew → AnyZ P .any ops Q S z ops.size (Array.replicate ops.size false) a w.drew) : (Code.region id ops true).wp P Q a w := wp_region_any hm (AnyZ.any _ _ _ _ (h hS))
end
end Go.Proofs.Ytmmgnbdngpkfcaa

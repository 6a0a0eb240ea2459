
/-
  A map from ints that the call itself made: what lies at which key; made, read, stored into, struck.
-/
import Derived.Test.YtmmgnbdngpkfcaaBtsPut
import Derived.Maps.OwnSet
import Derived.Maps.OwnOps
namespace Go.Proofs.Ytmmgnbdngpkfcaa
open Go.RowKit
open Go.Maps (Keyed)
set_option linter.unusedVariables false

def heldR (v : Value) : Option (DataW Value × List MemPlace) := some (.held v, [])
theorem heldR_inv {v : Value} {d : DataW Value} {ps : List MemPlace} (h : heldR v = some (d, ps)) : d = .held v ∧ ps = [] := by
  simp only [heldR, Option.some.injEq, Prod.mk.injEq] at h
  exact ⟨h.1.symm, h.2.symm⟩
theorem held_inj {v v' : Value} (h : DataW.held v = DataW.held v') : v = v' := by cases h; rfl
def i64ok (z : Int) : Prop := -9223372036854775808 ≤ z ∧ z ≤ 9223372036854775807
theorem i64ok.wf {z : Int} (h : i64ok z) : (Lit.int .i64 z).wf = true := by
  unfold i64ok at h
  simp [Lit.wf, IntKind.min, IntKind.max, IntKind.signed, IntKind.bits]; exact h
theorem keyed_int : Keyed Try.prog 3 := Maps.int_keyed Try.underlying3
theorem key_int {z : Int} (h : i64ok z) : keyOf Try.prog 3 (.int .i64 z) = some (.int .i64 z) := Maps.keyOf_int_mk Try.underlying3 h.wf
/-- block b is a map of at most n entries; f tells what lies at which key -/
def IMap (w : World) (b n : Nat) (f : Int → Option Value) : Prop :=
  ∃ D : DataW Value, w.ownsMap Try.prog 3 heldR b n D ∧ (∀ z d, D.atKey (.int .i64 z) d = match f z with | some v => .held v | none => d) ∧ ∀ z, ¬ i64ok z → f z = none
def updM (f : Int → Option Value) (k : Int) (v : Option Value) : Int → Option Value := fun z => if z = k then v else f z
section
variable {w w' : World} {b n : Nat} {f : Int → Option Value}
theorem IMap.lt (h : IMap w b n f) : b < w.heap.size := by
  obtain ⟨D, h1, _⟩ := h
  exact h1.lt
theorem IMap.keep (h : IMap w b n f) (e : w'.heap[b]? = w.heap[b]?) : IMap w' b n f := by
  obtain ⟨D, ⟨es, clock, hb, r⟩, h2⟩ := h
  exact ⟨D, ⟨es, clock, e.trans hb, r⟩, h2⟩
theorem IMap.mono (h : IMap w b n f) {n' : Nat} (hn : n ≤ n') : IMap w b n' f := by
  obtain ⟨D, h1, h2⟩ := h
  exact ⟨D, h1.mono hn, h2⟩
theorem IMap.made (w : World) : IMap (w.alloc (.map #[] 0)) w.heap.size 0 fun _ => none :=
  ⟨.map [], World.ownsMap_made w _ _ _, fun z d => by simp [DataW.atKey], fun _ _ => rfl⟩
theorem IMap.has {D : DataW Value} (h : ∀ z d, D.atKey (.int .i64 z) d = match f z with | some v => .held v | none => d) (z : Int) : Maps.has D (.int .i64 z) = (f z).isSome := by
  cases hf : f z
  · rw [Maps.has_false_of_atKey fun d => by rw [h, hf]]; rfl
  · rename_i v
    rw [Maps.has_true_of_atKey (y := .held v) fun d => by rw [h, hf]]; rfl
theorem IMap.lookup (h : IMap w b n f) {t e : TypeId} (ht : Try.prog.underlying t = some (.map 3 e)) {z : Value} (hz : (zeroValue e).run Try.prog w = .ok z w) {k : Int} (hk : i64ok k) :
    (Instr.lookup t (.map (some b)) (.int .i64 k) false).run Try.prog w = .ok ((f k).getD z) w := by
  obtain ⟨D, h1, h2, _⟩ := h
  obtain ⟨v, ps, hr, hv⟩ := h1.lookup keyed_int ht hz (zd := .held z) (zp := []) rfl (key_int hk)
  obtain ⟨hv, _⟩ := heldR_inv hv
  rw [hr]
  rw [h2] at hv
  cases hf : f k
  · rw [hf] at hv
    rw [← held_inj hv]; rfl
  · rw [hf] at hv
    rw [← held_inj hv]; rfl
theorem IMap.look_ok (h : IMap w b n f) {t e : TypeId} (ht : Try.prog.underlying t = some (.map 3 e)) {z : Value} (hz : (zeroValue e).run Try.prog w = .ok z w) {k : Int} (hk : i64ok k) :
    (Instr.lookup t (.map (some b)) (.int .i64 k) true).run Try.prog w = .ok (.tuple #[(f k).getD z, .bool (f k).isSome]) w := by
  obtain ⟨D, h1, h2, _⟩ := h
  obtain ⟨v, ps, hr, hv⟩ := h1.look_ok keyed_int ht hz (zd := .held z) (zp := []) rfl (key_int hk)
  obtain ⟨hv, _⟩ := heldR_inv hv
  rw [hr, IMap.has h2]
  rw [h2] at hv
  cases hf : f k
  · rw [hf] at hv
    rw [← held_inj hv]; rfl
  · rw [hf] at hv
    rw [← held_inj hv]; rfl
theorem turned_only (h : w.mapTurned w' b) : Only (· = b) w w' := by
  have g := World.mapTurned.grown h
  exact ⟨g.os, g.tape, g.output, g.size, fun k hk hn => g.block k hk fun e => hn (by injection e)⟩
theorem i64_ne {z k : Int} (h : z ≠ k) : Lit.int .i64 z ≠ .int .i64 k := fun e => h (by injection e)
theorem IMap.store (h : IMap w b n f) {t e : TypeId} (ht : Try.prog.underlying t = some (.map 3 e)) (hn : n < maxLen) {k : Int} (hk : i64ok k) (v : Value) :
    ∃ w', (Instr.mapUpdate t (.map (some b)) (.int .i64 k) v).run Try.prog w = .ok () w' ∧ IMap w' b (n + 1) (updM f k (some v)) ∧ Only (· = b) w w' := by
  obtain ⟨D, h1, h2, h3⟩ := h
  obtain ⟨w', hr, g1, g2⟩ := h1.store keyed_int ht hn (key_int hk) (val := v) (d := .held v) (ps := []) rfl
  refine ⟨w', hr, ⟨_, g1, fun z d => ?_, fun z hz => ?_⟩, turned_only g2⟩
  · unfold updM
    by_cases hzk : z = k
    · subst hzk
      rw [Maps.atKey_put_same h1.isMap (keyed_int.key (key_int hk)), if_pos rfl]
    · rw [Maps.atKey_put_other (i64_ne hzk), if_neg hzk, h2]
  · unfold updM
    rw [if_neg (fun e : z = k => hz (by rw [e]; exact hk)), h3 z hz]
theorem IMap.drop (h : IMap w b n f) {t e : TypeId} (ht : Try.prog.underlying t = some (.map 3 e)) {k : Int} (hk : i64ok k) (ty : TypeId) :
    ∃ w', (Builtin.delete_ #[t, 3] ty #[.map (some b), .int .i64 k]).run Try.prog w = .ok (.tuple #[]) w' ∧ IMap w' b n (updM f k none) ∧ Only (· = b) w w' := by
  obtain ⟨D, h1, h2, h3⟩ := h
  obtain ⟨w', hr, g1, g2⟩ := h1.drop keyed_int ht (key_int hk) ty
  refine ⟨w', hr, ⟨_, g1, fun z d => ?_, fun z hz => ?_⟩, turned_only g2⟩
  · unfold updM
    by_cases hzk : z = k
    · subst hzk
      rw [Maps.atKey_del_same, if_pos rfl]
    · rw [Maps.atKey_del_other (i64_ne hzk), if_neg hzk, h2]
  · unfold updM
    split
    · rfl
    · exact h3 z hz
/-- how many keys there are -/
def Card (f : Int → Option Value) (m : Nat) : Prop := ∃ ks : List Int, ks.Nodup ∧ (∀ z, z ∈ ks ↔ (f z).isSome = true) ∧ ks.length = m
theorem nodup_len {α : Type} [DecidableEq α] : ∀ {l l' : List α}, l.Nodup → (∀ x ∈ l, x ∈ l') → l.length ≤ l'.length
  | [], _, _, _ => Nat.zero_le _
  | a :: r, l', h, hs => by
    have h1 := List.nodup_cons.1 h
    have h2 := nodup_len (l := r) (l' := l'.erase a) h1.2 fun x hx => (List.mem_erase_of_ne (fun e : x = a => h1.1 (by rw [← e]; exact hx))).2 (hs x (List.mem_cons_of_mem _ hx))
    have h3 := hs a List.mem_cons_self
    have h4 : 0 < l'.length := List.length_pos_of_mem h3
    rw [List.length_erase_of_mem h3] at h2
    simp only [List.length_cons]
    omega
theorem Card.unique {m m' : Nat} (h : Card f m) (h' : Card f m') : m = m' := by
  obtain ⟨ks, h1, h2, rfl⟩ := h
  obtain ⟨ks', h3, h4, rfl⟩ := h'
  exact Nat.le_antisymm (nodup_len h1 fun x hx => (h4 x).2 ((h2 x).1 hx)) (nodup_len h3 fun x hx => (h2 x).2 ((h4 x).1 hx))
theorem Card.zero : Card (fun _ => none) 0 := ⟨[], List.nodup_nil, fun z => by simp, rfl⟩
theorem Card.put_new {m : Nat} (h : Card f m) {k : Int} (hk : f k = none) (v : Value) : Card (updM f k (some v)) (m + 1) := by
  obtain ⟨ks, h1, h2, rfl⟩ := h
  refine ⟨k :: ks, List.nodup_cons.2 ⟨fun hm => ?_, h1⟩, fun z => ?_, rfl⟩
  · have := (h2 k).1 hm; rw [hk] at this; cases this
  · unfold updM
    rw [List.mem_cons]
    by_cases hz : z = k
    · simp [hz]
    · simp [hz, h2]
theorem Card.put_old {m : Nat} (h : Card f m) {k : Int} (hk : (f k).isSome = true) (v : Value) : Card (updM f k (some v)) m := by
  obtain ⟨ks, h1, h2, rfl⟩ := h
  refine ⟨ks, h1, fun z => ?_, rfl⟩
  unfold updM
  by_cases hz : z = k
  · subst hz; simp [h2, hk]
  · simp [hz, h2]
theorem own_card {D : DataW Value} (h1 : w.ownsMap Try.prog 3 heldR b n D) (h2 : ∀ z d, D.atKey (.int .i64 z) d = match f z with | some v => .held v | none => d) : Card f (Maps.size D) := by
  obtain ⟨es, clock, hb, F, hs, rfl⟩ := h1
  obtain ⟨L, hL⟩ : ∃ L, L = es.toList.map (WideElems.rg Try.prog 3 heldR) := ⟨_, rfl⟩
  have hap : (L.foldr DataW.insert []).Pairwise (fun p q => p.1 ≠ q.1) := ((WideShapes.sorted_perm _).pairwise_iff (fun {_ _} hne => Ne.symm hne)).2 (by rw [hL]; exact Maps.fit_apart keyed_int F)
  have hke : ∀ p ∈ L.foldr DataW.insert [], ∃ z, i64ok z ∧ p.1 = .int .i64 z := by
    intro p hp
    have hp' := (WideShapes.sorted_perm L).mem_iff.1 hp
    rw [hL] at hp'
    obtain ⟨v, hv⟩ := Maps.fit_keys F p hp'
    have hu : Try.prog.underlying 3 = some (.int .i64) := Try.underlying3
    cases v <;> simp [keyOf, hu, mapKey] at hv
    obtain ⟨⟨rfl, hw⟩, hv⟩ := hv
    refine ⟨_, ?_, hv.symm⟩
    simp [Lit.wf, IntKind.min, IntKind.max, IntKind.signed, IntKind.bits] at hw
    exact hw
  rw [← hL] at h2 ⊢
  obtain ⟨E, hE⟩ : ∃ E, E = L.foldr DataW.insert [] := ⟨_, rfl⟩
  rw [← hE] at hap hke h2 ⊢
  have hint : ∀ l : Lit, ∃ z : Int, ∀ y, l = .int .i64 y → z = y := fun l => by
    by_cases h : ∃ y, l = .int .i64 y
    · obtain ⟨y, rfl⟩ := h
      exact ⟨y, fun y' h => by injection h⟩
    · exact ⟨0, fun y e => absurd ⟨y, e⟩ h⟩
  obtain ⟨zi, hzi⟩ : ∃ zi : Lit → Int, ∀ l y, l = .int .i64 y → zi l = y := ⟨fun l => (hint l).choose, fun l y e => (hint l).choose_spec y e⟩
  refine ⟨E.map fun p => zi p.1, ?_, fun z => ?_, by rw [List.length_map]; rfl⟩
  · refine List.pairwise_map.2 (List.Pairwise.imp_of_mem (fun {p q} hp hq hne => ?_) hap)
    obtain ⟨z1, _, e1⟩ := hke p hp
    obtain ⟨z2, _, e2⟩ := hke q hq
    rw [hzi _ _ e1, hzi _ _ e2]
    rintro rfl
    exact hne (e1.trans e2.symm)
  · rw [← IMap.has h2, Maps.has_eq, List.any_eq_true, List.mem_map]
    constructor
    · rintro ⟨p, hp, rfl⟩
      obtain ⟨z1, h1, e1⟩ := hke p hp
      refine ⟨p, hp, ?_⟩
      rw [hzi _ _ e1, e1]
      exact WideAt.sameKey_self (keyed_int.key (key_int h1))
    · rintro ⟨p, hp, hs⟩
      exact ⟨p, hp, hzi _ _ (WideAt.sameKey_eq hs)⟩
theorem IMap.len (h : IMap w b n f) {t e : TypeId} (ht : Try.prog.underlying t = some (.map 3 e)) (ty : TypeId) :
    ∃ m : Nat, (Builtin.len_ #[t] ty #[.map (some b)]).run Try.prog w = .ok (.int .i64 m) w ∧ Card f m ∧ m ≤ n := by
  obtain ⟨D, h1, h2, h3⟩ := h
  exact ⟨_, h1.len ht ty, own_card h1 h2, h1.size_le⟩
/-- as many entries as keys, and no more -/
theorem IMap.tight {m : Nat} (h : IMap w b n f) (hc : Card f m) : IMap w b m f := by
  obtain ⟨D, h1, h2, h3⟩ := h
  have h4 := own_card h1 h2
  obtain ⟨es, clock, hb, F, hs, hD⟩ := h1
  refine ⟨D, ⟨es, clock, hb, F, ?_, hD⟩, h2, h3⟩
  have e1 : Maps.size D = es.size := by rw [hD]; simp [Maps.size, length_sorted]
  rw [← e1, h4.unique hc]
  exact Nat.le_refl _
/-- keys within a few numbers -/
theorem Card.below {m k : Nat} (h : Card f m) (hk : ∀ z, (f z).isSome = true → 0 ≤ z ∧ z < (k : Int)) : m ≤ k := by
  obtain ⟨ks, h1, h2, rfl⟩ := h
  have := nodup_len h1 (l' := (List.range k).map Int.ofNat) fun x hx => by
    have h3 := hk x ((h2 x).1 hx)
    exact List.mem_map.2 ⟨x.toNat, List.mem_range.2 (by omega), by show ((x.toNat : Nat) : Int) = x; omega⟩
  simpa using this
theorem IMap.card (h : IMap w b n f) : ∃ m, Card f m := by
  obtain ⟨D, h1, h2, h3⟩ := h
  exact ⟨_, own_card h1 h2⟩
theorem IMap.fit {k : Nat} (h : IMap w b n f) (hk : ∀ z, (f z).isSome = true → 0 ≤ z ∧ z < (k : Int)) : IMap w b k f := by
  obtain ⟨m, hm⟩ := h.card
  exact (h.tight hm).mono (hm.below hk)
end
end Go.Proofs.Ytmmgnbdngpkfcaa

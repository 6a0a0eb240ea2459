/-
  What a group of members holds in memory: colours of all; what is left alone while one part turns; slices that begin anywhere in their block.
  A group of members in memory, and how its parts turn.
  A group's member begins again, walked.
-/
import Derived.Test.YtmmgnbdngpkfcaaVaS
import Derived.Test.YtmmgnbdngpkfcaaVwCc
import Derived.ArgAppend
namespace Go.Proofs.Ytmmgnbdngpkfcaa
open Go.RowKit
set_option linter.unusedVariables false

/-- member y's part i has the colour 10y + i, the group's own part i the colour i -/
def pj (y : Nat) (C : Col) : Col := fun k => if C k = 0 then 0 else if C k / 10 = y then C k % 10 else 9
def lf (y : Nat) (C : Col) (n : Nat) (M' : Col) : Col := fun k => if M' k = 0 then 0 else if M' k ≤ 7 then 10 * y + M' k else if k < n ∧ C k / 10 ≠ y then C k else 99
/-- blocks of colours S turn, others are left alone -/
structure Kp (S : Nat → Prop) (C : Col) (w : World) (C' : Col) (w' : World) : Prop where
  only : Only (fun k => S (C k)) w w'
  col : ∀ k, k < w.heap.size → ¬ S (C k) → C' k = C k
  dom : ∀ k, C' k ≠ 0 → k < w'.heap.size
section
variable {S S' : Nat → Prop} {C C' C2 : Col} {w w' w2 : World}
theorem Kp.blk (h : Kp S C w C' w') {k : Nat} (hk : k < w.heap.size) (hs : ¬ S (C k)) : w'.heap[k]? = w.heap[k]? ∧ C' k = C k := ⟨h.only.block k hk hs, h.col k hk hs⟩
theorem Kp.im (h : Kp S C w C' w') (h0 : ¬ S 0) {k : Nat} (hm : Im C k) (hk : k < w.heap.size) : w'.heap[k]? = w.heap[k]? ∧ Im C' k := by
  have hm : C k = 0 := hm
  obtain ⟨a, b⟩ := h.blk hk (by rw [hm]; exact h0)
  exact ⟨a, b.trans hm⟩
theorem Kp.refl (S : Nat → Prop) (hd : ∀ k, C k ≠ 0 → k < w.heap.size) : Kp S C w C w := ⟨Only.refl _ _, fun _ _ _ => rfl, hd⟩
theorem Kp.mono (h : Kp S C w C' w') (hs : ∀ c, S c → S' c) : Kp S' C w C' w' := ⟨h.only.mono fun k hk => hs _ hk, fun k hk hn => h.col k hk fun e => hn (hs _ e), h.dom⟩
theorem Kp.below (hd : ∀ k, C k ≠ 0 → k < w.heap.size) (hb : Below w.heap.size w w') : Kp S C w C w' := ⟨Go.Proofs.Ytmmgnbdngpkfcaa.Below.only hb, fun _ _ _ => rfl, fun k hk => Nat.lt_of_lt_of_le (hd k hk) hb.size⟩
theorem Kp.of_only {T : Nat → Prop} (hd : ∀ k, C k ≠ 0 → k < w.heap.size) (ho : Only T w w') (hT : ∀ k, T k → S (C k)) : Kp S C w C w' := ⟨ho.mono hT, fun _ _ _ => rfl, fun k hk => Nat.lt_of_lt_of_le (hd k hk) ho.size⟩
theorem Sl.kp {α : Type} {E : Enc α} {a : Option Addr} {l : List α} (hs : 0 < E.sz) (h : Sl E (Im C) w a l) (t : Kp S C w C' w') (h0 : ¬ S 0) : Sl E (Im C') w' a l :=
  h.mono hs fun k ho hk => t.im h0 ho hk
theorem VwAt.kp {y g : Nat} {c : Vw.Core} (h : VwAt (pj y C) w g c) (t : Kp S C w C' w') (h0 : ¬ S 0) (hy : ∀ d, S d → d / 10 ≠ y) : VwAt (pj y C') w' g c := by
  refine h.keep (fun k hk h7 => ?_) fun k hk => t.dom k fun e => hk (by unfold pj; rw [if_pos e])
  have hns : ¬ S (C k) := fun hs => by
    unfold pj at h7
    by_cases e : C k = 0
    · rw [e] at hs; exact h0 hs
    · rw [if_neg e, if_neg (hy _ hs)] at h7
      omega
  obtain ⟨a, b⟩ := t.blk hk hns
  refine ⟨a, ?_⟩
  unfold pj; rw [b]
/-- a member has turned -/
theorem Kp.member {y g : Nat} {c : Vw.Core} {M' : Col} (hd : ∀ k, C k ≠ 0 → k < w.heap.size) (f : Fr (pj y C) w M' w') (h : VwAt M' w' g c) (hy : 1 ≤ y ∧ y ≤ 8) :
    Kp (fun d => d / 10 = y ∧ d ≠ 0) C w (lf y C w.heap.size M') w' ∧ VwAt (pj y (lf y C w.heap.size M')) w' g c ∧ ∀ k, k < w'.heap.size → Im M' k → Im (lf y C w.heap.size M') k := by
  have hmine : ∀ k, Mine (pj y C) k → C k / 10 = y ∧ C k ≠ 0 := fun k hk => by
    unfold Mine pj at hk
    by_cases e : C k = 0
    · rw [if_pos e] at hk; omega
    · rw [if_neg e] at hk
      by_cases e2 : C k / 10 = y
      · exact ⟨e2, e⟩
      · rw [if_neg e2] at hk; omega
  have hnm : ∀ k, ¬ (C k / 10 = y ∧ C k ≠ 0) → ¬ Mine (pj y C) k ∧ (C k = 0 ∧ pj y C k = 0 ∨ C k ≠ 0 ∧ C k / 10 ≠ y ∧ pj y C k = 9) := fun k hk => by
    refine ⟨fun h => hk (hmine k h), ?_⟩
    unfold pj
    by_cases e : C k = 0
    · exact .inl ⟨e, if_pos e⟩
    · have e2 : C k / 10 ≠ y := fun e2 => hk ⟨e2, e⟩
      exact .inr ⟨e, e2, by rw [if_neg e, if_neg e2]⟩
  have hpj : ∀ k, pj y (lf y C w.heap.size M') k = if M' k ≤ 7 then M' k else 9 := fun k => by
    unfold lf
    by_cases e : M' k = 0
    · simp [pj, e]
    · by_cases e2 : M' k ≤ 7
      · have h1 : 10 * y + M' k ≠ 0 := by omega
        have h2 : (10 * y + M' k) / 10 = y := by omega
        have h3 : (10 * y + M' k) % 10 = M' k := by omega
        simp only [pj, if_neg e, if_pos e2, if_neg h1, if_pos h2, h3]
      · by_cases e3 : k < w.heap.size ∧ C k / 10 ≠ y
        · have h0 : C k ≠ 0 := fun h0 => by
            have := f.zero e3.1 (show pj y C k = 0 by unfold pj; rw [if_pos h0])
            exact e this
          simp only [pj, if_neg e, if_neg e2, if_pos e3, if_neg h0, if_neg e3.2]
        · have h2 : ¬ (99 / 10 = y) := by omega
          simp only [pj, if_neg e, if_neg e2, if_neg e3, if_neg h2, if_neg (show ¬ (99 : Nat) = 0 by decide)]
  have hdom' : ∀ k, lf y C w.heap.size M' k ≠ 0 → k < w'.heap.size := fun k hk => h.dom k fun e => hk (by unfold lf; rw [if_pos e])
  refine ⟨⟨f.1.mono fun k hk => hmine k hk, fun k hk hn => ?_, hdom'⟩, ?_, fun k _ hk => by unfold Im lf; rw [if_pos (show M' k = 0 from hk)]⟩
  · obtain ⟨h1, h2⟩ := hnm k hn
    have h3 := f.2 k hk h1
    unfold lf
    rcases h2 with ⟨e1, e2⟩ | ⟨e1, e2, e3⟩
    · rw [h3, e2, if_pos rfl, e1]
    · rw [h3, e3, if_neg (by decide), if_neg (by decide), if_pos ⟨hk, e2⟩]
  · refine h.keep (fun k hk h7 => ⟨rfl, ?_⟩) fun k hk => hdom' k fun e => hk (by unfold pj; rw [if_pos e])
    rw [hpj, if_pos h7]
/-- a member is made anew -/
theorem Kp.newMember {y g : Nat} {c : Vw.Core} (hd : ∀ k, C k ≠ 0 → k < w.heap.size) (h : NewToO (Im C) w w' g c) (hy : 1 ≤ y ∧ y ≤ 8) :
    ∃ C', Kp (fun d => d / 10 = y ∧ d ≠ 0) C w C' w' ∧ VwAt (pj y C') w' g c := by
  obtain ⟨M', hv, ho, hb⟩ := h
  refine ⟨fun k => if k < w.heap.size then (if C k / 10 = y ∧ C k ≠ 0 then 99 else C k) else if M' k = 0 then 0 else if M' k ≤ 7 then 10 * y + M' k else 99, ⟨Go.Proofs.Ytmmgnbdngpkfcaa.Below.only hb, fun k hk hn => ?_, fun k hk => ?_⟩, ?_⟩
  · rw [if_pos hk, if_neg hn]
  · by_cases e : k < w.heap.size
    · exact Nat.lt_of_lt_of_le e hb.size
    · rw [if_neg e] at hk
      exact hv.dom k fun e2 => hk (by rw [if_pos e2])
  · refine hv.keep (fun k hk h7 => ⟨rfl, ?_⟩) fun k hk => ?_
    · by_cases e : k < w.heap.size
      · have hz : C k = 0 := Classical.byContradiction fun e2 => by
          have := (ho k e).2 e2
          omega
        have hm := (ho k e).1 hz
        unfold pj
        simp only [if_pos e]
        have h2 : ¬ (C k / 10 = y ∧ C k ≠ 0) := fun h => h.2 hz
        rw [if_neg h2, hz, hm]
        rfl
      · unfold pj
        simp only [if_neg e]
        by_cases e1 : M' k = 0
        · simp [e1]
        · have h1 : 10 * y + M' k ≠ 0 := by omega
          have h2 : (10 * y + M' k) / 10 = y := by omega
          have h3 : (10 * y + M' k) % 10 = M' k := by omega
          simp only [if_neg e1, if_pos h7, if_neg h1, if_pos h2, h3]
    · by_cases e : k < w.heap.size
      · exact Nat.lt_of_lt_of_le e hb.size
      · refine hv.dom k fun e2 => hk ?_
        unfold pj
        simp only [if_neg e, e2, if_true]
/-- what is handed to a member's maker -/
theorem pj_im {y : Nat} {k : Nat} (hy : 1 ≤ y) (h : Im C k) : Im (pj y C) k := by unfold Im pj; rw [if_pos (show C k = 0 from h)]
end
/-- a slice in a part of its own; it may begin anywhere in its block -/
def OwnQ {α : Type} (C : Col) (i : Nat) (E : Enc α) (te : TypeId) (w : World) (v : Value) (l : List α) : Prop :=
  (v = .slice none 0 0 ∧ l = []) ∨ ∃ (g o cap : Nat) (cur : Array Value), v = .slice (some ⟨g, o, none⟩) l.length cap ∧ C g = i ∧ w.heap[g]? = some (.cells cur te (0, 0)) ∧ l.length ≤ cap ∧ cap ≤ maxLen ∧ o + cap * E.sz ≤ cur.size ∧
    ∀ k x, l[k]? = some x → ∃ cs, E.rep (Im C) w cs x ∧ ∀ j u, cs[j]? = some u → cur[o + k * E.sz + j]? = some u
section
variable {α : Type} {S : Nat → Prop} {C C' : Col} {w w' : World} {i : Nat} {E : Enc α} {te : TypeId} {v : Value} {l : List α}
theorem OwnQ.nil (C : Col) (i : Nat) (E : Enc α) (te : TypeId) (w : World) : OwnQ C i E te w (.slice none 0 0) [] := .inl ⟨rfl, rfl⟩
theorem OwnQ.kp (h : OwnQ C i E te w v l) (t : Kp S C w C' w') (h0 : ¬ S 0) (hi : ¬ S i) : OwnQ C' i E te w' v l := by
  rcases h with h | ⟨g, o, cap, cur, hv, hg, hh, h1, h2, h3, h4⟩
  · exact .inl h
  · have hgz := (Array.getElem?_eq_some_iff.1 hh).1
    obtain ⟨e1, e2⟩ := t.blk hgz (by rw [hg]; exact hi)
    refine .inr ⟨g, o, cap, cur, hv, e2.trans hg, e1.trans hh, h1, h2, h3, fun k x hx => ?_⟩
    obtain ⟨cs, hr, hc⟩ := h4 k x hx
    exact ⟨cs, E.mono hr fun b hb hlt => t.im h0 hb hlt, hc⟩
theorem OwnQ.shape (h : OwnQ C i E te w v l) : ∃ a c, v = .slice a l.length c ∧ l.length ≤ c ∧ c ≤ maxLen := by
  rcases h with ⟨rfl, rfl⟩ | ⟨g, o, cap, cur, hv, hg, hh, h1, h2, h3, h4⟩
  · exact ⟨none, 0, rfl, Nat.le_refl _, Nat.zero_le _⟩
  · exact ⟨_, cap, hv, h1, h2⟩
/-- what is handed away can be read -/
theorem OwnQ.sl (h : OwnQ C i E te w v l) {ok : Nat → Prop} (hk : ∀ k, C k = i → ok k) (h0 : ∀ k, Im C k → ok k) {a : Option Addr} {n c : Nat} (hv : v = .slice a n c) : Sl E ok w a l := by
  rcases h with ⟨rfl, rfl⟩ | ⟨g, o, cap, cur, rfl, hg, hh, h1, h2, h3, h4⟩
  · injection hv with e1 e2 e3; subst e1; exact Sl.nil _ _ _ _
  · injection hv with e1 e2 e3
    subst e1
    intro k x hx
    obtain ⟨cs, hr, hc⟩ := h4 k x hx
    refine ⟨g, o, rfl, hk g hg, cs, E.mono hr fun b hb _ => ⟨rfl, h0 b hb⟩, fun j u hj => ?_⟩
    have := hc j u hj
    simp [World.cell?, hh, ← Nat.add_assoc, this]
/-- the first k away -/
theorem OwnQ.cut {a : Option Addr} {n c : Nat} (h : OwnQ C i E te w (.slice a n c) l) (k : Nat) (hk : k ≤ n) (hc : k < c) : ∃ a', OwnQ C i E te w (.slice a' (n - k) (c - k)) (l.drop k) ∧ a' = a.map (·.add (k * E.sz)) := by
  rcases h with ⟨e, rfl⟩ | ⟨g, o, cap, cur, e, hg, hh, h1, h2, h3, h4⟩
  · injection e with e1 e2 e3; omega
  · injection e with e1 e2 e3
    subst e1; subst e2; subst e3
    refine ⟨_, .inr ⟨g, o + k * E.sz, c - k, cur, ?_, hg, hh, by rw [List.length_drop]; omega, by omega, ?_, fun j x hx => ?_⟩, rfl⟩
    · rw [List.length_drop]
      show Value.slice (some ((⟨g, o, none⟩ : Addr).add (k * E.sz))) _ _ = _
      rw [Addr.add_lit]
    · have e : k * E.sz + (c - k) * E.sz = c * E.sz := by rw [← Nat.add_mul]; congr 1; omega
      omega
    · rw [List.getElem?_drop] at hx
      obtain ⟨cs, hr, hcs⟩ := h4 _ x hx
      refine ⟨cs, hr, fun j2 u hj => ?_⟩
      have := hcs j2 u hj
      rw [Nat.add_mul] at this
      rw [show o + k * E.sz + j * E.sz + j2 = o + (k * E.sz + j * E.sz) + j2 by omega]
      exact this
/-- an element's cells -/
theorem OwnQ.at (h : OwnQ C i E te w v l) {k : Nat} (hk : k < l.length) : ∃ g o cap cs, v = .slice (some ⟨g, o, none⟩) l.length cap ∧ C g = i ∧ E.rep (Im C) w cs l[k] ∧ (∀ j u, cs[j]? = some u → w.cell? ⟨g, o + k * E.sz + j, none⟩ = some u) ∧ (∀ j, w.frozen? ⟨g, j, none⟩ = false) ∧ l.length ≤ cap ∧ cap ≤ maxLen := by
  rcases h with ⟨rfl, rfl⟩ | ⟨g, o, cap, cur, rfl, hg, hh, h1, h2, h3, h4⟩
  · simp at hk
  · obtain ⟨cs, hr, hc⟩ := h4 k _ (List.getElem?_eq_getElem hk)
    exact ⟨g, o, cap, cs, rfl, hg, hr, fun j u hj => by simp [World.cell?, hh, hc j u hj], fun j => by simp [World.frozen?, hh], h1, h2⟩
/-- cells are written, one behind the other -/
theorem heap_setCells {g : Nat} : ∀ (news : List Value) (off : Nat) (w : World) (cur : Array Value), w.heap[g]? = some (.cells cur te (0, 0)) → off + news.length ≤ cur.size →
    ∃ cur', (w.setCells g off news).heap[g]? = some (.cells cur' te (0, 0)) ∧ cur'.size = cur.size ∧ (∀ j, j < off ∨ off + news.length ≤ j → cur'[j]? = cur[j]?) ∧ (∀ j u, news[j]? = some u → cur'[off + j]? = some u) ∧ Only (· = g) w (w.setCells g off news)
  | [], off, w, cur, h, _ => ⟨cur, h, rfl, fun _ _ => rfl, fun j u hj => by simp at hj, Only.refl _ _⟩
  | x :: r, off, w, cur, h, hs => by
    simp only [List.length_cons] at hs
    obtain ⟨cur', h1, h2, h3, h4, h5⟩ := heap_setCells r (off + 1) (w.setCell ⟨g, off, none⟩ x) (cur.setIfInBounds off x) (heap_set h off x) (by simp; omega)
    refine ⟨cur', h1, by rw [h2]; simp, fun j hj => ?_, fun j u hj => ?_, (setg (S := (· = g)) (Only.refl _ w) rfl off x).trans h5 fun _ _ h => h⟩
    · simp only [List.length_cons] at hj
      rw [h3 j (by omega), Array.getElem?_setIfInBounds_ne (by omega)]
    · cases j with
      | zero =>
        simp at hj; subst hj
        rw [Nat.add_zero, h3 off (by omega), Array.getElem?_setIfInBounds_self_of_lt (by omega)]
      | succ j =>
        simp at hj
        rw [show off + (j + 1) = off + 1 + j by omega]
        exact h4 j u hj
/-- an element is written -/
theorem OwnQ.set (h : OwnQ C i E te w v l) (hi : i ≠ 0) {k : Nat} (hk : k < l.length) {x : α} {cs : List Value} (hr : E.rep (Im C) w cs x) {g o n cap : Nat} (hv : v = .slice (some ⟨g, o, none⟩) n cap) :
    OwnQ C i E te (w.setCells g (o + k * E.sz) cs) v (l.set k x) ∧ Only (· = g) w (w.setCells g (o + k * E.sz) cs) ∧ C g = i := by
  rcases h with ⟨rfl, rfl⟩ | ⟨g', o', cap', cur, rfl, hg, hh, h1, h2, h3, h4⟩
  · simp at hk
  · injection hv with e1 e2 e3
    injection e1 with e1
    injection e1 with e1 e4
    subst e1; subst e4; subst e3
    have hlen := E.len hr
    have hroom : o' + k * E.sz + cs.length ≤ cur.size := by
      have := Nat.mul_le_mul_right E.sz (show k + 1 ≤ cap' by omega)
      rw [Nat.add_mul] at this; omega
    obtain ⟨cur', k1, k2, k3, k4, k5⟩ := heap_setCells cs (o' + k * E.sz) w cur hh hroom
    have him : ∀ b, Im C b → b < w.heap.size → (w.setCells g' (o' + k * E.sz) cs).heap[b]? = w.heap[b]? ∧ Im C b := fun b hb hlt => ⟨k5.block b hlt fun e => hi (by rw [← hg, ← e]; exact hb), hb⟩
    refine ⟨.inr ⟨g', o', cap', cur', by rw [List.length_set], hg, k1, by rw [List.length_set]; exact h1, h2, by rw [k2]; exact h3, fun j y hy => ?_⟩, k5, hg⟩
    by_cases e : j = k
    · subst e
      rw [List.getElem?_set_self hk] at hy
      injection hy with hy; subst hy
      exact ⟨cs, E.mono hr him, fun q u hq => k4 q u hq⟩
    · rw [List.getElem?_set_ne (Ne.symm e)] at hy
      obtain ⟨cs', hr', hc'⟩ := h4 j y hy
      refine ⟨cs', E.mono hr' him, fun q u hq => ?_⟩
      have hql : q < E.sz := by rw [← E.len hr']; exact (List.getElem?_eq_some_iff.1 hq).1
      rw [k3, hc' q u hq]
      rcases Nat.lt_or_gt_of_ne e with e | e
      · left
        have := Nat.mul_le_mul_right E.sz (show j + 1 ≤ k by omega)
        rw [Nat.add_mul] at this; omega
      · right
        have := Nat.mul_le_mul_right E.sz (show k + 1 ≤ j by omega)
        rw [Nat.add_mul] at this; omega
end
section
variable {P : Program} {w : World} {ops : Array Oper} {rest : List Oper} {o : Oper} {a : Act} {Q : Exit → Act → World → Prop}
/-- the run of an append onto a part, of what never turns -/
theorem run_appQ {α : Type} (E : Enc α) {t te ty : TypeId} {bytes : Nat} (ti : ElemInfo P t te E.sz bytes) {C : Col} {i : Nat} {v : Value} {l : List α} (hown : OwnQ C i E te w v l) (hi : i ≠ 0) (hdom : ∀ k, C k ≠ 0 → k < w.heap.size)
    {ad : Option Addr} {m c : Nat} {l2 : List α} (hm : m = l2.length) (hsl : Sl E (Im C) w ad l2) (hpos : 0 < l2.length)
    (h63 : l.length + l2.length ≤ maxLen) (hbytes : (l.length + l2.length) * bytes ≤ 140737488355328) :
    ∃ v' w' C', (Builtin.append_ #[t, t] ty #[v, .slice ad m c]).run P w = .ok v' w' ∧ OwnQ C' i E te w' v' (l ++ l2) ∧ Kp (· = i) C w C' w' := by
  subst hm
  obtain ⟨i0, z, hi0, hz, hsz, hby, hzc⟩ := ti.info
  obtain ⟨b, o', rfl, _⟩ := hsl 0 l2[0] (List.getElem?_eq_getElem hpos)
  obtain ⟨news, hn, hcells, hone, hnrep⟩ := hsl.flat ti.pos
  have grow : ∀ (olds : List Value) (v' : Value) (w' : World), olds.length = l.length * E.sz → (∀ k x, l[k]? = some x → ∃ cs, E.rep (Im C) w cs x ∧ ∀ j u, cs[j]? = some u → olds[k * E.sz + j]? = some u) →
      w'.ownsRow w.heap.size te E.sz v' (l.length + l2.length) (olds ++ news) → w.grownBy w' none → ∃ C', OwnQ C' i E te w' v' (l ++ l2) ∧ Kp (· = i) C w C' w' := by
    intro olds v' w' hol horep ho hg
    obtain ⟨C', hC'⟩ : ∃ C' : Col, C' = fun k => if v'.ownBlock = some k then i else C k := ⟨_, rfl⟩
    rcases ho.2 with ⟨rfl, h0⟩ | ⟨g, cap, cur, rfl, hbg, hgg, hnc, hcm, hcs, htake⟩
    · omega
    · have hob : (Value.slice (some ⟨g, 0, none⟩) (l.length + l2.length) cap).ownBlock = some g := rfl
      have hgz := (Array.getElem?_eq_some_iff.1 hgg).1
      have hold : ∀ k, k < w.heap.size → C' k = C k := fun k hk => by
        rw [hC', hob]
        simp only
        rw [if_neg (by intro e; injection e with e; omega)]
      have kp : Kp (· = i) C w C' w' := by
        refine ⟨⟨hg.os, hg.tape, hg.output, hg.size, fun k hk _ => hg.block k hk (by simp)⟩, fun k hk _ => hold k hk, fun k hk => ?_⟩
        rw [hC', hob] at hk
        simp only at hk
        by_cases e : some g = some k
        · injection e with e; omega
        · rw [if_neg e] at hk
          have := hdom k hk
          have := hg.size
          omega
      refine ⟨C', .inr ⟨g, 0, cap, cur, by rw [List.length_append], by rw [hC', hob]; simp, hgg, by rw [List.length_append]; exact hnc, hcm, by rw [hcs]; omega, fun k x hx => ?_⟩, kp⟩
      have him : ∀ b, Im C b → b < w.heap.size → w'.heap[b]? = w.heap[b]? ∧ Im C' b := fun b hb hlt => kp.im (fun e => hi e.symm) hb hlt
      have main : ∃ cs, E.rep (Im C) w cs x ∧ ∀ j u, cs[j]? = some u → (olds ++ news)[k * E.sz + j]? = some u := by
        by_cases hkl : k < l.length
        · rw [List.getElem?_append_left hkl] at hx
          obtain ⟨cs, hcr, hcc⟩ := horep k x hx
          refine ⟨cs, hcr, fun j u hj => ?_⟩
          have := hcc j u hj
          rw [List.getElem?_append_left (List.getElem?_eq_some_iff.1 this).1]; exact this
        · rw [List.getElem?_append_right (by omega)] at hx
          obtain ⟨cs, hcr, hcc⟩ := hnrep _ x hx
          refine ⟨cs, hcr, fun j u hj => ?_⟩
          have := hcc j u hj
          have e : k * E.sz + j - olds.length = (k - l.length) * E.sz + j := by
            have : k * E.sz = l.length * E.sz + (k - l.length) * E.sz := by rw [← Nat.add_mul]; congr 1; omega
            omega
          have hge : olds.length ≤ k * E.sz + j := by
            have : l.length * E.sz ≤ k * E.sz := Nat.mul_le_mul_right _ (by omega)
            omega
          rw [List.getElem?_append_right hge, e]
          exact this
      obtain ⟨cs, hr, hc⟩ := main
      refine ⟨cs, E.mono hr him, fun j u hj => ?_⟩
      have := hc j u hj
      rw [← htake, List.getElem?_take] at this
      split at this
      · rw [Nat.zero_add]; simpa using this
      · cases this
  rcases hown with ⟨rfl, rfl⟩ | ⟨g, off, cap, cur, rfl, hg, hh, h1, h2, h3, h4⟩
  · obtain ⟨v', w', hr, ho, hgr, _⟩ := run_append_own (P := P) w w.heap.size t ty te i0 z E.sz bytes ti.under hi0 hz hsz hby hzc ti.pos (.slice none 0 0) 0 [] (World.ownsRow_nil _ _ _ _) ⟨b, o', none⟩ l2.length c news hn hcells hone (by simpa using h63) (by simpa using hbytes) (Nat.le_refl _)
    obtain ⟨C', k1, k2⟩ := grow [] v' w' (by simp) (fun k x hx => by simp at hx) (by simpa using ho) hgr
    exact ⟨v', w', C', hr, k1, k2⟩
  · by_cases hroom : l.length + l2.length ≤ cap
    · have hfit : off + l.length * E.sz + news.length ≤ cur.size := by
        have := Nat.mul_le_mul_right E.sz hroom
        rw [Nat.add_mul] at this; omega
      obtain ⟨cur', k1, k2, k3, k4, k5⟩ := heap_setCells news (off + l.length * E.sz) w cur hh hfit
      have hrun := run_append_room_cells (P := P) (w := w) t ty te i0 ti.under hi0 g off l.length cap ⟨b, o', none⟩ l2.length c news (by rw [hsz]; exact hn) hcells hone hroom (fun j hj => by
        rw [hsz]
        have hlt : off + l.length * E.sz + j < cur.size := by omega
        simp [World.cell?, hh, hlt]) (fun j _ => by simp [World.frozen?, hh])
      rw [hsz] at hrun
      have kp : Kp (· = i) C w C (w.setCells g (off + l.length * E.sz) news) := Kp.of_only hdom k5 fun k hk => by rw [hk]; exact hg
      refine ⟨_, _, C, hrun, .inr ⟨g, off, cap, cur', by rw [List.length_append], hg, k1, by rw [List.length_append]; exact hroom, h2, by rw [k2]; exact h3, fun k x hx => ?_⟩, kp⟩
      have him : ∀ b, Im C b → b < w.heap.size → _ := fun b hb hlt => kp.im (fun e => hi e.symm) hb hlt
      by_cases hkl : k < l.length
      · rw [List.getElem?_append_left hkl] at hx
        obtain ⟨cs, hcr, hcc⟩ := h4 k x hx
        refine ⟨cs, E.mono hcr him, fun j u hj => ?_⟩
        have hjl : j < E.sz := by rw [← E.len hcr]; exact (List.getElem?_eq_some_iff.1 hj).1
        rw [k3 _ (.inl (by
          have := Nat.mul_le_mul_right E.sz (show k + 1 ≤ l.length by omega)
          rw [Nat.add_mul] at this; omega))]
        exact hcc j u hj
      · rw [List.getElem?_append_right (by omega)] at hx
        obtain ⟨cs, hcr, hcc⟩ := hnrep _ x hx
        refine ⟨cs, E.mono hcr him, fun j u hj => ?_⟩
        have e : off + k * E.sz + j = off + l.length * E.sz + ((k - l.length) * E.sz + j) := by
          have : k * E.sz = l.length * E.sz + (k - l.length) * E.sz := by rw [← Nat.add_mul]; congr 1; omega
          omega
        rw [e]
        exact k4 _ u (hcc j u hj)
    · obtain ⟨olds, hon, hocells, horep⟩ : ∃ olds : List Value, olds.length = l.length * E.sz ∧ (∀ j u, olds[j]? = some u → w.cell? ((⟨g, off, none⟩ : Addr).add j) = some u) ∧ ∀ k x, l[k]? = some x → ∃ cs, E.rep (Im C) w cs x ∧ ∀ j u, cs[j]? = some u → olds[k * E.sz + j]? = some u := by
        have hle : off + l.length * E.sz ≤ cur.size := by have := Nat.mul_le_mul_right E.sz h1; omega
        refine ⟨(cur.toList.drop off).take (l.length * E.sz), by simp; omega, fun j u hj => ?_, fun k x hx => ?_⟩
        · rw [List.getElem?_take] at hj
          split at hj
          · rw [List.getElem?_drop] at hj
            rw [Addr.add_lit]
            have hj' : cur[off + j]? = some u := by simpa using hj
            simp [World.cell?, hh, hj']
          · cases hj
        · obtain ⟨cs, hr, hc⟩ := h4 k x hx
          refine ⟨cs, hr, fun j u hj => ?_⟩
          have hkl : k < l.length := (List.getElem?_eq_some_iff.1 hx).1
          have hjl : j < E.sz := by rw [← E.len hr]; exact (List.getElem?_eq_some_iff.1 hj).1
          have hlt : k * E.sz + j < l.length * E.sz := by
            have := Nat.mul_le_mul_right E.sz (show k + 1 ≤ l.length by omega)
            rw [Nat.add_mul] at this; omega
          rw [List.getElem?_take, if_pos hlt, List.getElem?_drop, ← Nat.add_assoc]
          simpa using hc j u hj
      obtain ⟨v', w', hrun, ho, hgr⟩ := run_append_arg_grows (P := P) (w := w) t ty te i0 z E.sz bytes ti.under hi0 hz hsz hby hzc ti.pos ⟨g, off, none⟩ l.length cap olds hon hocells ⟨b, o', none⟩ l2.length c news hn hcells (by omega) h63 hbytes
      obtain ⟨C', k1, k2⟩ := grow olds v' w' hon horep ho hgr
      exact ⟨v', w', C', hrun, k1, k2⟩
theorem step_appQ {α : Type} {K : Act → World → Prop} (E : Enc α) {t te : TypeId} {bytes : Nat} {s x : Operand} {v : Value} {l l2 : List α} {ad : Option Addr} {m c : Nat} {C : Col} {i : Nat}
    (ho : o.op = .call { callee := .builtin .append, args := #[s, x], argTypes := #[t, t] }) (hs : a.eval s = v) (hx : a.eval x = .slice ad m c)
    (ti : ElemInfo P t te E.sz bytes) (hown : OwnQ C i E te w v l) (hi : i ≠ 0) (hdom : ∀ k, C k ≠ 0 → k < w.heap.size) (hm : m = l2.length) (hsl : Sl E (Im C) w ad l2) (hpos : 0 < l2.length)
    (h63 : l.length + l2.length ≤ maxLen) (hbytes : (l.length + l2.length) * bytes ≤ 140737488355328)
    (h : ∀ v' w' C', OwnQ C' i E te w' v' (l ++ l2) → Kp (· = i) C w C' w' → K (a.put o.dst v') w') : o.wp P a w K Q := by
  obtain ⟨v', w', C', hr, h2, h3⟩ := run_appQ (P := P) (ty := o.type) E ti hown hi hdom (c := c) hm hsl hpos h63 hbytes
  unfold Oper.wp execOp
  simp only [ho, resolve, invoke, builtin, Sem.run_bind, Sem.run_pure, Result.andThen_ok, List.map_toArray, List.map_cons, List.map_nil, hs, hx, hr]
  exact h v' w' C' h2 h3
theorem wpList_appQ {α : Type} (E : Enc α) {t te : TypeId} {bytes : Nat} {s x : Operand} {v : Value} {l l2 : List α} {ad : Option Addr} {m c : Nat} {C : Col} {i : Nat}
    (hgd : o.guard = none) (ho : o.op = .call { callee := .builtin .append, args := #[s, x], argTypes := #[t, t] }) (hs : a.eval s = v) (hx : a.eval x = .slice ad m c)
    (ti : ElemInfo P t te E.sz bytes) (hown : OwnQ C i E te w v l) (hi : i ≠ 0) (hdom : ∀ k, C k ≠ 0 → k < w.heap.size) (hm : m = l2.length) (hsl : Sl E (Im C) w ad l2) (hpos : 0 < l2.length)
    (h63 : l.length + l2.length ≤ maxLen) (hbytes : (l.length + l2.length) * bytes ≤ 140737488355328)
    (hk : ∀ v' w' C', OwnQ C' i E te w' v' (l ++ l2) → Kp (· = i) C w C' w' → wpList P ops Q rest (a.put o.dst v') w') : wpList P ops Q (o :: rest) a w := by
  refine wpList_plain hgd fun K hK => step_appQ E ho hs hx ti hown hi hdom hm hsl hpos h63 hbytes fun v' w' C' h1 h2 => hK _ _ (hk v' w' C' h1 h2)
end
/-- a member's address -/
def EPtr : Enc Nat where
  sz := 1
  rep _ _ cs g := cs = [.pointer (some ⟨g, 0, none⟩)]
  len h := by rw [h]; rfl
  one h := by rw [h]; intro u hu; simp at hu; subst hu; rfl
  mono h _ := h
theorem ti_keeps : ElemInfo Try.prog 121 95 EKeepI.sz 40 := ElemInfo.mk' (z := .agg #[.int .i64 0, .int .i64 0, .slice none 0 0]) Try.underlying121 (by kernel_rfl) rfl (by decide)
theorem ti_cores : ElemInfo Try.prog 122 103 EPtr.sz 8 := ElemInfo.mk' (z := .pointer none) Try.underlying122 (by kernel_rfl) rfl (by decide)
end Go.Proofs.Ytmmgnbdngpkfcaa

namespace Go.Proofs.Ytmmgnbdngpkfcaa
open Go.RowKit
set_option linter.unusedVariables false

theorem Kp.trans {S : Nat → Prop} {C C1 C2 : Col} {w w1 w2 : World} (h : Kp S C w C1 w1) (h2 : Kp S C1 w1 C2 w2) : Kp S C w C2 w2 :=
  ⟨h.only.trans h2.only fun k hk hs => Classical.byContradiction fun hn => hn (by rw [← h.col k hk hn]; exact hs), fun k hk hn => (h2.col k (Nat.lt_of_lt_of_le hk h.only.size) (by rw [h.col k hk hn]; exact hn)).trans (h.col k hk hn), h2.dom⟩
/-- any part may turn; what never turns never does -/
abbrev KpA (C : Col) (w : World) (C' : Col) (w' : World) : Prop := Kp (· ≠ 0) C w C' w'
theorem Kp.any {S : Nat → Prop} {C C' : Col} {w w' : World} (h : Kp S C w C' w') (h0 : ¬ S 0) : KpA C w C' w' := h.mono fun c hc e => h0 (by rw [← e]; exact hc)
theorem KpA.im {C C' : Col} {w w' : World} (h : KpA C w C' w') {k : Nat} (hm : Im C k) (hk : k < w.heap.size) : w'.heap[k]? = w.heap[k]? ∧ Im C' k := Kp.im h (fun e => e rfl) hm hk
/-- where the lists of a group lie -/
structure GrL where
  kv : Value
  cv : Value
  mv : Value
  sv : Value
  tv : Value
  gs : List Nat
/-- what a group's members last and stand at, the messages under way, what was told as done, how much each has told -/
structure Gx where
  n : Nat
  pat : Int
  ks : List Vw.Keep
  core : Int → Vw.Core
  mail : List Vw.Msg
  sure : List Vw.Bs
  told : List Int
def grRow (x : Gx) (L : GrL) : Array Value := #[.int .i64 x.n, .int .i64 x.pat, L.kv, L.cv, L.mv, L.sv, L.tv, .bool false]
structure GrP (X : Nat → Prop) (C : Col) (w : World) (x : Gx) (L : GrL) : Prop where
  dom : ∀ k, C k ≠ 0 → k < w.heap.size
  keeps : OwnQ C 2 EKeepI 95 w L.kv x.ks
  cores : OwnQ C 3 EPtr 103 w L.cv L.gs
  mails : OwnQ C 4 EMsg 89 w L.mv x.mail
  sures : OwnQ C 5 EBytes 49 w L.sv x.sure
  tolds : OwnQ C 6 EInt 3 w L.tv x.told
  kl : x.ks.length = x.n
  gl : L.gs.length = x.n
  tl : x.told.length = x.n
  mem : ∀ i g, ¬ X i → L.gs[i]? = some g → VwAt (pj (i + 1) C) w g (x.core ((i : Int) + 1))
structure GrM (C : Col) (w : World) (gg : Nat) (x : Gx) (L : GrL) : Prop where
  row : w.heap[gg]? = some (.cells (grRow x L) 124 (0, 0))
  gc : C gg = 1
  nn : 1 ≤ x.n ∧ x.n ≤ 5
  pp : 1 ≤ x.pat ∧ x.pat ≤ 100
  p : GrP (fun _ => False) C w x L
/-- it became x -/
def GrTo (C : Col) (w w' : World) (gg : Nat) (x : Gx) : Prop := ∃ C' L', GrM C' w' gg x L' ∧ KpA C w C' w'
section
variable {X : Nat → Prop} {C C' : Col} {w w' : World} {gg : Nat} {x : Gx} {L : GrL}
theorem GrM.lt (h : GrM C w gg x L) : gg < w.heap.size := (Array.getElem?_eq_some_iff.1 h.row).1
theorem GrM.cell (h : GrM C w gg x L) (k : Nat) {v : Value} (hv : (grRow x L)[k]? = some v) : w.cell? ⟨gg, k, none⟩ = some v := by simp [World.cell?, h.row, hv]
theorem GrM.fz (h : GrM C w gg x L) (o : Nat) : w.frozen? ⟨gg, o, none⟩ = false := by simp [World.frozen?, h.row]
theorem GrTo.of (h : GrM C w gg x L) : GrTo C w w gg x := ⟨C, L, h, Kp.refl _ h.p.dom⟩
theorem GrTo.trans {w2 : World} {C1 : Col} {x' : Gx} (t : KpA C w C1 w') (h : GrTo C1 w' w2 gg x') : GrTo C w w2 gg x' := by
  obtain ⟨C2, L2, h2, t2⟩ := h
  exact ⟨C2, L2, h2, t.trans t2⟩
theorem GrP.mem' {S : Nat → Prop} (h : GrP X C w x L) (t : Kp S C w C' w') (h0 : ¬ S 0) (hS : ∀ d, S d → d < 10) : ∀ i g, ¬ X i → L.gs[i]? = some g → VwAt (pj (i + 1) C') w' g (x.core ((i : Int) + 1)) :=
  fun i g hx hg => (h.mem i g hx hg).kp t h0 fun d hd e => by have := hS d hd; omega
theorem GrP.turn1 (h : GrP X C w x L) (t : Kp (· = 1) C w C' w') : GrP X C' w' x L :=
  ⟨t.dom, h.keeps.kp t (by decide) (by decide), h.cores.kp t (by decide) (by decide), h.mails.kp t (by decide) (by decide), h.sures.kp t (by decide) (by decide), h.tolds.kp t (by decide) (by decide), h.kl, h.gl, h.tl, h.mem' t (by decide) fun d hd => by omega⟩
theorem GrP.turn7 (h : GrP X C w x L) (t : Kp (· = 7) C w C' w') : GrP X C' w' x L :=
  ⟨t.dom, h.keeps.kp t (by decide) (by decide), h.cores.kp t (by decide) (by decide), h.mails.kp t (by decide) (by decide), h.sures.kp t (by decide) (by decide), h.tolds.kp t (by decide) (by decide), h.kl, h.gl, h.tl, h.mem' t (by decide) fun d hd => by omega⟩
theorem GrP.turn2 (h : GrP X C w x L) (t : Kp (· = 2) C w C' w') {kv : Value} {ks : List Vw.Keep} (ho : OwnQ C' 2 EKeepI 95 w' kv ks) (hl : ks.length = x.n) : GrP X C' w' { x with ks := ks } { L with kv := kv } :=
  ⟨t.dom, ho, h.cores.kp t (by decide) (by decide), h.mails.kp t (by decide) (by decide), h.sures.kp t (by decide) (by decide), h.tolds.kp t (by decide) (by decide), hl, h.gl, h.tl, h.mem' t (by decide) fun d hd => by omega⟩
theorem GrP.turn4 (h : GrP X C w x L) (t : Kp (· = 4) C w C' w') {mv : Value} {ms : List Vw.Msg} (ho : OwnQ C' 4 EMsg 89 w' mv ms) : GrP X C' w' { x with mail := ms } { L with mv := mv } :=
  ⟨t.dom, h.keeps.kp t (by decide) (by decide), h.cores.kp t (by decide) (by decide), ho, h.sures.kp t (by decide) (by decide), h.tolds.kp t (by decide) (by decide), h.kl, h.gl, h.tl, h.mem' t (by decide) fun d hd => by omega⟩
theorem GrP.turn5 (h : GrP X C w x L) (t : Kp (· = 5) C w C' w') {sv : Value} {ds : List Vw.Bs} (ho : OwnQ C' 5 EBytes 49 w' sv ds) : GrP X C' w' { x with sure := ds } { L with sv := sv } :=
  ⟨t.dom, h.keeps.kp t (by decide) (by decide), h.cores.kp t (by decide) (by decide), h.mails.kp t (by decide) (by decide), ho, h.tolds.kp t (by decide) (by decide), h.kl, h.gl, h.tl, h.mem' t (by decide) fun d hd => by omega⟩
theorem GrP.turn6 (h : GrP X C w x L) (t : Kp (· = 6) C w C' w') {tv : Value} {ts : List Int} (ho : OwnQ C' 6 EInt 3 w' tv ts) (hl : ts.length = x.n) : GrP X C' w' { x with told := ts } { L with tv := tv } :=
  ⟨t.dom, h.keeps.kp t (by decide) (by decide), h.cores.kp t (by decide) (by decide), h.mails.kp t (by decide) (by decide), h.sures.kp t (by decide) (by decide), ho, h.kl, h.gl, hl, h.mem' t (by decide) fun d hd => by omega⟩
/-- what is known of member y -/
def updI {α : Type} (f : Int → α) (y : Int) (a : α) : Int → α := fun z => if z = y then a else f z
theorem updI_same {α : Type} (f : Int → α) (y : Int) (a : α) : updI f y a y = a := by simp [updI]
theorem updI_other {α : Type} (f : Int → α) {y z : Int} (a : α) (h : z ≠ y) : updI f y a z = f z := by simp [updI, h]
theorem GrP.member {i g : Nat} {c : Vw.Core} (h : GrP X C w x L) (hn : x.n ≤ 5) (t : Kp (fun d => d / 10 = i + 1 ∧ d ≠ 0) C w C' w') (hi : L.gs[i]? = some g) (hv : VwAt (pj (i + 1) C') w' g c) : GrP X C' w' { x with core := updI x.core ((i : Int) + 1) c } L := by
  have hil := (List.getElem?_eq_some_iff.1 hi).1
  have hn0 : ∀ d, d < 10 → ¬ (d / 10 = i + 1 ∧ d ≠ 0) := fun d hd h => by omega
  refine ⟨t.dom, h.keeps.kp t (hn0 _ (by decide)) (hn0 _ (by decide)), h.cores.kp t (hn0 _ (by decide)) (hn0 _ (by decide)), h.mails.kp t (hn0 _ (by decide)) (hn0 _ (by decide)), h.sures.kp t (hn0 _ (by decide)) (hn0 _ (by decide)), h.tolds.kp t (hn0 _ (by decide)) (hn0 _ (by decide)), h.kl, h.gl, h.tl, fun j g' hX hj => ?_⟩
  by_cases e : j = i
  · subst e
    rw [hi] at hj
    injection hj with hj; subst hj
    show VwAt _ _ _ (updI x.core _ c _)
    rw [updI_same]; exact hv
  · show VwAt _ _ _ (updI x.core _ c _)
    rw [updI_other _ _ (by omega)]
    exact (h.mem j g' hX hj).kp t (hn0 _ (by decide)) fun d hd e2 => by omega
/-- a member's parts are no part's any more -/
theorem GrP.drop {i : Nat} (h : GrP (fun _ => False) C w x L) (t : Kp (fun d => d / 10 = i + 1 ∧ d ≠ 0) C w C' w') : GrP (· = i) C' w' x L := by
  have hn0 : ∀ d, d < 10 → ¬ (d / 10 = i + 1 ∧ d ≠ 0) := fun d hd h => by omega
  exact ⟨t.dom, h.keeps.kp t (hn0 _ (by decide)) (hn0 _ (by decide)), h.cores.kp t (hn0 _ (by decide)) (hn0 _ (by decide)), h.mails.kp t (hn0 _ (by decide)) (hn0 _ (by decide)), h.sures.kp t (hn0 _ (by decide)) (hn0 _ (by decide)), h.tolds.kp t (hn0 _ (by decide)) (hn0 _ (by decide)), h.kl, h.gl, h.tl,
    fun j g' hX hj => (h.mem j g' (fun h => h) hj).kp t (hn0 _ (by decide)) fun d hd e2 => hX (by omega)⟩
/-- another one stands in its place -/
theorem GrP.fill {i g : Nat} {c : Vw.Core} (h : GrP (· = i) C w x L) (hi : i < x.n) (hv : VwAt (pj (i + 1) C) w g c)
    (ho : Only (fun k => C k = 3) w w') (hc : OwnQ C 3 EPtr 103 w' L.cv (L.gs.set i g)) : GrP (fun _ => False) C w' { x with core := updI x.core ((i : Int) + 1) c } { L with gs := L.gs.set i g } := by
  have t2 : Kp (· = 3) C w C w' := Kp.of_only h.dom ho fun k hk => hk
  refine ⟨t2.dom, h.keeps.kp t2 (by decide) (by decide), hc, h.mails.kp t2 (by decide) (by decide), h.sures.kp t2 (by decide) (by decide), h.tolds.kp t2 (by decide) (by decide), h.kl, by rw [List.length_set]; exact h.gl, h.tl, fun j g' _ hj => ?_⟩
  by_cases e : j = i
  · subst e
    rw [List.getElem?_set_self (by rw [h.gl]; exact hi)] at hj
    injection hj with hj; subst hj
    show VwAt _ _ _ (updI x.core _ c _)
    rw [updI_same]
    exact hv.kp t2 (by decide) fun d hd e2 => by omega
  · rw [List.getElem?_set_ne (Ne.symm e)] at hj
    show VwAt _ _ _ (updI x.core _ c _)
    rw [updI_other _ _ (by omega)]
    exact (h.mem j g' e hj).kp t2 (by decide) fun d hd e2 => by omega
/-- the row is written anew -/
theorem GrM.put {x' : Gx} {L' : GrL} {w1 : World} (hg : w.heap[gg]? = some (.cells (grRow x L) 124 (0, 0))) (hc : C gg = 1) (hn : 1 ≤ x'.n ∧ x'.n ≤ 5) (hpp : 1 ≤ x'.pat ∧ x'.pat ≤ 100) (hp : GrP (fun _ => False) C w x' L') (ho : Only (· = gg) w w1) (hr : w1.heap[gg]? = some (.cells (grRow x' L') 124 (0, 0))) : GrM C w1 gg x' L' ∧ KpA C w C w1 := by
  have t : Kp (· = 1) C w C w1 := Kp.of_only hp.dom ho fun k hk => by rw [hk]; exact hc
  exact ⟨⟨hr, hc, hn, hpp, hp.turn1 t⟩, t.any (by decide)⟩
theorem GrM.kp {S : Nat → Prop} {x' : Gx} {L' : GrL} (h : GrM C w gg x L) (t : Kp S C w C' w') (h1 : ¬ S 1) (hp : GrP (fun _ => False) C' w' x' L') (hr : grRow x' L' = grRow x L) (hn : x'.n = x.n) (hpat : x'.pat = x.pat) : GrM C' w' gg x' L' := by
  obtain ⟨e1, e2⟩ := t.blk h.lt (by rw [h.gc]; exact h1)
  exact ⟨by rw [e1, hr]; exact h.row, e2.trans h.gc, by rw [hn]; exact h.nn, by rw [hpat]; exact h.pp, hp⟩
/-- another world, what was there stays -/
theorem GrM.below (h : GrM C w gg x L) (hb : Below w.heap.size w w') : GrM C w' gg x L :=
  h.kp (Kp.below (S := (· = 7)) h.p.dom hb) (by decide) (h.p.turn7 (Kp.below h.p.dom hb)) rfl rfl rfl
theorem KpA.below (h : GrM C w gg x L) (hb : Below w.heap.size w w') : KpA C w C w' := Kp.below h.p.dom hb
/-- the cells of a group's row -/
theorem GrM.c0 (h : GrM C w gg x L) : w.cell? ⟨gg, 0, none⟩ = some (.int .i64 x.n) := h.cell 0 rfl
theorem GrM.c1 (h : GrM C w gg x L) : w.cell? ⟨gg, 1, none⟩ = some (.int .i64 x.pat) := h.cell 1 rfl
theorem GrM.c2 (h : GrM C w gg x L) : w.cell? ⟨gg, 2, none⟩ = some L.kv := h.cell 2 rfl
theorem GrM.c3 (h : GrM C w gg x L) : w.cell? ⟨gg, 3, none⟩ = some L.cv := h.cell 3 rfl
theorem GrM.c4 (h : GrM C w gg x L) : w.cell? ⟨gg, 4, none⟩ = some L.mv := h.cell 4 rfl
theorem GrM.c5 (h : GrM C w gg x L) : w.cell? ⟨gg, 5, none⟩ = some L.sv := h.cell 5 rfl
theorem GrM.c6 (h : GrM C w gg x L) : w.cell? ⟨gg, 6, none⟩ = some L.tv := h.cell 6 rfl
theorem GrM.c7 (h : GrM C w gg x L) : w.cell? ⟨gg, 7, none⟩ = some (.bool false) := h.cell 7 rfl
/-- the lists' addresses -/
theorem GrM.keepAt (h : GrM C w gg x L) {i : Nat} (hi : i < x.n) : ∃ kb ko kc la lc k, x.ks[i]? = some k ∧ L.kv = .slice (some ⟨kb, ko, none⟩) x.n kc ∧ C kb = 2 ∧ x.n ≤ kc ∧ kc ≤ maxLen ∧ w.cell? ⟨kb, ko + i * 3, none⟩ = some (.int .i64 k.view) ∧ w.cell? ⟨kb, ko + i * 3 + 1, none⟩ = some (.int .i64 k.normal) ∧ w.cell? ⟨kb, ko + i * 3 + 2, none⟩ = some (.slice la k.log.length lc) ∧ (k.log.length ≤ lc ∧ lc ≤ maxLen) ∧ Sl EBytes (Im C) w la k.log ∧ (∀ j, w.frozen? ⟨kb, j, none⟩ = false) := by
  have hi' : i < x.ks.length := by rw [h.p.kl]; exact hi
  obtain ⟨g, o, cap, cs, hv, hg, ⟨la, lc, rfl, h1, h2⟩, hc, hf, h3, h4⟩ := h.p.keeps.at hi'
  rw [h.p.kl] at hv h3
  exact ⟨g, o, cap, la, lc, x.ks[i], List.getElem?_eq_getElem hi', hv, hg, h3, h4, hc 0 _ rfl, hc 1 _ rfl, hc 2 _ rfl, h1, h2, hf⟩
theorem GrM.coreAt (h : GrM C w gg x L) {i : Nat} (hi : i < x.n) : ∃ cb co cc g, L.gs[i]? = some g ∧ L.cv = .slice (some ⟨cb, co, none⟩) x.n cc ∧ C cb = 3 ∧ x.n ≤ cc ∧ cc ≤ maxLen ∧ w.cell? ⟨cb, co + i, none⟩ = some (.pointer (some ⟨g, 0, none⟩)) ∧ VwAt (pj (i + 1) C) w g (x.core ((i : Int) + 1)) ∧ (∀ j, w.frozen? ⟨cb, j, none⟩ = false) := by
  have hi' : i < L.gs.length := by rw [h.p.gl]; exact hi
  obtain ⟨g, o, cap, cs, hv, hg, hr, hc, hf, h3, h4⟩ := h.p.cores.at hi'
  obtain rfl : cs = [.pointer (some ⟨L.gs[i], 0, none⟩)] := hr
  rw [h.p.gl] at hv h3
  have := hc 0 _ rfl
  exact ⟨g, o, cap, L.gs[i], List.getElem?_eq_getElem hi', hv, hg, h3, h4, by simpa [show EPtr.sz = 1 from rfl] using this, h.p.mem i _ (fun h => h) (List.getElem?_eq_getElem hi'), hf⟩
theorem GrM.toldAt (h : GrM C w gg x L) {i : Nat} (hi : i < x.n) : ∃ tb tt tc t, x.told[i]? = some t ∧ L.tv = .slice (some ⟨tb, tt, none⟩) x.n tc ∧ C tb = 6 ∧ x.n ≤ tc ∧ tc ≤ maxLen ∧ w.cell? ⟨tb, tt + i, none⟩ = some (.int .i64 t) ∧ (∀ j, w.frozen? ⟨tb, j, none⟩ = false) := by
  have hi' : i < x.told.length := by rw [h.p.tl]; exact hi
  obtain ⟨g, o, cap, cs, hv, hg, hr, hc, hf, h3, h4⟩ := h.p.tolds.at hi'
  obtain rfl : cs = [.int .i64 x.told[i]] := hr.1
  rw [h.p.tl] at hv h3
  have := hc 0 _ rfl
  exact ⟨g, o, cap, x.told[i], List.getElem?_eq_getElem hi', hv, hg, h3, h4, by simpa [show EInt.sz = 1 from rfl] using this, hf⟩
/-- a member begins again -/
theorem gbegin_fin {w2 : World} {i g : Nat} {c : Vw.Core} (h : GrM C w gg x L) (hi : i < x.n) (hn : NewToO (Im C) w w2 g c) {cb co cc tb tt tc : Nat} (hcv : L.cv = .slice (some ⟨cb, co, none⟩) x.n cc) (hcb : C cb = 3) (htv : L.tv = .slice (some ⟨tb, tt, none⟩) x.n tc) (htb : C tb = 6) :
    GrTo C w (((w2.setCell ⟨gg, 7, none⟩ (.bool false)).setCell ⟨cb, co + i, none⟩ (.pointer (some ⟨g, 0, none⟩))).setCell ⟨tb, tt + i, none⟩ (.int .i64 0)) gg { x with core := updI x.core ((i : Int) + 1) c, told := x.told.set i 0 } := by
  obtain ⟨C', t, hv⟩ := Kp.newMember (y := i + 1) h.p.dom hn ⟨by omega, by have := h.nn.2; omega⟩
  have hn0 : ∀ d, d < 10 → ¬ (d / 10 = i + 1 ∧ d ≠ 0) := fun d hd h => by omega
  have hp := h.p.drop t
  obtain ⟨hr, hc⟩ := t.blk h.lt (by rw [h.gc]; exact hn0 _ (by decide))
  rw [h.row] at hr
  rw [h.gc] at hc
  have hcz : cb < w.heap.size := h.p.dom cb (by omega)
  have htz : tb < w.heap.size := h.p.dom tb (by omega)
  have hcb' : C' cb = 3 := (t.col cb hcz (by rw [hcb]; exact hn0 _ (by decide))).trans hcb
  have htb' : C' tb = 6 := (t.col tb htz (by rw [htb]; exact hn0 _ (by decide))).trans htb
  -- the row
  have o1 : Only (· = gg) w2 (w2.setCell ⟨gg, 7, none⟩ (.bool false)) := setg (S := (· = gg)) (Only.refl _ _) rfl 7 _
  have r1 : (w2.setCell ⟨gg, 7, none⟩ (.bool false)).heap[gg]? = some (.cells (grRow x L) 124 (0, 0)) := by rw [heap_set hr 7 _]; rfl
  have t1 : Kp (· = 1) C' w2 C' (w2.setCell ⟨gg, 7, none⟩ (.bool false)) := Kp.of_only t.dom o1 fun k hk => by rw [hk]; exact hc
  have hp1 := hp.turn1 t1
  have hv1 := hv.kp t1 (by decide) fun d hd e => by omega
  -- the member's place
  obtain ⟨q1, q2, q3⟩ := hp1.cores.set (by decide) (k := i) (x := g) (cs := [.pointer (some ⟨g, 0, none⟩)]) (by rw [h.p.gl]; exact hi) rfl hcv
  rw [show EPtr.sz = 1 from rfl, Nat.mul_one] at q1 q2
  have hp2 := hp1.fill hi hv1 (q2.mono fun k hk => by rw [hk]; exact hcb') q1
  -- what it has told
  have t2 : Kp (· = 3) C' _ C' _ := Kp.of_only t1.dom q2 fun k hk => by rw [hk]; exact hcb'
  obtain ⟨s1, s2, s3⟩ := hp2.tolds.set (by decide) (k := i) (x := 0) (cs := [.int .i64 0]) (by rw [h.p.tl]; exact hi) ⟨rfl, by decide, by decide⟩ htv
  rw [show EInt.sz = 1 from rfl, Nat.mul_one] at s1 s2
  have t3 : Kp (· = 6) C' _ C' _ := Kp.of_only hp2.dom s2 fun k hk => by rw [hk]; exact htb'
  have hp3 := hp2.turn6 t3 s1 (by rw [List.length_set]; exact h.p.tl)
  refine ⟨C', { L with gs := L.gs.set i g }, ⟨?_, hc, h.nn, h.pp, hp3⟩, ((t.any (hn0 _ (by decide))).trans (t1.any (by decide))).trans ((t2.any (by decide)).trans (t3.any (by decide)))⟩
  have e1 : (w2.setCell ⟨gg, 7, none⟩ (.bool false)).heap.size = w2.heap.size := by simp
  have hgz : gg < (w2.setCell ⟨gg, 7, none⟩ (.bool false)).heap.size := by rw [e1]; exact Nat.lt_of_lt_of_le h.lt t.only.size
  have r2 := (t2.blk hgz (by show ¬ C' gg = 3; omega)).1
  have r3 := (t3.blk (Nat.lt_of_lt_of_le hgz t2.only.size) (by show ¬ C' gg = 6; omega)).1
  exact (r3.trans r2).trans r1
end
end Go.Proofs.Ytmmgnbdngpkfcaa

namespace Go.Proofs.Ytmmgnbdngpkfcaa
open Go.RowKit
set_option linter.unusedVariables false

set_option maxRecDepth 16384 in
set_option maxHeartbeats 6400000 in
theorem vw_gbegin {C : Col} {gg : Nat} {x : Gx} {L : GrL} (w : World) (h : GrM C w gg x L) (i : Nat) (hi : i < x.n) (k : Vw.Keep) (hk : x.ks[i]? = some k) (hkv : 0 ≤ k.normal ∧ k.normal ≤ k.view ∧ k.view ≤ 1099511627776) (hks : Vw.Small k.log) :
    Calls Try.prog 103 #[.pointer (some ⟨gg, 0, none⟩), .int .i64 i] w fun e w' => e = .returned (.tuple #[]) ∧ GrTo C w w' gg { x with core := updI x.core ((i : Int) + 1) (Vw.Core.new ((i : Int) + 1) x.n 2 x.pat k), told := x.told.set i 0 } := by
  obtain ⟨kb, ko, kc, la, lc, k', hk', hkvE, hkb, hk3, hk4, u0, u1, u2, hlc, hsl, hkf⟩ := h.keepAt hi
  obtain rfl : k = k' := by rw [hk] at hk'; injection hk'
  obtain ⟨cb, co, cc, g0, hg0, hcvE, hcb, hc3, hc4, v0, hvat, hcf⟩ := h.coreAt hi
  obtain ⟨tb, tt, tc, t0, ht0, htvE, htb, ht3, ht4, x0, htf⟩ := h.toldAt hi
  obtain ⟨n, hn⟩ : ∃ n, n = x.n := ⟨_, rfl⟩
  obtain ⟨pat, hpat⟩ : ∃ pat, pat = x.pat := ⟨_, rfl⟩
  obtain ⟨kn, hkn⟩ : ∃ kn, kn = k.log.length := ⟨_, rfl⟩
  have hnn := h.nn
  have hpp := h.pp
  have y0 := h.c0
  have y1 := h.c1
  have y2 := h.c2
  rw [← hkn] at u2
  rw [hkvE] at y2
  rw [← hn] at y0 y2
  rw [← hpat] at y1
  have hadd : IntKind.i64.wrap ((i : Int) + 1) = (i : Int) + 1 := IntWalk.i64_in _ (by omega)
  have HN : RowKit.Hid (∀ W : World, W.heap = w.heap → Calls Try.prog 56 #[.int .i64 ((i : Int) + 1), .int .i64 n, .int .i64 2, .int .i64 pat, .int .i64 0, .agg #[.int .i64 k.view, .int .i64 k.normal, .slice la kn lc]] W fun e w' => ∃ g, e = .returned (.tuple #[.pointer (some ⟨g, 0, none⟩), .int .i64 0]) ∧ NewToO (Im C) W w' g (Vw.Core.new ((i : Int) + 1) n 2 pat k)) := Lib.hid fun W hW =>
    vw_NewO (Im C) _ n 2 pat k la kn lc W (by omega) (by omega) (by omega) ⟨by omega, hkv.2.2⟩ ⟨hkv.1, hkv.2.1⟩ hks hkn (by rw [hkn]; exact hlc) (hsl.heap (by decide) hW)
  have Hfin : RowKit.Hid (∀ (w2 : World) (g : Nat), NewToO (Im C) w.drew w2 g (Vw.Core.new ((i : Int) + 1) n 2 pat k) → Below w.heap.size w w2 ∧ GrTo C w (((w2.setCell ⟨gg, 7, none⟩ (.bool false)).setCell ⟨cb, co + i, none⟩ (.pointer (some ⟨g, 0, none⟩))).setCell ⟨tb, tt + i, none⟩ (.int .i64 0)) gg { x with core := updI x.core ((i : Int) + 1) (Vw.Core.new ((i : Int) + 1) x.n 2 x.pat k), told := x.told.set i 0 }) := Lib.hid fun w2 g hN => by
    have hb : Below w.heap.size w w.drew := (Below.refl _ _).drew
    rw [hn, hpat] at hN
    refine ⟨?_, GrTo.trans (KpA.below h hb) (gbegin_fin (h.below hb) hi hN hcvE hcb htvE htb)⟩
    obtain ⟨_, _, _, hb2⟩ := hN
    exact hb.trans hb2
  have Hrow := Lib.hid (And.intro h.lt (And.intro h.c3 (And.intro h.c6 (And.intro h.c7 (And.intro (fun o => h.fz o) (And.intro v0 x0))))))
  have Hcv := Lib.hid (And.intro hcvE (And.intro htvE hn))
  have hgc : gg ≠ cb := fun e => by have := h.gc; rw [e, hcb] at this; cases this
  have hgt : gg ≠ tb := fun e => by have := h.gc; rw [e, htb] at this; cases this
  have hct : cb ≠ tb := fun e => by rw [e, htb] at hcb; cases hcb
  have Hcf := Lib.hid hcf
  have Htf := Lib.hid htf
  have hile : i < n := by omega
  have Hne := Lib.hid (And.intro hgc (And.intro hgt hct))
  clear h hk' hkvE hkb hlc hsl hkf hg0 hcvE hcb hc3 hc4 v0 hvat hcf ht0 htvE htb ht3 ht4 x0 htf hk hkv hks hn hpat hkn hgc hgt hct
  go_enter Try.func103, Try.ntmps103
  go_wp2_with fail
  go_region_held3 (fun W => W.cell? ⟨gg, 0, none⟩ = some (.int .i64 n) ∧ W.cell? ⟨gg, 1, none⟩ = some (.int .i64 pat) ∧ W.cell? ⟨gg, 2, none⟩ = some (.slice (some ⟨kb, ko, none⟩) n kc) ∧ W.cell? ⟨kb, ko + i * 3, none⟩ = some (.int .i64 k.view) ∧ W.cell? ⟨kb, ko + i * 3 + 1, none⟩ = some (.int .i64 k.normal) ∧ W.cell? ⟨kb, ko + i * 3 + 2, none⟩ = some (.slice la kn lc))
    (first | exact ⟨y0, y1, y2, u0, u1, u2⟩ | exact ⟨z0, z1, z2, s0, s1, s2⟩ | go_keep)
    ((go_at_call 56; refine (HN.out w.drew rfl).mono ?_; rintro e w2 ⟨g, rfl, hN⟩; have hB := (Hfin.out w2 g hN).1; have z0 := cell_thru y0 hB; have z1 := cell_thru y1 hB; have z2 := cell_thru y2 hB; have s0 := cell_thru u0 hB; have s1 := cell_thru u1 hB; have s2 := cell_thru u2 hB))
  have hF := Hfin.out w2 g hN
  obtain ⟨hgz, hc3, hc6, hc7, hfz, hv0, hx0⟩ := Hrow.out
  have hcz := cell_lt hv0
  have htz := cell_lt hx0
  have qv := cell_thru hv0 hF.1
  have qx := cell_thru hx0 hF.1
  have q7 := cell_thru hc7 hF.1
  have q3 := cell_thru hc3 hF.1
  have q6 := cell_thru hc6 hF.1
  rw [Hcv.out.1, ← Hcv.out.2.2] at q3
  rw [Hcv.out.2.1, ← Hcv.out.2.2] at q6
  have qf : ∀ o, w2.frozen? ⟨gg, o, none⟩ = false := fun o => (hF.1.frozen (p := ⟨gg, o, none⟩) hgz).trans (hfz o)
  have qcf : ∀ o, w2.frozen? ⟨cb, o, none⟩ = false := fun o => (hF.1.frozen (p := ⟨cb, o, none⟩) hcz).trans (Hcf.out o)
  have qtf : ∀ o, w2.frozen? ⟨tb, o, none⟩ = false := fun o => (hF.1.frozen (p := ⟨tb, o, none⟩) htz).trans (Htf.out o)
  have HF := Lib.hid hF.2
  clear hF hgz hc3 hc6 hc7 hfz hcz htz hv0 hx0 z0 z1 z2 s0 s1 s2 y0 y1 y2 u0 u1 u2 hB hN HN Hfin hadd
  obtain ⟨hgc, hgt, hct⟩ := Hne.out
  have hcg : cb ≠ gg := fun e => hgc e.symm
  have htg : tb ≠ gg := fun e => hgt e.symm
  have htc : tb ≠ cb := fun e => hct e.symm
  go_wp2_with fail
  refine bodyPost_end (v := .tuple #[]) (by simp [results, Try.results103, go_sem]) rfl ?_
  exact ⟨rfl, HF.out⟩
end Go.Proofs.Ytmmgnbdngpkfcaa

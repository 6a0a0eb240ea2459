/-
  A member is made, walked.
-/
import Derived.Test.YtmmgnbdngpkfcaaVwE
import Derived.Test.YtmmgnbdngpkfcaaRegZ
namespace Go.Proofs.Ytmmgnbdngpkfcaa
open Go.RowKit
set_option linter.unusedVariables false
theorem gA {α : Type} {l : List α} {i : Nat} : l.toArray[i]? = l[i]? := List.getElem?_toArray
theorem gS {α : Type} {a : α} {l : List α} {i : Nat} : (a :: l)[i + 1]? = l[i]? := List.getElem?_cons_succ
theorem gZ {α : Type} {a : α} {l : List α} : (a :: l)[0]? = some a := List.getElem?_cons_zero
theorem pA {α : Type} {l : List α} {i : Nat} {a : α} : l.toArray.setIfInBounds i a = (l.set i a).toArray := List.setIfInBounds_toArray _ _ _
theorem pZ {α : Type} {x : α} {l : List α} {a : α} : (x :: l).set 0 a = a :: l := List.set_cons_zero
theorem pS {α : Type} {x : α} {l : List α} {i : Nat} {a : α} : (x :: l).set (i + 1) a = x :: l.set i a := List.set_cons_succ
set_option linter.unusedSimpArgs false

section
variable {P : Program} {ops : Array Oper} {Q : Exit → Act → World → Prop} {md : Region.Mode} {S : World → Prop} {z : Nat}
/-- each of these operations may come next -/
def AnyEach (P : Program) (md : Region.Mode) (ops : Array Oper) (Q : Exit → Act → World → Prop) (S : World → Prop) (z n : Nat) (listed : Array Bool) (a : Act) (w : World) (is : List Nat) : Prop :=
  ∀ i ∈ is, wpOp P ops Q i (fun a' w' => (i ≠ z → S w') ∧ AnyZ P md ops Q S z n (listed.setIfInBounds i true) a' w') a w
theorem AnyEach.nil {n : Nat} {listed : Array Bool} {a : Act} {w : World} : AnyEach P md ops Q S z n listed a w [] := fun i h => by cases h
theorem AnyEach.cons {is : List Nat} {n : Nat} {listed : Array Bool} {a : Act} {w : World} (i : Nat) (o : Oper) (ho : ops[i]? = some o)
    (h : ∀ K' : Act → World → Prop, Shut (∀ a w, ((i == z) = false → S w) → (((i == z) = false → S w) → AnyZ P md ops Q S z n (listed.setIfInBounds i true) a w) → K' a w) → if Region.wanted o (yielded ops a.tmps) = true then Oper.wp P o a w K' Q else K' (a.put o.dst undef) w)
    (hr : AnyEach P md ops Q S z n listed a w is) : AnyEach P md ops Q S z n listed a w (i :: is) := by
  intro j hj
  rcases List.mem_cons.1 hj with rfl | hj
  · exact wpOp_step ho fun K' hK => h K' fun a w hS hW => hK a w ⟨fun hne => hS (by simpa using hne), hW hS⟩
  · exact hr j hj
theorem AnyZ.gen {n : Nat} {listed : Array Bool} {a : Act} {w w2 : World} (h : w2 = w) (k : AnyZ P md ops Q S z n listed a w2) : AnyZ P md ops Q S z n listed a w := h ▸ k
theorem AnyZ.each (is : List Nat) {n : Nat} {listed : Array Bool} {a : Act} {w : World} (hr : Region.ready md ops listed = is) (hne : is.isEmpty = false) (h : AnyEach P md ops Q S z n listed a w is) : AnyZ P md ops Q S z (n + 1) listed a w :=
  ⟨fun e => (by rw [e] at hr; rw [← hr] at hne; cases hne), fun j hj => h j (by rw [← hr]; exact hj)⟩
end
/-- while a member is made -/
structure NewSt (w1 : World) (ok : Nat → Prop) (ln : Nat) (kl : List Vw.Bs) (W : World) (p q r : Option Nat) (sl : Option (Option Addr × Nat)) : Prop where
  below : Below w1.heap.size w1 W
  pm : ∀ x, p = some x → w1.heap.size ≤ x ∧ x < W.heap.size ∧ W.heap[x]? = some (.map #[] 0)
  qm : ∀ x, q = some x → w1.heap.size ≤ x ∧ x < W.heap.size ∧ W.heap[x]? = some (.map #[] 0)
  rm : ∀ x, r = some x → w1.heap.size ≤ x ∧ x < W.heap.size ∧ W.heap[x]? = some (.map #[] 0)
  pq : ∀ x, p = some x → q ≠ some x
  pr : ∀ x, p = some x → r ≠ some x
  qr : ∀ x, q = some x → r ≠ some x
  sm : ∀ a c, sl = some (a, c) → (ln ≤ c ∧ c ≤ maxLen) ∧ Sl EBytes (fun b => p ≠ some b ∧ q ≠ some b ∧ r ≠ some b ∧ (b < w1.heap.size → ok b)) W a kl
section
variable {w1 W : World} {ok : Nat → Prop} {ln : Nat} {kl : List Vw.Bs} {p q r : Option Nat} {sl : Option (Option Addr × Nat)}
theorem NewSt.start (h : Below w1.heap.size w1 W) : NewSt w1 ok ln kl W none none none none :=
  ⟨h, fun x e => (by cases e), fun x e => (by cases e), fun x e => (by cases e), fun x e => (by cases e), fun x e => (by cases e), fun x e => (by cases e), fun a c e => (by cases e)⟩
theorem new_step {x : Option Nat} (h : ∀ y, x = some y → w1.heap.size ≤ y ∧ y < W.heap.size ∧ W.heap[y]? = some (.map #[] 0)) {V : World} (hb : Below W.heap.size W V) : ∀ y, x = some y → w1.heap.size ≤ y ∧ y < V.heap.size ∧ V.heap[y]? = some (.map #[] 0) := fun y e => by
  obtain ⟨h1, h2, h3⟩ := h y e
  exact ⟨h1, Nat.lt_of_lt_of_le h2 hb.size, (hb.block y h2).trans h3⟩
theorem new_fresh (hb : Below w1.heap.size w1 W) : ∀ y, some W.heap.size = some y → w1.heap.size ≤ y ∧ y < (W.alloc (.map #[] 0)).heap.size ∧ (W.alloc (.map #[] 0)).heap[y]? = some (.map #[] 0) := fun y e => by
  injection e with e; subst e
  exact ⟨hb.size, by simp, heap_alloc_new W _⟩
theorem new_ne {x : Option Nat} (h : ∀ y, x = some y → w1.heap.size ≤ y ∧ y < W.heap.size ∧ W.heap[y]? = some (.map #[] 0)) : x ≠ some W.heap.size := fun e => by have := (h _ e).2.1; omega
theorem NewSt.map18 (h : NewSt w1 ok ln kl W none q r sl) : NewSt w1 ok ln kl (W.alloc (.map #[] 0)) (some W.heap.size) q r sl := by
  have hb := alloc_below W (.map #[] 0)
  refine ⟨h.below.trans (hb.mono h.below.size), new_fresh h.below, new_step h.qm hb, new_step h.rm hb, fun x e => ?_, fun x e => ?_, h.qr, fun a c e => ?_⟩
  · injection e with e; subst e; exact new_ne h.qm
  · injection e with e; subst e; exact new_ne h.rm
  · obtain ⟨h1, h2⟩ := h.sm a c e
    exact ⟨h1, h2.mono (by decide) fun k hk hlt => ⟨hb.block k hlt, fun e => by injection e with e; omega, hk.2.1, hk.2.2⟩⟩
theorem NewSt.map19 (h : NewSt w1 ok ln kl W p none r sl) : NewSt w1 ok ln kl (W.alloc (.map #[] 0)) p (some W.heap.size) r sl := by
  have hb := alloc_below W (.map #[] 0)
  refine ⟨h.below.trans (hb.mono h.below.size), new_step h.pm hb, new_fresh h.below, new_step h.rm hb, fun x e e2 => ?_, h.pr, fun x e => ?_, fun a c e => ?_⟩
  · injection e2 with e2; subst e2; exact new_ne h.pm e
  · injection e with e; subst e; exact new_ne h.rm
  · obtain ⟨h1, h2⟩ := h.sm a c e
    exact ⟨h1, h2.mono (by decide) fun k hk hlt => ⟨hb.block k hlt, hk.1, fun e => by injection e with e; omega, hk.2.2⟩⟩
theorem NewSt.map20 (h : NewSt w1 ok ln kl W p q none sl) : NewSt w1 ok ln kl (W.alloc (.map #[] 0)) p q (some W.heap.size) sl := by
  have hb := alloc_below W (.map #[] 0)
  refine ⟨h.below.trans (hb.mono h.below.size), new_step h.pm hb, new_step h.qm hb, new_fresh h.below, h.pq, fun x e e2 => ?_, fun x e e2 => ?_, fun a c e => ?_⟩
  · injection e2 with e2; subst e2; exact new_ne h.pm e
  · injection e2 with e2; subst e2; exact new_ne h.qm e
  · obtain ⟨h1, h2⟩ := h.sm a c e
    exact ⟨h1, h2.mono (by decide) fun k hk hlt => ⟨hb.block k hlt, hk.1, hk.2.1, fun e => by injection e with e; omega, hk.2.2.2⟩⟩
theorem NewSt.clone {w4 : World} {a4 : Option Addr} {c4 : Nat} (h : NewSt w1 ok ln kl W p q r none) (hc : ln ≤ c4 ∧ c4 ≤ maxLen) (hs : Sl EBytes (fun b => (b < w1.heap.size ∧ ok b) ∨ W.heap.size ≤ b) w4 a4 kl) (hb : Below W.heap.size W w4) : NewSt w1 ok ln kl w4 p q r (some (a4, c4)) := by
  refine ⟨h.below.trans (hb.mono h.below.size), new_step h.pm hb, new_step h.qm hb, new_step h.rm hb, h.pq, h.pr, h.qr, fun a c e => ?_⟩
  injection e with e; injection e with e1 e2
  subst e1; subst e2
  refine ⟨hc, hs.mono (by decide) fun k hk hlt => ⟨rfl, fun e => ?_, fun e => ?_, fun e => ?_, fun h1 => ?_⟩⟩
  · have := h.pm k e; rcases hk with hk | hk <;> omega
  · have := h.qm k e; rcases hk with hk | hk <;> omega
  · have := h.rm k e; rcases hk with hk | hk <;> omega
  · have := h.below.size; rcases hk with hk | hk; exact hk.2; omega
end
/-- a member has been made -/
def NewTo (w w' : World) (g : Nat) (c : Vw.Core) : Prop := ∃ M', VwAt M' w' g c ∧ (∀ k, k < w.heap.size → M' k = 0) ∧ Below w.heap.size w w'
/-- a member has been made; what it was not given belongs to others -/
def NewToO (ok : Nat → Prop) (w w' : World) (g : Nat) (c : Vw.Core) : Prop := ∃ M', VwAt M' w' g c ∧ (∀ k, k < w.heap.size → (ok k → M' k = 0) ∧ (¬ ok k → M' k = 9)) ∧ Below w.heap.size w w'
theorem new_right {me : Int} {n : Nat} {sh pat : Int} {k : Vw.Keep} (hn : 1 ≤ n ∧ n ≤ 7) (hme : 1 ≤ me ∧ me ≤ n) (hp : 1 ≤ pat ∧ pat ≤ 1000000000000) (hv : 0 ≤ k.view ∧ k.view ≤ 1099511627776) (hl : Vw.Small k.log) : Vw.Right (Vw.Core.new me n sh pat k) :=
  ⟨hn, hme, hp, hv, hl, Nat.zero_le _, ⟨by show (0 : Int) ≤ 0; decide, by show (0 : Int) ≤ 1000000000000; decide⟩, (fun z h => by cases h), (fun z m h => by cases h), fun z => ⟨Int.le_refl 0, by show (0 : Int) ≤ 2000; decide⟩⟩
open Classical in
theorem new_fin {w w1 W : World} {ok : Nat → Prop} {me : Int} {n : Nat} {sh pat kv kn : Int} {kl : List Vw.Bs} {ln p q r : Nat} {a : Option Addr} {c : Nat} {ne : Bool} (hne : (kv != kn) = ne) (hb1 : Below w.heap.size w w1) (hln : ln = kl.length) (hR : Vw.Right (Vw.Core.new me n sh pat ⟨kv, kn, kl⟩)) (st : NewSt w1 ok ln kl W (some p) (some q) (some r) (some (a, c))) :
    NewToO ok w (W.alloc (.cells #[.int .i64 me, .int .i64 n, .int .i64 sh, .int .i64 pat, .int .i64 0, .int .i64 kv, .int .i64 kn, .slice a ln c, .bool ne, .int .i64 0, .int .i64 0, .map (some p), .map (some q), .map (some r), .slice none 0 0, .slice none 0 0, .slice none 0 0] 164)) W.heap.size (Vw.Core.new me n sh pat ⟨kv, kn, kl⟩) := by
  subst hne
  obtain ⟨h1, h2⟩ := st.sm a c rfl
  obtain ⟨p1, p2, p3⟩ := st.pm p rfl
  obtain ⟨q1, q2, q3⟩ := st.qm q rfl
  obtain ⟨r1, r2, r3⟩ := st.rm r rfl
  have hpq : p ≠ q := fun e => st.pq p rfl (by rw [e])
  have hpr : p ≠ r := fun e => st.pr p rfl (by rw [e])
  have hqr : q ≠ r := fun e => st.qr q rfl (by rw [e])
  have hz1 := hb1.size
  obtain ⟨V, hV⟩ : ∃ V, V = W.alloc (.cells #[.int .i64 me, .int .i64 n, .int .i64 sh, .int .i64 pat, .int .i64 0, .int .i64 kv, .int .i64 kn, .slice a ln c, .bool (kv != kn), .int .i64 0, .int .i64 0, .map (some p), .map (some q), .map (some r), .slice none 0 0, .slice none 0 0, .slice none 0 0] 164) := ⟨_, rfl⟩
  have hbV : Below W.heap.size W V := by rw [hV]; exact alloc_below _ _
  have hzV : V.heap.size = W.heap.size + 1 := by rw [hV]; simp
  have hrow : V.heap[W.heap.size]? = some (.cells #[.int .i64 me, .int .i64 n, .int .i64 sh, .int .i64 pat, .int .i64 0, .int .i64 kv, .int .i64 kn, .slice a ln c, .bool (kv != kn), .int .i64 0, .int .i64 0, .map (some p), .map (some q), .map (some r), .slice none 0 0, .slice none 0 0, .slice none 0 0] 164 (0, 0)) := by rw [hV]; exact heap_alloc_new W _
  rw [← hV]
  have hmap : ∀ x, x < W.heap.size → W.heap[x]? = some (.map #[] 0) → IMap V x 8 fun _ => none := fun x hx hh => by
    obtain ⟨D, ⟨es, clock, hb, r⟩, h2⟩ := IMap.made W
    rw [heap_alloc_new W _] at hb
    exact IMap.mono (f := fun _ => none) ⟨D, ⟨es, clock, ((hbV.block x hx).trans hh).trans hb, r⟩, h2⟩ (Nat.zero_le _)
  obtain ⟨M, hM⟩ : ∃ M : Col, M = fun k => if k = W.heap.size then 1 else if k = p then 2 else if k = q then 3 else if k = r then 4 else if k < w.heap.size ∧ ¬ ok k then 9 else 0 := ⟨_, rfl⟩
  refine ⟨M, ⟨⟨a, c, p, q, r, .slice none 0 0, .slice none 0 0, .slice none 0 0⟩, ?_, by rw [hM]; simp, ⟨fun k hk => ?_, ⟨by show kl.length ≤ c; rw [← hln]; exact h1.1, h1.2⟩, ?_, ?_, ⟨_, hmap p p2 p3, fun z => rfl, fun z h => by cases h⟩, ?_, ?_, ?_, ⟨_, hmap r r2 r3, fun z => trivial⟩, OwnV.nil _ _ _ _ _, OwnV.nil _ _ _ _ _, OwnV.nil _ _ _ _ _⟩, hR⟩, fun k hk => ?_, hb1.trans ((st.below.mono (by omega)).trans (hbV.mono (by have := st.below.size; omega)))⟩
  · rw [hrow, hln]; rfl
  · rw [hM] at hk
    simp only at hk
    by_cases e1 : k = W.heap.size
    · omega
    · rw [if_neg e1] at hk
      by_cases e2 : k = p
      · omega
      · rw [if_neg e2] at hk
        by_cases e3 : k = q
        · omega
        · rw [if_neg e3] at hk
          by_cases e4 : k = r
          · omega
          · rw [if_neg e4] at hk
            by_cases e5 : k < w.heap.size ∧ ¬ ok k
            · omega
            · rw [if_neg e5] at hk; exact absurd rfl hk
  · refine h2.mono (by decide) fun k hk hlt => ⟨hbV.block k hlt, ?_⟩
    show M k = 0
    rw [hM]; simp only
    rw [if_neg (by omega), if_neg (fun e => hk.1 (by rw [e])), if_neg (fun e => hk.2.1 (by rw [e])), if_neg (fun e => hk.2.2.1 (by rw [e])), if_neg (fun e => e.2 (hk.2.2.2 (by omega)))]
  · rw [hM]; simp only; rw [if_neg (by omega)]; simp
  · rw [hM]; simp only; rw [if_neg (by omega), if_neg (Ne.symm hpq)]; simp
  · exact hmap q q2 q3
  · rw [hM]; simp only; rw [if_neg (by omega), if_neg (Ne.symm hpr), if_neg (Ne.symm hqr)]; simp
  · rw [hM]; simp only
    have := st.below.size
    rw [if_neg (by omega), if_neg (by omega), if_neg (by omega), if_neg (by omega)]
    exact ⟨fun ho => if_neg fun e => e.2 ho, fun hn => if_pos ⟨hk, hn⟩⟩
set_option maxRecDepth 8192 in
set_option maxHeartbeats 12800000 in
theorem vw_NewO (ok : Nat → Prop) (me : Int) (n : Nat) (sh pat : Int) (k : Vw.Keep) (la : Option Addr) (ln lc : Nat) (w : World) (hn : 1 ≤ n ∧ n ≤ 7) (hme : 1 ≤ me ∧ me ≤ n) (hp : 1 ≤ pat ∧ pat ≤ 1000000000000) (hv : 0 ≤ k.view ∧ k.view ≤ 1099511627776) (hnm : 0 ≤ k.normal ∧ k.normal ≤ k.view)
    (hl : Vw.Small k.log) (hln : ln = k.log.length) (hlc : ln ≤ lc ∧ lc ≤ maxLen) (hs : Sl EBytes ok w la k.log) :
    Calls Try.prog 56 #[.int .i64 me, .int .i64 n, .int .i64 sh, .int .i64 pat, .int .i64 0, .agg #[.int .i64 k.view, .int .i64 k.normal, .slice la ln lc]] w fun e w' => ∃ g, e = .returned (.tuple #[.pointer (some ⟨g, 0, none⟩), .int .i64 0]) ∧ NewToO ok w w' g (Vw.Core.new me n sh pat k) := by
  have hR := new_right (sh := sh) hn hme hp hv hl
  have hl2 : ln ≤ 2000 := by rw [hln]; exact hl.1
  obtain ⟨kv, kn, kl⟩ := k
  dsimp only at hv hnm hl hln hs hR
  obtain ⟨w1, hw1⟩ : ∃ x, x = w.alloc (.cells #[.int .i64 kv, .int .i64 kn, .slice la ln lc] 95) := ⟨_, rfl⟩
  have hb1 : Below w.heap.size w w1 := by rw [hw1]; exact alloc_below _ _
  have hh1 : w1.heap[w.heap.size]? = some (.cells #[.int .i64 kv, .int .i64 kn, .slice la ln lc] 95 (0, 0)) := by rw [hw1]; exact heap_alloc_new w _
  obtain ⟨ne, hne⟩ : ∃ b, (kv != kn) = b := ⟨_, rfl⟩
  have hfin : ∀ (W : World) (p q r : Nat) (a : Option Addr) (c : Nat) (st : NewSt w1 ok ln kl W (some p) (some q) (some r) (some (a, c))), _ := fun W p q r a c st => new_fin hne hb1 hln hR st
  obtain ⟨q, hq⟩ : ∃ q, q = w.heap.size := ⟨_, rfl⟩
  rw [← hq] at hh1
  have x0 : w1.cell? ⟨q, 0, none⟩ = some (.int .i64 kv) := by simp [World.cell?, hh1]
  have x1 : w1.cell? ⟨q, 1, none⟩ = some (.int .i64 kn) := by simp [World.cell?, hh1]
  have x2 : w1.cell? ⟨q, 2, none⟩ = some (.slice la ln lc) := by simp [World.cell?, hh1]
  have hcl : ∀ X : World, Below w1.heap.size w1 X → Calls Try.prog 93 #[.slice la ln lc] X fun e w' => ∃ a' c', e = .returned (.slice a' ln c') ∧ (ln ≤ c' ∧ c' ≤ maxLen) ∧ Sl EBytes (fun b => (b < w1.heap.size ∧ ok b) ∨ X.heap.size ≤ b) w' a' kl ∧ Below X.heap.size X w' := fun X hX =>
    vw_cloneT (fun b => (b < w1.heap.size ∧ ok b) ∨ X.heap.size ≤ b) la ln lc kl X hln (hs.mono (by decide) fun b ho hb => ⟨(hX.block b (by have := hb1.size; omega)).trans (hb1.block b hb), .inl ⟨by have := hb1.size; omega, ho⟩⟩) (fun b hb => .inr hb) (by omega)
  have hS : ∀ V : World, Below w1.heap.size w1 V → V.cell? ⟨q, 0, none⟩ = some (.int .i64 kv) ∧ V.cell? ⟨q, 1, none⟩ = some (.int .i64 kn) ∧ V.cell? ⟨q, 2, none⟩ = some (.slice la ln lc) := fun V hV => ⟨cell_thru x0 hV, cell_thru x1 hV, cell_thru x2 hV⟩
  have HFin := Lib.hid (fun (W : World) (p q' r : Nat) (a : Option Addr) (c : Nat) (st : NewSt w1 ok ln kl W (some p) (some q') (some r) (some (a, c))) => And.intro (hS _ (st.below.alloc st.below.size (.cells #[.int .i64 me, .int .i64 n, .int .i64 sh, .int .i64 pat, .int .i64 0, .int .i64 kv, .int .i64 kn, .slice a ln c, .bool ne, .int .i64 0, .int .i64 0, .map (some p), .map (some q'), .map (some r), .slice none 0 0, .slice none 0 0, .slice none 0 0] 164))) (hfin W p q' r a c st))
  have hmm := @run_makeMap Try.prog
  have Hcl := Lib.hid hcl
  have Hw1 := Lib.hid hw1.symm
  have Hq := Lib.hid hq.symm
  have HS0 := Lib.hid hS
  clear hcl hw1 hq hR hln hs hl hh1 hb1 hS hfin
  go_enter Try.func56, Try.ntmps56
  go_upto_region 1 with fail
  rw [Hw1.out, Hq.out]
  go_upto_region 3 with fail
  refine AnyZ.start 23 (fun W => W.cell? ⟨q, 0, none⟩ = some (.int .i64 kv) ∧ W.cell? ⟨q, 1, none⟩ = some (.int .i64 kn) ∧ W.cell? ⟨q, 2, none⟩ = some (.slice la ln lc)) (by kernel_rfl) ⟨x0, x1, x2⟩ fun hHeld => ?_
  refine AnyZ.take 0 _ (v := ?_) (by simp only [gA, gS, gZ]; rfl) (by kernel_rfl) (by kernel_rfl) (by kernel_rfl) (by kernel_rfl) (by kernel_rfl) (by exact fun _ _ _ h => h) (Or.inl ⟨by rfl, ?_⟩) hHeld ?_
  rotate_left
  · intro w hSw; go_simp; with_reducible rfl
  try simp only [Act.put, pA, pZ, pS]
  refine AnyZ.take 1 _ (v := ?_) (by simp only [gA, gS, gZ]; rfl) (by kernel_rfl) (by kernel_rfl) (by kernel_rfl) (by kernel_rfl) (by kernel_rfl) (by exact fun _ _ _ h => h) (Or.inl ⟨by rfl, ?_⟩) hHeld ?_
  rotate_left
  · intro w hSw; go_simp; with_reducible rfl
  try simp only [Act.put, pA, pZ, pS]
  refine AnyZ.take 2 _ (v := ?_) (by simp only [gA, gS, gZ]; rfl) (by kernel_rfl) (by kernel_rfl) (by kernel_rfl) (by kernel_rfl) (by kernel_rfl) (by exact fun _ _ _ h => h) (Or.inl ⟨by rfl, ?_⟩) hHeld ?_
  rotate_left
  · intro w hSw; go_simp; with_reducible rfl
  try simp only [Act.put, pA, pZ, pS]
  refine AnyZ.take 3 _ (v := ?_) (by simp only [gA, gS, gZ]; rfl) (by kernel_rfl) (by kernel_rfl) (by kernel_rfl) (by kernel_rfl) (by kernel_rfl) (by exact fun _ _ _ h => h) (Or.inl ⟨by rfl, ?_⟩) hHeld ?_
  rotate_left
  · intro w hSw; go_simp; with_reducible rfl
  try simp only [Act.put, pA, pZ, pS]
  refine AnyZ.take 4 _ (v := ?_) (by simp only [gA, gS, gZ]; rfl) (by kernel_rfl) (by kernel_rfl) (by kernel_rfl) (by kernel_rfl) (by kernel_rfl) (by exact fun _ _ _ h => h) (Or.inl ⟨by rfl, ?_⟩) hHeld ?_
  rotate_left
  · intro w hSw; go_simp; with_reducible rfl
  try simp only [Act.put, pA, pZ, pS]
  refine AnyZ.take 5 _ (v := ?_) (by simp only [gA, gS, gZ]; rfl) (by kernel_rfl) (by kernel_rfl) (by kernel_rfl) (by kernel_rfl) (by kernel_rfl) (by exact fun _ _ _ h => h) (Or.inl ⟨by rfl, ?_⟩) hHeld ?_
  rotate_left
  · intro w hSw; go_simp; with_reducible rfl
  try simp only [Act.put, pA, pZ, pS]
  refine AnyZ.take 6 _ (v := ?_) (by simp only [gA, gS, gZ]; rfl) (by kernel_rfl) (by kernel_rfl) (by kernel_rfl) (by kernel_rfl) (by kernel_rfl) (by exact fun _ _ _ h => h) (Or.inl ⟨by rfl, ?_⟩) hHeld ?_
  rotate_left
  · intro w hSw; obtain ⟨q0, q1, q2⟩ := hSw; go_simp; with_reducible rfl
  try simp only [Act.put, pA, pZ, pS]
  refine AnyZ.take 7 _ (v := ?_) (by simp only [gA, gS, gZ]; rfl) (by kernel_rfl) (by kernel_rfl) (by kernel_rfl) (by kernel_rfl) (by kernel_rfl) (by exact fun _ _ _ h => h) (Or.inl ⟨by rfl, ?_⟩) hHeld ?_
  rotate_left
  · intro w hSw; go_simp; with_reducible rfl
  try simp only [Act.put, pA, pZ, pS]
  refine AnyZ.take 8 _ (v := ?_) (by simp only [gA, gS, gZ]; rfl) (by kernel_rfl) (by kernel_rfl) (by kernel_rfl) (by kernel_rfl) (by kernel_rfl) (by exact fun _ _ _ h => h) (Or.inl ⟨by rfl, ?_⟩) hHeld ?_
  rotate_left
  · intro w hSw; obtain ⟨q0, q1, q2⟩ := hSw; go_simp; with_reducible rfl
  try simp only [Act.put, pA, pZ, pS]
  refine AnyZ.take 9 _ (v := ?_) (by simp only [gA, gS, gZ]; rfl) (by kernel_rfl) (by kernel_rfl) (by kernel_rfl) (by kernel_rfl) (by kernel_rfl) (by exact fun _ _ _ h => h) (Or.inl ⟨by rfl, ?_⟩) hHeld ?_
  rotate_left
  · intro w hSw; go_simp; with_reducible rfl
  try simp only [Act.put, pA, pZ, pS]
  refine AnyZ.take 10 _ (v := ?_) (by simp only [gA, gS, gZ]; rfl) (by kernel_rfl) (by kernel_rfl) (by kernel_rfl) (by kernel_rfl) (by kernel_rfl) (by exact fun _ _ _ h => h) (Or.inl ⟨by rfl, ?_⟩) hHeld ?_
  rotate_left
  · intro w hSw; obtain ⟨q0, q1, q2⟩ := hSw; go_simp; with_reducible rfl
  try simp only [Act.put, pA, pZ, pS]
  refine AnyZ.take 13 _ (v := ?_) (by simp only [gA, gS, gZ]; rfl) (by kernel_rfl) (by kernel_rfl) (by kernel_rfl) (by kernel_rfl) (by kernel_rfl) (by exact fun _ _ _ h => h) (Or.inl ⟨by rfl, ?_⟩) hHeld ?_
  rotate_left
  · intro w hSw; go_simp; with_reducible rfl
  try simp only [Act.put, pA, pZ, pS]
  refine AnyZ.take 14 _ (v := ?_) (by simp only [gA, gS, gZ]; rfl) (by kernel_rfl) (by kernel_rfl) (by kernel_rfl) (by kernel_rfl) (by kernel_rfl) (by exact fun _ _ _ h => h) (Or.inl ⟨by rfl, ?_⟩) hHeld ?_
  rotate_left
  · intro w hSw; obtain ⟨q0, q1, q2⟩ := hSw; go_simp; with_reducible rfl
  try simp only [Act.put, pA, pZ, pS]
  refine AnyZ.take 15 _ (v := ?_) (by simp only [gA, gS, gZ]; rfl) (by kernel_rfl) (by kernel_rfl) (by kernel_rfl) (by kernel_rfl) (by kernel_rfl) (by exact fun _ _ _ h => h) (Or.inl ⟨by rfl, ?_⟩) hHeld ?_
  rotate_left
  · intro w hSw; go_simp; with_reducible rfl
  try simp only [Act.put, pA, pZ, pS]
  refine AnyZ.take 16 _ (v := ?_) (by simp only [gA, gS, gZ]; rfl) (by kernel_rfl) (by kernel_rfl) (by kernel_rfl) (by kernel_rfl) (by kernel_rfl) (by exact fun _ _ _ h => h) (Or.inl ⟨by rfl, ?_⟩) hHeld ?_
  rotate_left
  · intro w hSw; obtain ⟨q0, q1, q2⟩ := hSw; go_simp; with_reducible rfl
  try simp only [Act.put, pA, pZ, pS]
  refine AnyZ.take 17 _ (v := ?_) (by simp only [gA, gS, gZ]; rfl) (by kernel_rfl) (by kernel_rfl) (by kernel_rfl) (by kernel_rfl) (by kernel_rfl) (by exact fun _ _ _ h => h) (Or.inl ⟨by rfl, ?_⟩) hHeld ?_
  rotate_left
  · intro w hSw; go_simp; with_reducible rfl
  try simp only [Act.put, pA, pZ, pS]
  obtain ⟨w2, hw2⟩ : ∃ x, x = w1.drew := ⟨_, rfl⟩
  have st : NewSt w1 ok ln kl w2 none none none none := by rw [hw2]; exact NewSt.start (Below.refl _ w1).drew
  refine AnyZ.gen hw2 ?_
  have hHeld := HS0.out w2 st.below
  clear hw2
  refine AnyZ.each [11, 18, 19, 20] (by kernel_rfl) rfl ?_
  refine AnyEach.cons 11 _ (by simp only [gA, gS, gZ]; rfl) (fun K hK => ?_) ?_
  · rw [if_pos (by rfl)]
    go_simp
    try go_at_call 93
    refine (Hcl.out _ st.below).mono ?_
    rintro e w3 ⟨a4, c4, rfl, hc4, hs4, hb4⟩
    have st := st.clone hc4 hs4 hb4
    clear hc4 hs4 hb4
    refine hK.out _ _ (fun _ => HS0.out _ st.below) fun hHeld => ?_
    clear hK K
    have hHeld := hHeld rfl
    try simp only [Act.put, pA, pZ, pS]
    refine AnyZ.take 12 _ (v := ?_) (by simp only [gA, gS, gZ]; rfl) (by kernel_rfl) (by kernel_rfl) (by kernel_rfl) (by kernel_rfl) (by kernel_rfl) (by exact fun _ _ _ h => h) (Or.inl ⟨by rfl, ?_⟩) hHeld ?_
    rotate_left
    · intro w hSw; go_simp; with_reducible rfl
    try simp only [Act.put, pA, pZ, pS]
    refine AnyZ.each [18, 19, 20] (by kernel_rfl) rfl ?_
    refine AnyEach.cons 18 _ (by simp only [gA, gS, gZ]; rfl) (fun K hK => ?_) ?_
    · rw [if_pos (by rfl)]
      go_simp
      have st := st.map18
      refine hK.out _ _ (fun _ => HS0.out _ st.below) fun hHeld => ?_
      obtain ⟨w4, hw4⟩ : ∃ x, x = w3.alloc (.map #[] 0) := ⟨_, rfl⟩
      refine AnyZ.gen hw4 ?_
      rw [← hw4] at st hHeld
      clear hw4
      clear hK K
      have hHeld := hHeld rfl
      try simp only [Act.put, pA, pZ, pS]
      refine AnyZ.each [19, 20] (by kernel_rfl) rfl ?_
      refine AnyEach.cons 19 _ (by simp only [gA, gS, gZ]; rfl) (fun K hK => ?_) ?_
      · rw [if_pos (by rfl)]
        go_simp
        have st := st.map19
        refine hK.out _ _ (fun _ => HS0.out _ st.below) fun hHeld => ?_
        obtain ⟨w5, hw5⟩ : ∃ x, x = w4.alloc (.map #[] 0) := ⟨_, rfl⟩
        refine AnyZ.gen hw5 ?_
        rw [← hw5] at st hHeld
        clear hw5
        clear hK K
        have hHeld := hHeld rfl
        try simp only [Act.put, pA, pZ, pS]
        refine AnyZ.each [20] (by kernel_rfl) rfl ?_
        refine AnyEach.cons 20 _ (by simp only [gA, gS, gZ]; rfl) (fun K hK => ?_) ?_
        · rw [if_pos (by rfl)]
          go_simp
          have st := st.map20
          refine hK.out _ _ (fun _ => HS0.out _ st.below) fun hHeld => ?_
          obtain ⟨w6, hw6⟩ : ∃ x, x = w5.alloc (.map #[] 0) := ⟨_, rfl⟩
          refine AnyZ.gen hw6 ?_
          rw [← hw6] at st hHeld
          clear hw6
          clear hK K
          have hHeld := hHeld rfl
          try simp only [Act.put, pA, pZ, pS]
          refine AnyZ.take 21 _ (v := ?_) (by simp only [gA, gS, gZ]; rfl) (by kernel_rfl) (by kernel_rfl) (by kernel_rfl) (by kernel_rfl) (by kernel_rfl) (by exact fun _ _ _ h => h) (Or.inl ⟨by rfl, ?_⟩) hHeld ?_
          rotate_left
          · intro w hSw; go_simp; with_reducible rfl
          try simp only [Act.put, pA, pZ, pS]
          have hfin := HFin.out _ _ _ _ _ _ st
          clear st
          refine AnyZ.lone 22 _ (by kernel_rfl) (by simp only [gA, gS, gZ]; rfl) fun K hK => ?_
          rw [if_pos (by rfl)]
          go_simp
          refine hK.out _ _ (fun _ => hfin.1) fun _ => ?_
          clear hK K
          try simp only [Act.put, pA, pZ, pS]
          refine AnyZ.lone 23 _ (by kernel_rfl) (by simp only [gA, gS, gZ]; rfl) fun K hK => ?_
          rw [if_pos (by rfl)]
          go_simp
          refine hK.out _ _ (fun h => (by cases h)) fun _ => ?_
          clear hK K
          try simp only [Act.put, pA, pZ, pS]
          refine AnyZ.lone 24 _ (by kernel_rfl) (by simp only [gA, gS, gZ]; rfl) fun K hK => ?_
          rw [if_pos (by rfl)]
          go_simp
          refine hK.out _ _ (fun _ => hfin.1) fun _ => ?_
          clear hK K
          try simp only [Act.put, pA, pZ, pS]
          refine AnyZ.done (by kernel_rfl) ?_ _
          go_wp2_with fail
          refine bodyPost_ret (v := .tuple #[.pointer (some ⟨w6.heap.size, 0, none⟩), .int .i64 0]) (by simp [results, Try.results56, go_sem]) rfl ?_
          exact ⟨_, rfl, hfin.2⟩
        exact AnyEach.nil
      refine AnyEach.cons 20 _ (by simp only [gA, gS, gZ]; rfl) (fun K hK => ?_) ?_
      · rw [if_pos (by rfl)]
        go_simp
        have st := st.map20
        refine hK.out _ _ (fun _ => HS0.out _ st.below) fun hHeld => ?_
        obtain ⟨w5, hw5⟩ : ∃ x, x = w4.alloc (.map #[] 0) := ⟨_, rfl⟩
        refine AnyZ.gen hw5 ?_
        rw [← hw5] at st hHeld
        clear hw5
        clear hK K
        have hHeld := hHeld rfl
        try simp only [Act.put, pA, pZ, pS]
        refine AnyZ.each [19] (by kernel_rfl) rfl ?_
        refine AnyEach.cons 19 _ (by simp only [gA, gS, gZ]; rfl) (fun K hK => ?_) ?_
        · rw [if_pos (by rfl)]
          go_simp
          have st := st.map19
          refine hK.out _ _ (fun _ => HS0.out _ st.below) fun hHeld => ?_
          obtain ⟨w6, hw6⟩ : ∃ x, x = w5.alloc (.map #[] 0) := ⟨_, rfl⟩
          refine AnyZ.gen hw6 ?_
          rw [← hw6] at st hHeld
          clear hw6
          clear hK K
          have hHeld := hHeld rfl
          try simp only [Act.put, pA, pZ, pS]
          refine AnyZ.take 21 _ (v := ?_) (by simp only [gA, gS, gZ]; rfl) (by kernel_rfl) (by kernel_rfl) (by kernel_rfl) (by kernel_rfl) (by kernel_rfl) (by exact fun _ _ _ h => h) (Or.inl ⟨by rfl, ?_⟩) hHeld ?_
          rotate_left
          · intro w hSw; go_simp; with_reducible rfl
          try simp only [Act.put, pA, pZ, pS]
          have hfin := HFin.out _ _ _ _ _ _ st
          clear st
          refine AnyZ.lone 22 _ (by kernel_rfl) (by simp only [gA, gS, gZ]; rfl) fun K hK => ?_
          rw [if_pos (by rfl)]
          go_simp
          refine hK.out _ _ (fun _ => hfin.1) fun _ => ?_
          clear hK K
          try simp only [Act.put, pA, pZ, pS]
          refine AnyZ.lone 23 _ (by kernel_rfl) (by simp only [gA, gS, gZ]; rfl) fun K hK => ?_
          rw [if_pos (by rfl)]
          go_simp
          refine hK.out _ _ (fun h => (by cases h)) fun _ => ?_
          clear hK K
          try simp only [Act.put, pA, pZ, pS]
          refine AnyZ.lone 24 _ (by kernel_rfl) (by simp only [gA, gS, gZ]; rfl) fun K hK => ?_
          rw [if_pos (by rfl)]
          go_simp
          refine hK.out _ _ (fun _ => hfin.1) fun _ => ?_
          clear hK K
          try simp only [Act.put, pA, pZ, pS]
          refine AnyZ.done (by kernel_rfl) ?_ _
          go_wp2_with fail
          refine bodyPost_ret (v := .tuple #[.pointer (some ⟨w6.heap.size, 0, none⟩), .int .i64 0]) (by simp [results, Try.results56, go_sem]) rfl ?_
          exact ⟨_, rfl, hfin.2⟩
        exact AnyEach.nil
      exact AnyEach.nil
    refine AnyEach.cons 19 _ (by simp only [gA, gS, gZ]; rfl) (fun K hK => ?_) ?_
    · rw [if_pos (by rfl)]
      go_simp
      have st := st.map19
      refine hK.out _ _ (fun _ => HS0.out _ st.below) fun hHeld => ?_
      obtain ⟨w4, hw4⟩ : ∃ x, x = w3.alloc (.map #[] 0) := ⟨_, rfl⟩
      refine AnyZ.gen hw4 ?_
      rw [← hw4] at st hHeld
      clear hw4
      clear hK K
      have hHeld := hHeld rfl
      try simp only [Act.put, pA, pZ, pS]
      refine AnyZ.each [18, 20] (by kernel_rfl) rfl ?_
      refine AnyEach.cons 18 _ (by simp only [gA, gS, gZ]; rfl) (fun K hK => ?_) ?_
      · rw [if_pos (by rfl)]
        go_simp
        have st := st.map18
        refine hK.out _ _ (fun _ => HS0.out _ st.below) fun hHeld => ?_
        obtain ⟨w5, hw5⟩ : ∃ x, x = w4.alloc (.map #[] 0) := ⟨_, rfl⟩
        refine AnyZ.gen hw5 ?_
        rw [← hw5] at st hHeld
        clear hw5
        clear hK K
        have hHeld := hHeld rfl
        try simp only [Act.put, pA, pZ, pS]
        refine AnyZ.each [20] (by kernel_rfl) rfl ?_
        refine AnyEach.cons 20 _ (by simp only [gA, gS, gZ]; rfl) (fun K hK => ?_) ?_
        · rw [if_pos (by rfl)]
          go_simp
          have st := st.map20
          refine hK.out _ _ (fun _ => HS0.out _ st.below) fun hHeld => ?_
          obtain ⟨w6, hw6⟩ : ∃ x, x = w5.alloc (.map #[] 0) := ⟨_, rfl⟩
          refine AnyZ.gen hw6 ?_
          rw [← hw6] at st hHeld
          clear hw6
          clear hK K
          have hHeld := hHeld rfl
          try simp only [Act.put, pA, pZ, pS]
          refine AnyZ.take 21 _ (v := ?_) (by simp only [gA, gS, gZ]; rfl) (by kernel_rfl) (by kernel_rfl) (by kernel_rfl) (by kernel_rfl) (by kernel_rfl) (by exact fun _ _ _ h => h) (Or.inl ⟨by rfl, ?_⟩) hHeld ?_
          rotate_left
          · intro w hSw; go_simp; with_reducible rfl
          try simp only [Act.put, pA, pZ, pS]
          have hfin := HFin.out _ _ _ _ _ _ st
          clear st
          refine AnyZ.lone 22 _ (by kernel_rfl) (by simp only [gA, gS, gZ]; rfl) fun K hK => ?_
          rw [if_pos (by rfl)]
          go_simp
          refine hK.out _ _ (fun _ => hfin.1) fun _ => ?_
          clear hK K
          try simp only [Act.put, pA, pZ, pS]
          refine AnyZ.lone 23 _ (by kernel_rfl) (by simp only [gA, gS, gZ]; rfl) fun K hK => ?_
          rw [if_pos (by rfl)]
          go_simp
          refine hK.out _ _ (fun h => (by cases h)) fun _ => ?_
          clear hK K
          try simp only [Act.put, pA, pZ, pS]
          refine AnyZ.lone 24 _ (by kernel_rfl) (by simp only [gA, gS, gZ]; rfl) fun K hK => ?_
          rw [if_pos (by rfl)]
          go_simp
          refine hK.out _ _ (fun _ => hfin.1) fun _ => ?_
          clear hK K
          try simp only [Act.put, pA, pZ, pS]
          refine AnyZ.done (by kernel_rfl) ?_ _
          go_wp2_with fail
          refine bodyPost_ret (v := .tuple #[.pointer (some ⟨w6.heap.size, 0, none⟩), .int .i64 0]) (by simp [results, Try.results56, go_sem]) rfl ?_
          exact ⟨_, rfl, hfin.2⟩
        exact AnyEach.nil
      refine AnyEach.cons 20 _ (by simp only [gA, gS, gZ]; rfl) (fun K hK => ?_) ?_
      · rw [if_pos (by rfl)]
        go_simp
        have st := st.map20
        refine hK.out _ _ (fun _ => HS0.out _ st.below) fun hHeld => ?_
        obtain ⟨w5, hw5⟩ : ∃ x, x = w4.alloc (.map #[] 0) := ⟨_, rfl⟩
        refine AnyZ.gen hw5 ?_
        rw [← hw5] at st hHeld
        clear hw5
        clear hK K
        have hHeld := hHeld rfl
        try simp only [Act.put, pA, pZ, pS]
        refine AnyZ.each [18] (by kernel_rfl) rfl ?_
        refine AnyEach.cons 18 _ (by simp only [gA, gS, gZ]; rfl) (fun K hK => ?_) ?_
        · rw [if_pos (by rfl)]
          go_simp
          have st := st.map18
          refine hK.out _ _ (fun _ => HS0.out _ st.below) fun hHeld => ?_
          obtain ⟨w6, hw6⟩ : ∃ x, x = w5.alloc (.map #[] 0) := ⟨_, rfl⟩
          refine AnyZ.gen hw6 ?_
          rw [← hw6] at st hHeld
          clear hw6
          clear hK K
          have hHeld := hHeld rfl
          try simp only [Act.put, pA, pZ, pS]
          refine AnyZ.take 21 _ (v := ?_) (by simp only [gA, gS, gZ]; rfl) (by kernel_rfl) (by kernel_rfl) (by kernel_rfl) (by kernel_rfl) (by kernel_rfl) (by exact fun _ _ _ h => h) (Or.inl ⟨by rfl, ?_⟩) hHeld ?_
          rotate_left
          · intro w hSw; go_simp; with_reducible rfl
          try simp only [Act.put, pA, pZ, pS]
          have hfin := HFin.out _ _ _ _ _ _ st
          clear st
          refine AnyZ.lone 22 _ (by kernel_rfl) (by simp only [gA, gS, gZ]; rfl) fun K hK => ?_
          rw [if_pos (by rfl)]
          go_simp
          refine hK.out _ _ (fun _ => hfin.1) fun _ => ?_
          clear hK K
          try simp only [Act.put, pA, pZ, pS]
          refine AnyZ.lone 23 _ (by kernel_rfl) (by simp only [gA, gS, gZ]; rfl) fun K hK => ?_
          rw [if_pos (by rfl)]
          go_simp
          refine hK.out _ _ (fun h => (by cases h)) fun _ => ?_
          clear hK K
          try simp only [Act.put, pA, pZ, pS]
          refine AnyZ.lone 24 _ (by kernel_rfl) (by simp only [gA, gS, gZ]; rfl) fun K hK => ?_
          rw [if_pos (by rfl)]
          go_simp
          refine hK.out _ _ (fun _ => hfin.1) fun _ => ?_
          clear hK K
          try simp only [Act.put, pA, pZ, pS]
          refine AnyZ.done (by kernel_rfl) ?_ _
          go_wp2_with fail
          refine bodyPost_ret (v := .tuple #[.pointer (some ⟨w6.heap.size, 0, none⟩), .int .i64 0]) (by simp [results, Try.results56, go_sem]) rfl ?_
          exact ⟨_, rfl, hfin.2⟩
        exact AnyEach.nil
      exact AnyEach.nil
    refine AnyEach.cons 20 _ (by simp only [gA, gS, gZ]; rfl) (fun K hK => ?_) ?_
    · rw [if_pos (by rfl)]
      go_simp
      have st := st.map20
      refine hK.out _ _ (fun _ => HS0.out _ st.below) fun hHeld => ?_
      obtain ⟨w4, hw4⟩ : ∃ x, x = w3.alloc (.map #[] 0) := ⟨_, rfl⟩
      refine AnyZ.gen hw4 ?_
      rw [← hw4] at st hHeld
      clear hw4
      clear hK K
      have hHeld := hHeld rfl
      try simp only [Act.put, pA, pZ, pS]
      refine AnyZ.each [18, 19] (by kernel_rfl) rfl ?_
      refine AnyEach.cons 18 _ (by simp only [gA, gS, gZ]; rfl) (fun K hK => ?_) ?_
      · rw [if_pos (by rfl)]
        go_simp
        have st := st.map18
        refine hK.out _ _ (fun _ => HS0.out _ st.below) fun hHeld => ?_
        obtain ⟨w5, hw5⟩ : ∃ x, x = w4.alloc (.map #[] 0) := ⟨_, rfl⟩
        refine AnyZ.gen hw5 ?_
        rw [← hw5] at st hHeld
        clear hw5
        clear hK K
        have hHeld := hHeld rfl
        try simp only [Act.put, pA, pZ, pS]
        refine AnyZ.each [19] (by kernel_rfl) rfl ?_
        refine AnyEach.cons 19 _ (by simp only [gA, gS, gZ]; rfl) (fun K hK => ?_) ?_
        · rw [if_pos (by rfl)]
          go_simp
          have st := st.map19
          refine hK.out _ _ (fun _ => HS0.out _ st.below) fun hHeld => ?_
          obtain ⟨w6, hw6⟩ : ∃ x, x = w5.alloc (.map #[] 0) := ⟨_, rfl⟩
          refine AnyZ.gen hw6 ?_
          rw [← hw6] at st hHeld
          clear hw6
          clear hK K
          have hHeld := hHeld rfl
          try simp only [Act.put, pA, pZ, pS]
          refine AnyZ.take 21 _ (v := ?_) (by simp only [gA, gS, gZ]; rfl) (by kernel_rfl) (by kernel_rfl) (by kernel_rfl) (by kernel_rfl) (by kernel_rfl) (by exact fun _ _ _ h => h) (Or.inl ⟨by rfl, ?_⟩) hHeld ?_
          rotate_left
          · intro w hSw; go_simp; with_reducible rfl
          try simp only [Act.put, pA, pZ, pS]
          have hfin := HFin.out _ _ _ _ _ _ st
          clear st
          refine AnyZ.lone 22 _ (by kernel_rfl) (by simp only [gA, gS, gZ]; rfl) fun K hK => ?_
          rw [if_pos (by rfl)]
          go_simp
          refine hK.out _ _ (fun _ => hfin.1) fun _ => ?_
          clear hK K
          try simp only [Act.put, pA, pZ, pS]
          refine AnyZ.lone 23 _ (by kernel_rfl) (by simp only [gA, gS, gZ]; rfl) fun K hK => ?_
          rw [if_pos (by rfl)]
          go_simp
          refine hK.out _ _ (fun h => (by cases h)) fun _ => ?_
          clear hK K
          try simp only [Act.put, pA, pZ, pS]
          refine AnyZ.lone 24 _ (by kernel_rfl) (by simp only [gA, gS, gZ]; rfl) fun K hK => ?_
          rw [if_pos (by rfl)]
          go_simp
          refine hK.out _ _ (fun _ => hfin.1) fun _ => ?_
          clear hK K
          try simp only [Act.put, pA, pZ, pS]
          refine AnyZ.done (by kernel_rfl) ?_ _
          go_wp2_with fail
          refine bodyPost_ret (v := .tuple #[.pointer (some ⟨w6.heap.size, 0, none⟩), .int .i64 0]) (by simp [results, Try.results56, go_sem]) rfl ?_
          exact ⟨_, rfl, hfin.2⟩
        exact AnyEach.nil
      refine AnyEach.cons 19 _ (by simp only [gA, gS, gZ]; rfl) (fun K hK => ?_) ?_
      · rw [if_pos (by rfl)]
        go_simp
        have st := st.map19
        refine hK.out _ _ (fun _ => HS0.out _ st.below) fun hHeld => ?_
        obtain ⟨w5, hw5⟩ : ∃ x, x = w4.alloc (.map #[] 0) := ⟨_, rfl⟩
        refine AnyZ.gen hw5 ?_
        rw [← hw5] at st hHeld
        clear hw5
        clear hK K
        have hHeld := hHeld rfl
        try simp only [Act.put, pA, pZ, pS]
        refine AnyZ.each [18] (by kernel_rfl) rfl ?_
        refine AnyEach.cons 18 _ (by simp only [gA, gS, gZ]; rfl) (fun K hK => ?_) ?_
        · rw [if_pos (by rfl)]
          go_simp
          have st := st.map18
          refine hK.out _ _ (fun _ => HS0.out _ st.below) fun hHeld => ?_
          obtain ⟨w6, hw6⟩ : ∃ x, x = w5.alloc (.map #[] 0) := ⟨_, rfl⟩
          refine AnyZ.gen hw6 ?_
          rw [← hw6] at st hHeld
          clear hw6
          clear hK K
          have hHeld := hHeld rfl
          try simp only [Act.put, pA, pZ, pS]
          refine AnyZ.take 21 _ (v := ?_) (by simp only [gA, gS, gZ]; rfl) (by kernel_rfl) (by kernel_rfl) (by kernel_rfl) (by kernel_rfl) (by kernel_rfl) (by exact fun _ _ _ h => h) (Or.inl ⟨by rfl, ?_⟩) hHeld ?_
          rotate_left
          · intro w hSw; go_simp; with_reducible rfl
          try simp only [Act.put, pA, pZ, pS]
          have hfin := HFin.out _ _ _ _ _ _ st
          clear st
          refine AnyZ.lone 22 _ (by kernel_rfl) (by simp only [gA, gS, gZ]; rfl) fun K hK => ?_
          rw [if_pos (by rfl)]
          go_simp
          refine hK.out _ _ (fun _ => hfin.1) fun _ => ?_
          clear hK K
          try simp only [Act.put, pA, pZ, pS]
          refine AnyZ.lone 23 _ (by kernel_rfl) (by simp only [gA, gS, gZ]; rfl) fun K hK => ?_
          rw [if_pos (by rfl)]
          go_simp
          refine hK.out _ _ (fun h => (by cases h)) fun _ => ?_
          clear hK K
          try simp only [Act.put, pA, pZ, pS]
          refine AnyZ.lone 24 _ (by kernel_rfl) (by simp only [gA, gS, gZ]; rfl) fun K hK => ?_
          rw [if_pos (by rfl)]
          go_simp
          refine hK.out _ _ (fun _ => hfin.1) fun _ => ?_
          clear hK K
          try simp only [Act.put, pA, pZ, pS]
          refine AnyZ.done (by kernel_rfl) ?_ _
          go_wp2_with fail
          refine bodyPost_ret (v := .tuple #[.pointer (some ⟨w6.heap.size, 0, none⟩), .int .i64 0]) (by simp [results, Try.results56, go_sem]) rfl ?_
          exact ⟨_, rfl, hfin.2⟩
        exact AnyEach.nil
      exact AnyEach.nil
    exact AnyEach.nil
  refine AnyEach.cons 18 _ (by simp only [gA, gS, gZ]; rfl) (fun K hK => ?_) ?_
  · rw [if_pos (by rfl)]
    go_simp
    have st := st.map18
    refine hK.out _ _ (fun _ => HS0.out _ st.below) fun hHeld => ?_
    obtain ⟨w3, hw3⟩ : ∃ x, x = w2.alloc (.map #[] 0) := ⟨_, rfl⟩
    refine AnyZ.gen hw3 ?_
    rw [← hw3] at st hHeld
    clear hw3
    clear hK K
    have hHeld := hHeld rfl
    try simp only [Act.put, pA, pZ, pS]
    refine AnyZ.each [11, 19, 20] (by kernel_rfl) rfl ?_
    refine AnyEach.cons 11 _ (by simp only [gA, gS, gZ]; rfl) (fun K hK => ?_) ?_
    · rw [if_pos (by rfl)]
      go_simp
      try go_at_call 93
      refine (Hcl.out _ st.below).mono ?_
      rintro e w4 ⟨a4, c4, rfl, hc4, hs4, hb4⟩
      have st := st.clone hc4 hs4 hb4
      clear hc4 hs4 hb4
      refine hK.out _ _ (fun _ => HS0.out _ st.below) fun hHeld => ?_
      clear hK K
      have hHeld := hHeld rfl
      try simp only [Act.put, pA, pZ, pS]
      refine AnyZ.take 12 _ (v := ?_) (by simp only [gA, gS, gZ]; rfl) (by kernel_rfl) (by kernel_rfl) (by kernel_rfl) (by kernel_rfl) (by kernel_rfl) (by exact fun _ _ _ h => h) (Or.inl ⟨by rfl, ?_⟩) hHeld ?_
      rotate_left
      · intro w hSw; go_simp; with_reducible rfl
      try simp only [Act.put, pA, pZ, pS]
      refine AnyZ.each [19, 20] (by kernel_rfl) rfl ?_
      refine AnyEach.cons 19 _ (by simp only [gA, gS, gZ]; rfl) (fun K hK => ?_) ?_
      · rw [if_pos (by rfl)]
        go_simp
        have st := st.map19
        refine hK.out _ _ (fun _ => HS0.out _ st.below) fun hHeld => ?_
        obtain ⟨w5, hw5⟩ : ∃ x, x = w4.alloc (.map #[] 0) := ⟨_, rfl⟩
        refine AnyZ.gen hw5 ?_
        rw [← hw5] at st hHeld
        clear hw5
        clear hK K
        have hHeld := hHeld rfl
        try simp only [Act.put, pA, pZ, pS]
        refine AnyZ.each [20] (by kernel_rfl) rfl ?_
        refine AnyEach.cons 20 _ (by simp only [gA, gS, gZ]; rfl) (fun K hK => ?_) ?_
        · rw [if_pos (by rfl)]
          go_simp
          have st := st.map20
          refine hK.out _ _ (fun _ => HS0.out _ st.below) fun hHeld => ?_
          obtain ⟨w6, hw6⟩ : ∃ x, x = w5.alloc (.map #[] 0) := ⟨_, rfl⟩
          refine AnyZ.gen hw6 ?_
          rw [← hw6] at st hHeld
          clear hw6
          clear hK K
          have hHeld := hHeld rfl
          try simp only [Act.put, pA, pZ, pS]
          refine AnyZ.take 21 _ (v := ?_) (by simp only [gA, gS, gZ]; rfl) (by kernel_rfl) (by kernel_rfl) (by kernel_rfl) (by kernel_rfl) (by kernel_rfl) (by exact fun _ _ _ h => h) (Or.inl ⟨by rfl, ?_⟩) hHeld ?_
          rotate_left
          · intro w hSw; go_simp; with_reducible rfl
          try simp only [Act.put, pA, pZ, pS]
          have hfin := HFin.out _ _ _ _ _ _ st
          clear st
          refine AnyZ.lone 22 _ (by kernel_rfl) (by simp only [gA, gS, gZ]; rfl) fun K hK => ?_
          rw [if_pos (by rfl)]
          go_simp
          refine hK.out _ _ (fun _ => hfin.1) fun _ => ?_
          clear hK K
          try simp only [Act.put, pA, pZ, pS]
          refine AnyZ.lone 23 _ (by kernel_rfl) (by simp only [gA, gS, gZ]; rfl) fun K hK => ?_
          rw [if_pos (by rfl)]
          go_simp
          refine hK.out _ _ (fun h => (by cases h)) fun _ => ?_
          clear hK K
          try simp only [Act.put, pA, pZ, pS]
          refine AnyZ.lone 24 _ (by kernel_rfl) (by simp only [gA, gS, gZ]; rfl) fun K hK => ?_
          rw [if_pos (by rfl)]
          go_simp
          refine hK.out _ _ (fun _ => hfin.1) fun _ => ?_
          clear hK K
          try simp only [Act.put, pA, pZ, pS]
          refine AnyZ.done (by kernel_rfl) ?_ _
          go_wp2_with fail
          refine bodyPost_ret (v := .tuple #[.pointer (some ⟨w6.heap.size, 0, none⟩), .int .i64 0]) (by simp [results, Try.results56, go_sem]) rfl ?_
          exact ⟨_, rfl, hfin.2⟩
        exact AnyEach.nil
      refine AnyEach.cons 20 _ (by simp only [gA, gS, gZ]; rfl) (fun K hK => ?_) ?_
      · rw [if_pos (by rfl)]
        go_simp
        have st := st.map20
        refine hK.out _ _ (fun _ => HS0.out _ st.below) fun hHeld => ?_
        obtain ⟨w5, hw5⟩ : ∃ x, x = w4.alloc (.map #[] 0) := ⟨_, rfl⟩
        refine AnyZ.gen hw5 ?_
        rw [← hw5] at st hHeld
        clear hw5
        clear hK K
        have hHeld := hHeld rfl
        try simp only [Act.put, pA, pZ, pS]
        refine AnyZ.each [19] (by kernel_rfl) rfl ?_
        refine AnyEach.cons 19 _ (by simp only [gA, gS, gZ]; rfl) (fun K hK => ?_) ?_
        · rw [if_pos (by rfl)]
          go_simp
          have st := st.map19
          refine hK.out _ _ (fun _ => HS0.out _ st.below) fun hHeld => ?_
          obtain ⟨w6, hw6⟩ : ∃ x, x = w5.alloc (.map #[] 0) := ⟨_, rfl⟩
          refine AnyZ.gen hw6 ?_
          rw [← hw6] at st hHeld
          clear hw6
          clear hK K
          have hHeld := hHeld rfl
          try simp only [Act.put, pA, pZ, pS]
          refine AnyZ.take 21 _ (v := ?_) (by simp only [gA, gS, gZ]; rfl) (by kernel_rfl) (by kernel_rfl) (by kernel_rfl) (by kernel_rfl) (by kernel_rfl) (by exact fun _ _ _ h => h) (Or.inl ⟨by rfl, ?_⟩) hHeld ?_
          rotate_left
          · intro w hSw; go_simp; with_reducible rfl
          try simp only [Act.put, pA, pZ, pS]
          have hfin := HFin.out _ _ _ _ _ _ st
          clear st
          refine AnyZ.lone 22 _ (by kernel_rfl) (by simp only [gA, gS, gZ]; rfl) fun K hK => ?_
          rw [if_pos (by rfl)]
          go_simp
          refine hK.out _ _ (fun _ => hfin.1) fun _ => ?_
          clear hK K
          try simp only [Act.put, pA, pZ, pS]
          refine AnyZ.lone 23 _ (by kernel_rfl) (by simp only [gA, gS, gZ]; rfl) fun K hK => ?_
          rw [if_pos (by rfl)]
          go_simp
          refine hK.out _ _ (fun h => (by cases h)) fun _ => ?_
          clear hK K
          try simp only [Act.put, pA, pZ, pS]
          refine AnyZ.lone 24 _ (by kernel_rfl) (by simp only [gA, gS, gZ]; rfl) fun K hK => ?_
          rw [if_pos (by rfl)]
          go_simp
          refine hK.out _ _ (fun _ => hfin.1) fun _ => ?_
          clear hK K
          try simp only [Act.put, pA, pZ, pS]
          refine AnyZ.done (by kernel_rfl) ?_ _
          go_wp2_with fail
          refine bodyPost_ret (v := .tuple #[.pointer (some ⟨w6.heap.size, 0, none⟩), .int .i64 0]) (by simp [results, Try.results56, go_sem]) rfl ?_
          exact ⟨_, rfl, hfin.2⟩
        exact AnyEach.nil
      exact AnyEach.nil
    refine AnyEach.cons 19 _ (by simp only [gA, gS, gZ]; rfl) (fun K hK => ?_) ?_
    · rw [if_pos (by rfl)]
      go_simp
      have st := st.map19
      refine hK.out _ _ (fun _ => HS0.out _ st.below) fun hHeld => ?_
      obtain ⟨w4, hw4⟩ : ∃ x, x = w3.alloc (.map #[] 0) := ⟨_, rfl⟩
      refine AnyZ.gen hw4 ?_
      rw [← hw4] at st hHeld
      clear hw4
      clear hK K
      have hHeld := hHeld rfl
      try simp only [Act.put, pA, pZ, pS]
      refine AnyZ.each [11, 20] (by kernel_rfl) rfl ?_
      refine AnyEach.cons 11 _ (by simp only [gA, gS, gZ]; rfl) (fun K hK => ?_) ?_
      · rw [if_pos (by rfl)]
        go_simp
        try go_at_call 93
        refine (Hcl.out _ st.below).mono ?_
        rintro e w5 ⟨a4, c4, rfl, hc4, hs4, hb4⟩
        have st := st.clone hc4 hs4 hb4
        clear hc4 hs4 hb4
        refine hK.out _ _ (fun _ => HS0.out _ st.below) fun hHeld => ?_
        clear hK K
        have hHeld := hHeld rfl
        try simp only [Act.put, pA, pZ, pS]
        refine AnyZ.take 12 _ (v := ?_) (by simp only [gA, gS, gZ]; rfl) (by kernel_rfl) (by kernel_rfl) (by kernel_rfl) (by kernel_rfl) (by kernel_rfl) (by exact fun _ _ _ h => h) (Or.inl ⟨by rfl, ?_⟩) hHeld ?_
        rotate_left
        · intro w hSw; go_simp; with_reducible rfl
        try simp only [Act.put, pA, pZ, pS]
        refine AnyZ.each [20] (by kernel_rfl) rfl ?_
        refine AnyEach.cons 20 _ (by simp only [gA, gS, gZ]; rfl) (fun K hK => ?_) ?_
        · rw [if_pos (by rfl)]
          go_simp
          have st := st.map20
          refine hK.out _ _ (fun _ => HS0.out _ st.below) fun hHeld => ?_
          obtain ⟨w6, hw6⟩ : ∃ x, x = w5.alloc (.map #[] 0) := ⟨_, rfl⟩
          refine AnyZ.gen hw6 ?_
          rw [← hw6] at st hHeld
          clear hw6
          clear hK K
          have hHeld := hHeld rfl
          try simp only [Act.put, pA, pZ, pS]
          refine AnyZ.take 21 _ (v := ?_) (by simp only [gA, gS, gZ]; rfl) (by kernel_rfl) (by kernel_rfl) (by kernel_rfl) (by kernel_rfl) (by kernel_rfl) (by exact fun _ _ _ h => h) (Or.inl ⟨by rfl, ?_⟩) hHeld ?_
          rotate_left
          · intro w hSw; go_simp; with_reducible rfl
          try simp only [Act.put, pA, pZ, pS]
          have hfin := HFin.out _ _ _ _ _ _ st
          clear st
          refine AnyZ.lone 22 _ (by kernel_rfl) (by simp only [gA, gS, gZ]; rfl) fun K hK => ?_
          rw [if_pos (by rfl)]
          go_simp
          refine hK.out _ _ (fun _ => hfin.1) fun _ => ?_
          clear hK K
          try simp only [Act.put, pA, pZ, pS]
          refine AnyZ.lone 23 _ (by kernel_rfl) (by simp only [gA, gS, gZ]; rfl) fun K hK => ?_
          rw [if_pos (by rfl)]
          go_simp
          refine hK.out _ _ (fun h => (by cases h)) fun _ => ?_
          clear hK K
          try simp only [Act.put, pA, pZ, pS]
          refine AnyZ.lone 24 _ (by kernel_rfl) (by simp only [gA, gS, gZ]; rfl) fun K hK => ?_
          rw [if_pos (by rfl)]
          go_simp
          refine hK.out _ _ (fun _ => hfin.1) fun _ => ?_
          clear hK K
          try simp only [Act.put, pA, pZ, pS]
          refine AnyZ.done (by kernel_rfl) ?_ _
          go_wp2_with fail
          refine bodyPost_ret (v := .tuple #[.pointer (some ⟨w6.heap.size, 0, none⟩), .int .i64 0]) (by simp [results, Try.results56, go_sem]) rfl ?_
          exact ⟨_, rfl, hfin.2⟩
        exact AnyEach.nil
      refine AnyEach.cons 20 _ (by simp only [gA, gS, gZ]; rfl) (fun K hK => ?_) ?_
      · rw [if_pos (by rfl)]
        go_simp
        have st := st.map20
        refine hK.out _ _ (fun _ => HS0.out _ st.below) fun hHeld => ?_
        obtain ⟨w5, hw5⟩ : ∃ x, x = w4.alloc (.map #[] 0) := ⟨_, rfl⟩
        refine AnyZ.gen hw5 ?_
        rw [← hw5] at st hHeld
        clear hw5
        clear hK K
        have hHeld := hHeld rfl
        try simp only [Act.put, pA, pZ, pS]
        refine AnyZ.each [11] (by kernel_rfl) rfl ?_
        refine AnyEach.cons 11 _ (by simp only [gA, gS, gZ]; rfl) (fun K hK => ?_) ?_
        · rw [if_pos (by rfl)]
          go_simp
          try go_at_call 93
          refine (Hcl.out _ st.below).mono ?_
          rintro e w6 ⟨a4, c4, rfl, hc4, hs4, hb4⟩
          have st := st.clone hc4 hs4 hb4
          clear hc4 hs4 hb4
          refine hK.out _ _ (fun _ => HS0.out _ st.below) fun hHeld => ?_
          clear hK K
          have hHeld := hHeld rfl
          try simp only [Act.put, pA, pZ, pS]
          refine AnyZ.take 12 _ (v := ?_) (by simp only [gA, gS, gZ]; rfl) (by kernel_rfl) (by kernel_rfl) (by kernel_rfl) (by kernel_rfl) (by kernel_rfl) (by exact fun _ _ _ h => h) (Or.inl ⟨by rfl, ?_⟩) hHeld ?_
          rotate_left
          · intro w hSw; go_simp; with_reducible rfl
          try simp only [Act.put, pA, pZ, pS]
          refine AnyZ.take 21 _ (v := ?_) (by simp only [gA, gS, gZ]; rfl) (by kernel_rfl) (by kernel_rfl) (by kernel_rfl) (by kernel_rfl) (by kernel_rfl) (by exact fun _ _ _ h => h) (Or.inl ⟨by rfl, ?_⟩) hHeld ?_
          rotate_left
          · intro w hSw; go_simp; with_reducible rfl
          try simp only [Act.put, pA, pZ, pS]
          have hfin := HFin.out _ _ _ _ _ _ st
          clear st
          refine AnyZ.lone 22 _ (by kernel_rfl) (by simp only [gA, gS, gZ]; rfl) fun K hK => ?_
          rw [if_pos (by rfl)]
          go_simp
          refine hK.out _ _ (fun _ => hfin.1) fun _ => ?_
          clear hK K
          try simp only [Act.put, pA, pZ, pS]
          refine AnyZ.lone 23 _ (by kernel_rfl) (by simp only [gA, gS, gZ]; rfl) fun K hK => ?_
          rw [if_pos (by rfl)]
          go_simp
          refine hK.out _ _ (fun h => (by cases h)) fun _ => ?_
          clear hK K
          try simp only [Act.put, pA, pZ, pS]
          refine AnyZ.lone 24 _ (by kernel_rfl) (by simp only [gA, gS, gZ]; rfl) fun K hK => ?_
          rw [if_pos (by rfl)]
          go_simp
          refine hK.out _ _ (fun _ => hfin.1) fun _ => ?_
          clear hK K
          try simp only [Act.put, pA, pZ, pS]
          refine AnyZ.done (by kernel_rfl) ?_ _
          go_wp2_with fail
          refine bodyPost_ret (v := .tuple #[.pointer (some ⟨w6.heap.size, 0, none⟩), .int .i64 0]) (by simp [results, Try.results56, go_sem]) rfl ?_
          exact ⟨_, rfl, hfin.2⟩
        exact AnyEach.nil
      exact AnyEach.nil
    refine AnyEach.cons 20 _ (by simp only [gA, gS, gZ]; rfl) (fun K hK => ?_) ?_
    · rw [if_pos (by rfl)]
      go_simp
      have st := st.map20
      refine hK.out _ _ (fun _ => HS0.out _ st.below) fun hHeld => ?_
      obtain ⟨w4, hw4⟩ : ∃ x, x = w3.alloc (.map #[] 0) := ⟨_, rfl⟩
      refine AnyZ.gen hw4 ?_
      rw [← hw4] at st hHeld
      clear hw4
      clear hK K
      have hHeld := hHeld rfl
      try simp only [Act.put, pA, pZ, pS]
      refine AnyZ.each [11, 19] (by kernel_rfl) rfl ?_
      refine AnyEach.cons 11 _ (by simp only [gA, gS, gZ]; rfl) (fun K hK => ?_) ?_
      · rw [if_pos (by rfl)]
        go_simp
        try go_at_call 93
        refine (Hcl.out _ st.below).mono ?_
        rintro e w5 ⟨a4, c4, rfl, hc4, hs4, hb4⟩
        have st := st.clone hc4 hs4 hb4
        clear hc4 hs4 hb4
        refine hK.out _ _ (fun _ => HS0.out _ st.below) fun hHeld => ?_
        clear hK K
        have hHeld := hHeld rfl
        try simp only [Act.put, pA, pZ, pS]
        refine AnyZ.take 12 _ (v := ?_) (by simp only [gA, gS, gZ]; rfl) (by kernel_rfl) (by kernel_rfl) (by kernel_rfl) (by kernel_rfl) (by kernel_rfl) (by exact fun _ _ _ h => h) (Or.inl ⟨by rfl, ?_⟩) hHeld ?_
        rotate_left
        · intro w hSw; go_simp; with_reducible rfl
        try simp only [Act.put, pA, pZ, pS]
        refine AnyZ.each [19] (by kernel_rfl) rfl ?_
        refine AnyEach.cons 19 _ (by simp only [gA, gS, gZ]; rfl) (fun K hK => ?_) ?_
        · rw [if_pos (by rfl)]
          go_simp
          have st := st.map19
          refine hK.out _ _ (fun _ => HS0.out _ st.below) fun hHeld => ?_
          obtain ⟨w6, hw6⟩ : ∃ x, x = w5.alloc (.map #[] 0) := ⟨_, rfl⟩
          refine AnyZ.gen hw6 ?_
          rw [← hw6] at st hHeld
          clear hw6
          clear hK K
          have hHeld := hHeld rfl
          try simp only [Act.put, pA, pZ, pS]
          refine AnyZ.take 21 _ (v := ?_) (by simp only [gA, gS, gZ]; rfl) (by kernel_rfl) (by kernel_rfl) (by kernel_rfl) (by kernel_rfl) (by kernel_rfl) (by exact fun _ _ _ h => h) (Or.inl ⟨by rfl, ?_⟩) hHeld ?_
          rotate_left
          · intro w hSw; go_simp; with_reducible rfl
          try simp only [Act.put, pA, pZ, pS]
          have hfin := HFin.out _ _ _ _ _ _ st
          clear st
          refine AnyZ.lone 22 _ (by kernel_rfl) (by simp only [gA, gS, gZ]; rfl) fun K hK => ?_
          rw [if_pos (by rfl)]
          go_simp
          refine hK.out _ _ (fun _ => hfin.1) fun _ => ?_
          clear hK K
          try simp only [Act.put, pA, pZ, pS]
          refine AnyZ.lone 23 _ (by kernel_rfl) (by simp only [gA, gS, gZ]; rfl) fun K hK => ?_
          rw [if_pos (by rfl)]
          go_simp
          refine hK.out _ _ (fun h => (by cases h)) fun _ => ?_
          clear hK K
          try simp only [Act.put, pA, pZ, pS]
          refine AnyZ.lone 24 _ (by kernel_rfl) (by simp only [gA, gS, gZ]; rfl) fun K hK => ?_
          rw [if_pos (by rfl)]
          go_simp
          refine hK.out _ _ (fun _ => hfin.1) fun _ => ?_
          clear hK K
          try simp only [Act.put, pA, pZ, pS]
          refine AnyZ.done (by kernel_rfl) ?_ _
          go_wp2_with fail
          refine bodyPost_ret (v := .tuple #[.pointer (some ⟨w6.heap.size, 0, none⟩), .int .i64 0]) (by simp [results, Try.results56, go_sem]) rfl ?_
          exact ⟨_, rfl, hfin.2⟩
        exact AnyEach.nil
      refine AnyEach.cons 19 _ (by simp only [gA, gS, gZ]; rfl) (fun K hK => ?_) ?_
      · rw [if_pos (by rfl)]
        go_simp
        have st := st.map19
        refine hK.out _ _ (fun _ => HS0.out _ st.below) fun hHeld => ?_
        obtain ⟨w5, hw5⟩ : ∃ x, x = w4.alloc (.map #[] 0) := ⟨_, rfl⟩
        refine AnyZ.gen hw5 ?_
        rw [← hw5] at st hHeld
        clear hw5
        clear hK K
        have hHeld := hHeld rfl
        try simp only [Act.put, pA, pZ, pS]
        refine AnyZ.each [11] (by kernel_rfl) rfl ?_
        refine AnyEach.cons 11 _ (by simp only [gA, gS, gZ]; rfl) (fun K hK => ?_) ?_
        · rw [if_pos (by rfl)]
          go_simp
          try go_at_call 93
          refine (Hcl.out _ st.below).mono ?_
          rintro e w6 ⟨a4, c4, rfl, hc4, hs4, hb4⟩
          have st := st.clone hc4 hs4 hb4
          clear hc4 hs4 hb4
          refine hK.out _ _ (fun _ => HS0.out _ st.below) fun hHeld => ?_
          clear hK K
          have hHeld := hHeld rfl
          try simp only [Act.put, pA, pZ, pS]
          refine AnyZ.take 12 _ (v := ?_) (by simp only [gA, gS, gZ]; rfl) (by kernel_rfl) (by kernel_rfl) (by kernel_rfl) (by kernel_rfl) (by kernel_rfl) (by exact fun _ _ _ h => h) (Or.inl ⟨by rfl, ?_⟩) hHeld ?_
          rotate_left
          · intro w hSw; go_simp; with_reducible rfl
          try simp only [Act.put, pA, pZ, pS]
          refine AnyZ.take 21 _ (v := ?_) (by simp only [gA, gS, gZ]; rfl) (by kernel_rfl) (by kernel_rfl) (by kernel_rfl) (by kernel_rfl) (by kernel_rfl) (by exact fun _ _ _ h => h) (Or.inl ⟨by rfl, ?_⟩) hHeld ?_
          rotate_left
          · intro w hSw; go_simp; with_reducible rfl
          try simp only [Act.put, pA, pZ, pS]
          have hfin := HFin.out _ _ _ _ _ _ st
          clear st
          refine AnyZ.lone 22 _ (by kernel_rfl) (by simp only [gA, gS, gZ]; rfl) fun K hK => ?_
          rw [if_pos (by rfl)]
          go_simp
          refine hK.out _ _ (fun _ => hfin.1) fun _ => ?_
          clear hK K
          try simp only [Act.put, pA, pZ, pS]
          refine AnyZ.lone 23 _ (by kernel_rfl) (by simp only [gA, gS, gZ]; rfl) fun K hK => ?_
          rw [if_pos (by rfl)]
          go_simp
          refine hK.out _ _ (fun h => (by cases h)) fun _ => ?_
          clear hK K
          try simp only [Act.put, pA, pZ, pS]
          refine AnyZ.lone 24 _ (by kernel_rfl) (by simp only [gA, gS, gZ]; rfl) fun K hK => ?_
          rw [if_pos (by rfl)]
          go_simp
          refine hK.out _ _ (fun _ => hfin.1) fun _ => ?_
          clear hK K
          try simp only [Act.put, pA, pZ, pS]
          refine AnyZ.done (by kernel_rfl) ?_ _
          go_wp2_with fail
          refine bodyPost_ret (v := .tuple #[.pointer (some ⟨w6.heap.size, 0, none⟩), .int .i64 0]) (by simp [results, Try.results56, go_sem]) rfl ?_
          exact ⟨_, rfl, hfin.2⟩
        exact AnyEach.nil
      exact AnyEach.nil
    exact AnyEach.nil
  refine AnyEach.cons 19 _ (by simp only [gA, gS, gZ]; rfl) (fun K hK => ?_) ?_
  · rw [if_pos (by rfl)]
    go_simp
    have st := st.map19
    refine hK.out _ _ (fun _ => HS0.out _ st.below) fun hHeld => ?_
    obtain ⟨w3, hw3⟩ : ∃ x, x = w2.alloc (.map #[] 0) := ⟨_, rfl⟩
    refine AnyZ.gen hw3 ?_
    rw [← hw3] at st hHeld
    clear hw3
    clear hK K
    have hHeld := hHeld rfl
    try simp only [Act.put, pA, pZ, pS]
    refine AnyZ.each [11, 18, 20] (by kernel_rfl) rfl ?_
    refine AnyEach.cons 11 _ (by simp only [gA, gS, gZ]; rfl) (fun K hK => ?_) ?_
    · rw [if_pos (by rfl)]
      go_simp
      try go_at_call 93
      refine (Hcl.out _ st.below).mono ?_
      rintro e w4 ⟨a4, c4, rfl, hc4, hs4, hb4⟩
      have st := st.clone hc4 hs4 hb4
      clear hc4 hs4 hb4
      refine hK.out _ _ (fun _ => HS0.out _ st.below) fun hHeld => ?_
      clear hK K
      have hHeld := hHeld rfl
      try simp only [Act.put, pA, pZ, pS]
      refine AnyZ.take 12 _ (v := ?_) (by simp only [gA, gS, gZ]; rfl) (by kernel_rfl) (by kernel_rfl) (by kernel_rfl) (by kernel_rfl) (by kernel_rfl) (by exact fun _ _ _ h => h) (Or.inl ⟨by rfl, ?_⟩) hHeld ?_
      rotate_left
      · intro w hSw; go_simp; with_reducible rfl
      try simp only [Act.put, pA, pZ, pS]
      refine AnyZ.each [18, 20] (by kernel_rfl) rfl ?_
      refine AnyEach.cons 18 _ (by simp only [gA, gS, gZ]; rfl) (fun K hK => ?_) ?_
      · rw [if_pos (by rfl)]
        go_simp
        have st := st.map18
        refine hK.out _ _ (fun _ => HS0.out _ st.below) fun hHeld => ?_
        obtain ⟨w5, hw5⟩ : ∃ x, x = w4.alloc (.map #[] 0) := ⟨_, rfl⟩
        refine AnyZ.gen hw5 ?_
        rw [← hw5] at st hHeld
        clear hw5
        clear hK K
        have hHeld := hHeld rfl
        try simp only [Act.put, pA, pZ, pS]
        refine AnyZ.each [20] (by kernel_rfl) rfl ?_
        refine AnyEach.cons 20 _ (by simp only [gA, gS, gZ]; rfl) (fun K hK => ?_) ?_
        · rw [if_pos (by rfl)]
          go_simp
          have st := st.map20
          refine hK.out _ _ (fun _ => HS0.out _ st.below) fun hHeld => ?_
          obtain ⟨w6, hw6⟩ : ∃ x, x = w5.alloc (.map #[] 0) := ⟨_, rfl⟩
          refine AnyZ.gen hw6 ?_
          rw [← hw6] at st hHeld
          clear hw6
          clear hK K
          have hHeld := hHeld rfl
          try simp only [Act.put, pA, pZ, pS]
          refine AnyZ.take 21 _ (v := ?_) (by simp only [gA, gS, gZ]; rfl) (by kernel_rfl) (by kernel_rfl) (by kernel_rfl) (by kernel_rfl) (by kernel_rfl) (by exact fun _ _ _ h => h) (Or.inl ⟨by rfl, ?_⟩) hHeld ?_
          rotate_left
          · intro w hSw; go_simp; with_reducible rfl
          try simp only [Act.put, pA, pZ, pS]
          have hfin := HFin.out _ _ _ _ _ _ st
          clear st
          refine AnyZ.lone 22 _ (by kernel_rfl) (by simp only [gA, gS, gZ]; rfl) fun K hK => ?_
          rw [if_pos (by rfl)]
          go_simp
          refine hK.out _ _ (fun _ => hfin.1) fun _ => ?_
          clear hK K
          try simp only [Act.put, pA, pZ, pS]
          refine AnyZ.lone 23 _ (by kernel_rfl) (by simp only [gA, gS, gZ]; rfl) fun K hK => ?_
          rw [if_pos (by rfl)]
          go_simp
          refine hK.out _ _ (fun h => (by cases h)) fun _ => ?_
          clear hK K
          try simp only [Act.put, pA, pZ, pS]
          refine AnyZ.lone 24 _ (by kernel_rfl) (by simp only [gA, gS, gZ]; rfl) fun K hK => ?_
          rw [if_pos (by rfl)]
          go_simp
          refine hK.out _ _ (fun _ => hfin.1) fun _ => ?_
          clear hK K
          try simp only [Act.put, pA, pZ, pS]
          refine AnyZ.done (by kernel_rfl) ?_ _
          go_wp2_with fail
          refine bodyPost_ret (v := .tuple #[.pointer (some ⟨w6.heap.size, 0, none⟩), .int .i64 0]) (by simp [results, Try.results56, go_sem]) rfl ?_
          exact ⟨_, rfl, hfin.2⟩
        exact AnyEach.nil
      refine AnyEach.cons 20 _ (by simp only [gA, gS, gZ]; rfl) (fun K hK => ?_) ?_
      · rw [if_pos (by rfl)]
        go_simp
        have st := st.map20
        refine hK.out _ _ (fun _ => HS0.out _ st.below) fun hHeld => ?_
        obtain ⟨w5, hw5⟩ : ∃ x, x = w4.alloc (.map #[] 0) := ⟨_, rfl⟩
        refine AnyZ.gen hw5 ?_
        rw [← hw5] at st hHeld
        clear hw5
        clear hK K
        have hHeld := hHeld rfl
        try simp only [Act.put, pA, pZ, pS]
        refine AnyZ.each [18] (by kernel_rfl) rfl ?_
        refine AnyEach.cons 18 _ (by simp only [gA, gS, gZ]; rfl) (fun K hK => ?_) ?_
        · rw [if_pos (by rfl)]
          go_simp
          have st := st.map18
          refine hK.out _ _ (fun _ => HS0.out _ st.below) fun hHeld => ?_
          obtain ⟨w6, hw6⟩ : ∃ x, x = w5.alloc (.map #[] 0) := ⟨_, rfl⟩
          refine AnyZ.gen hw6 ?_
          rw [← hw6] at st hHeld
          clear hw6
          clear hK K
          have hHeld := hHeld rfl
          try simp only [Act.put, pA, pZ, pS]
          refine AnyZ.take 21 _ (v := ?_) (by simp only [gA, gS, gZ]; rfl) (by kernel_rfl) (by kernel_rfl) (by kernel_rfl) (by kernel_rfl) (by kernel_rfl) (by exact fun _ _ _ h => h) (Or.inl ⟨by rfl, ?_⟩) hHeld ?_
          rotate_left
          · intro w hSw; go_simp; with_reducible rfl
          try simp only [Act.put, pA, pZ, pS]
          have hfin := HFin.out _ _ _ _ _ _ st
          clear st
          refine AnyZ.lone 22 _ (by kernel_rfl) (by simp only [gA, gS, gZ]; rfl) fun K hK => ?_
          rw [if_pos (by rfl)]
          go_simp
          refine hK.out _ _ (fun _ => hfin.1) fun _ => ?_
          clear hK K
          try simp only [Act.put, pA, pZ, pS]
          refine AnyZ.lone 23 _ (by kernel_rfl) (by simp only [gA, gS, gZ]; rfl) fun K hK => ?_
          rw [if_pos (by rfl)]
          go_simp
          refine hK.out _ _ (fun h => (by cases h)) fun _ => ?_
          clear hK K
          try simp only [Act.put, pA, pZ, pS]
          refine AnyZ.lone 24 _ (by kernel_rfl) (by simp only [gA, gS, gZ]; rfl) fun K hK => ?_
          rw [if_pos (by rfl)]
          go_simp
          refine hK.out _ _ (fun _ => hfin.1) fun _ => ?_
          clear hK K
          try simp only [Act.put, pA, pZ, pS]
          refine AnyZ.done (by kernel_rfl) ?_ _
          go_wp2_with fail
          refine bodyPost_ret (v := .tuple #[.pointer (some ⟨w6.heap.size, 0, none⟩), .int .i64 0]) (by simp [results, Try.results56, go_sem]) rfl ?_
          exact ⟨_, rfl, hfin.2⟩
        exact AnyEach.nil
      exact AnyEach.nil
    refine AnyEach.cons 18 _ (by simp only [gA, gS, gZ]; rfl) (fun K hK => ?_) ?_
    · rw [if_pos (by rfl)]
      go_simp
      have st := st.map18
      refine hK.out _ _ (fun _ => HS0.out _ st.below) fun hHeld => ?_
      obtain ⟨w4, hw4⟩ : ∃ x, x = w3.alloc (.map #[] 0) := ⟨_, rfl⟩
      refine AnyZ.gen hw4 ?_
      rw [← hw4] at st hHeld
      clear hw4
      clear hK K
      have hHeld := hHeld rfl
      try simp only [Act.put, pA, pZ, pS]
      refine AnyZ.each [11, 20] (by kernel_rfl) rfl ?_
      refine AnyEach.cons 11 _ (by simp only [gA, gS, gZ]; rfl) (fun K hK => ?_) ?_
      · rw [if_pos (by rfl)]
        go_simp
        try go_at_call 93
        refine (Hcl.out _ st.below).mono ?_
        rintro e w5 ⟨a4, c4, rfl, hc4, hs4, hb4⟩
        have st := st.clone hc4 hs4 hb4
        clear hc4 hs4 hb4
        refine hK.out _ _ (fun _ => HS0.out _ st.below) fun hHeld => ?_
        clear hK K
        have hHeld := hHeld rfl
        try simp only [Act.put, pA, pZ, pS]
        refine AnyZ.take 12 _ (v := ?_) (by simp only [gA, gS, gZ]; rfl) (by kernel_rfl) (by kernel_rfl) (by kernel_rfl) (by kernel_rfl) (by kernel_rfl) (by exact fun _ _ _ h => h) (Or.inl ⟨by rfl, ?_⟩) hHeld ?_
        rotate_left
        · intro w hSw; go_simp; with_reducible rfl
        try simp only [Act.put, pA, pZ, pS]
        refine AnyZ.each [20] (by kernel_rfl) rfl ?_
        refine AnyEach.cons 20 _ (by simp only [gA, gS, gZ]; rfl) (fun K hK => ?_) ?_
        · rw [if_pos (by rfl)]
          go_simp
          have st := st.map20
          refine hK.out _ _ (fun _ => HS0.out _ st.below) fun hHeld => ?_
          obtain ⟨w6, hw6⟩ : ∃ x, x = w5.alloc (.map #[] 0) := ⟨_, rfl⟩
          refine AnyZ.gen hw6 ?_
          rw [← hw6] at st hHeld
          clear hw6
          clear hK K
          have hHeld := hHeld rfl
          try simp only [Act.put, pA, pZ, pS]
          refine AnyZ.take 21 _ (v := ?_) (by simp only [gA, gS, gZ]; rfl) (by kernel_rfl) (by kernel_rfl) (by kernel_rfl) (by kernel_rfl) (by kernel_rfl) (by exact fun _ _ _ h => h) (Or.inl ⟨by rfl, ?_⟩) hHeld ?_
          rotate_left
          · intro w hSw; go_simp; with_reducible rfl
          try simp only [Act.put, pA, pZ, pS]
          have hfin := HFin.out _ _ _ _ _ _ st
          clear st
          refine AnyZ.lone 22 _ (by kernel_rfl) (by simp only [gA, gS, gZ]; rfl) fun K hK => ?_
          rw [if_pos (by rfl)]
          go_simp
          refine hK.out _ _ (fun _ => hfin.1) fun _ => ?_
          clear hK K
          try simp only [Act.put, pA, pZ, pS]
          refine AnyZ.lone 23 _ (by kernel_rfl) (by simp only [gA, gS, gZ]; rfl) fun K hK => ?_
          rw [if_pos (by rfl)]
          go_simp
          refine hK.out _ _ (fun h => (by cases h)) fun _ => ?_
          clear hK K
          try simp only [Act.put, pA, pZ, pS]
          refine AnyZ.lone 24 _ (by kernel_rfl) (by simp only [gA, gS, gZ]; rfl) fun K hK => ?_
          rw [if_pos (by rfl)]
          go_simp
          refine hK.out _ _ (fun _ => hfin.1) fun _ => ?_
          clear hK K
          try simp only [Act.put, pA, pZ, pS]
          refine AnyZ.done (by kernel_rfl) ?_ _
          go_wp2_with fail
          refine bodyPost_ret (v := .tuple #[.pointer (some ⟨w6.heap.size, 0, none⟩), .int .i64 0]) (by simp [results, Try.results56, go_sem]) rfl ?_
          exact ⟨_, rfl, hfin.2⟩
        exact AnyEach.nil
      refine AnyEach.cons 20 _ (by simp only [gA, gS, gZ]; rfl) (fun K hK => ?_) ?_
      · rw [if_pos (by rfl)]
        go_simp
        have st := st.map20
        refine hK.out _ _ (fun _ => HS0.out _ st.below) fun hHeld => ?_
        obtain ⟨w5, hw5⟩ : ∃ x, x = w4.alloc (.map #[] 0) := ⟨_, rfl⟩
        refine AnyZ.gen hw5 ?_
        rw [← hw5] at st hHeld
        clear hw5
        clear hK K
        have hHeld := hHeld rfl
        try simp only [Act.put, pA, pZ, pS]
        refine AnyZ.each [11] (by kernel_rfl) rfl ?_
        refine AnyEach.cons 11 _ (by simp only [gA, gS, gZ]; rfl) (fun K hK => ?_) ?_
        · rw [if_pos (by rfl)]
          go_simp
          try go_at_call 93
          refine (Hcl.out _ st.below).mono ?_
          rintro e w6 ⟨a4, c4, rfl, hc4, hs4, hb4⟩
          have st := st.clone hc4 hs4 hb4
          clear hc4 hs4 hb4
          refine hK.out _ _ (fun _ => HS0.out _ st.below) fun hHeld => ?_
          clear hK K
          have hHeld := hHeld rfl
          try simp only [Act.put, pA, pZ, pS]
          refine AnyZ.take 12 _ (v := ?_) (by simp only [gA, gS, gZ]; rfl) (by kernel_rfl) (by kernel_rfl) (by kernel_rfl) (by kernel_rfl) (by kernel_rfl) (by exact fun _ _ _ h => h) (Or.inl ⟨by rfl, ?_⟩) hHeld ?_
          rotate_left
          · intro w hSw; go_simp; with_reducible rfl
          try simp only [Act.put, pA, pZ, pS]
          refine AnyZ.take 21 _ (v := ?_) (by simp only [gA, gS, gZ]; rfl) (by kernel_rfl) (by kernel_rfl) (by kernel_rfl) (by kernel_rfl) (by kernel_rfl) (by exact fun _ _ _ h => h) (Or.inl ⟨by rfl, ?_⟩) hHeld ?_
          rotate_left
          · intro w hSw; go_simp; with_reducible rfl
          try simp only [Act.put, pA, pZ, pS]
          have hfin := HFin.out _ _ _ _ _ _ st
          clear st
          refine AnyZ.lone 22 _ (by kernel_rfl) (by simp only [gA, gS, gZ]; rfl) fun K hK => ?_
          rw [if_pos (by rfl)]
          go_simp
          refine hK.out _ _ (fun _ => hfin.1) fun _ => ?_
          clear hK K
          try simp only [Act.put, pA, pZ, pS]
          refine AnyZ.lone 23 _ (by kernel_rfl) (by simp only [gA, gS, gZ]; rfl) fun K hK => ?_
          rw [if_pos (by rfl)]
          go_simp
          refine hK.out _ _ (fun h => (by cases h)) fun _ => ?_
          clear hK K
          try simp only [Act.put, pA, pZ, pS]
          refine AnyZ.lone 24 _ (by kernel_rfl) (by simp only [gA, gS, gZ]; rfl) fun K hK => ?_
          rw [if_pos (by rfl)]
          go_simp
          refine hK.out _ _ (fun _ => hfin.1) fun _ => ?_
          clear hK K
          try simp only [Act.put, pA, pZ, pS]
          refine AnyZ.done (by kernel_rfl) ?_ _
          go_wp2_with fail
          refine bodyPost_ret (v := .tuple #[.pointer (some ⟨w6.heap.size, 0, none⟩), .int .i64 0]) (by simp [results, Try.results56, go_sem]) rfl ?_
          exact ⟨_, rfl, hfin.2⟩
        exact AnyEach.nil
      exact AnyEach.nil
    refine AnyEach.cons 20 _ (by simp only [gA, gS, gZ]; rfl) (fun K hK => ?_) ?_
    · rw [if_pos (by rfl)]
      go_simp
      have st := st.map20
      refine hK.out _ _ (fun _ => HS0.out _ st.below) fun hHeld => ?_
      obtain ⟨w4, hw4⟩ : ∃ x, x = w3.alloc (.map #[] 0) := ⟨_, rfl⟩
      refine AnyZ.gen hw4 ?_
      rw [← hw4] at st hHeld
      clear hw4
      clear hK K
      have hHeld := hHeld rfl
      try simp only [Act.put, pA, pZ, pS]
      refine AnyZ.each [11, 18] (by kernel_rfl) rfl ?_
      refine AnyEach.cons 11 _ (by simp only [gA, gS, gZ]; rfl) (fun K hK => ?_) ?_
      · rw [if_pos (by rfl)]
        go_simp
        try go_at_call 93
        refine (Hcl.out _ st.below).mono ?_
        rintro e w5 ⟨a4, c4, rfl, hc4, hs4, hb4⟩
        have st := st.clone hc4 hs4 hb4
        clear hc4 hs4 hb4
        refine hK.out _ _ (fun _ => HS0.out _ st.below) fun hHeld => ?_
        clear hK K
        have hHeld := hHeld rfl
        try simp only [Act.put, pA, pZ, pS]
        refine AnyZ.take 12 _ (v := ?_) (by simp only [gA, gS, gZ]; rfl) (by kernel_rfl) (by kernel_rfl) (by kernel_rfl) (by kernel_rfl) (by kernel_rfl) (by exact fun _ _ _ h => h) (Or.inl ⟨by rfl, ?_⟩) hHeld ?_
        rotate_left
        · intro w hSw; go_simp; with_reducible rfl
        try simp only [Act.put, pA, pZ, pS]
        refine AnyZ.each [18] (by kernel_rfl) rfl ?_
        refine AnyEach.cons 18 _ (by simp only [gA, gS, gZ]; rfl) (fun K hK => ?_) ?_
        · rw [if_pos (by rfl)]
          go_simp
          have st := st.map18
          refine hK.out _ _ (fun _ => HS0.out _ st.below) fun hHeld => ?_
          obtain ⟨w6, hw6⟩ : ∃ x, x = w5.alloc (.map #[] 0) := ⟨_, rfl⟩
          refine AnyZ.gen hw6 ?_
          rw [← hw6] at st hHeld
          clear hw6
          clear hK K
          have hHeld := hHeld rfl
          try simp only [Act.put, pA, pZ, pS]
          refine AnyZ.take 21 _ (v := ?_) (by simp only [gA, gS, gZ]; rfl) (by kernel_rfl) (by kernel_rfl) (by kernel_rfl) (by kernel_rfl) (by kernel_rfl) (by exact fun _ _ _ h => h) (Or.inl ⟨by rfl, ?_⟩) hHeld ?_
          rotate_left
          · intro w hSw; go_simp; with_reducible rfl
          try simp only [Act.put, pA, pZ, pS]
          have hfin := HFin.out _ _ _ _ _ _ st
          clear st
          refine AnyZ.lone 22 _ (by kernel_rfl) (by simp only [gA, gS, gZ]; rfl) fun K hK => ?_
          rw [if_pos (by rfl)]
          go_simp
          refine hK.out _ _ (fun _ => hfin.1) fun _ => ?_
          clear hK K
          try simp only [Act.put, pA, pZ, pS]
          refine AnyZ.lone 23 _ (by kernel_rfl) (by simp only [gA, gS, gZ]; rfl) fun K hK => ?_
          rw [if_pos (by rfl)]
          go_simp
          refine hK.out _ _ (fun h => (by cases h)) fun _ => ?_
          clear hK K
          try simp only [Act.put, pA, pZ, pS]
          refine AnyZ.lone 24 _ (by kernel_rfl) (by simp only [gA, gS, gZ]; rfl) fun K hK => ?_
          rw [if_pos (by rfl)]
          go_simp
          refine hK.out _ _ (fun _ => hfin.1) fun _ => ?_
          clear hK K
          try simp only [Act.put, pA, pZ, pS]
          refine AnyZ.done (by kernel_rfl) ?_ _
          go_wp2_with fail
          refine bodyPost_ret (v := .tuple #[.pointer (some ⟨w6.heap.size, 0, none⟩), .int .i64 0]) (by simp [results, Try.results56, go_sem]) rfl ?_
          exact ⟨_, rfl, hfin.2⟩
        exact AnyEach.nil
      refine AnyEach.cons 18 _ (by simp only [gA, gS, gZ]; rfl) (fun K hK => ?_) ?_
      · rw [if_pos (by rfl)]
        go_simp
        have st := st.map18
        refine hK.out _ _ (fun _ => HS0.out _ st.below) fun hHeld => ?_
        obtain ⟨w5, hw5⟩ : ∃ x, x = w4.alloc (.map #[] 0) := ⟨_, rfl⟩
        refine AnyZ.gen hw5 ?_
        rw [← hw5] at st hHeld
        clear hw5
        clear hK K
        have hHeld := hHeld rfl
        try simp only [Act.put, pA, pZ, pS]
        refine AnyZ.each [11] (by kernel_rfl) rfl ?_
        refine AnyEach.cons 11 _ (by simp only [gA, gS, gZ]; rfl) (fun K hK => ?_) ?_
        · rw [if_pos (by rfl)]
          go_simp
          try go_at_call 93
          refine (Hcl.out _ st.below).mono ?_
          rintro e w6 ⟨a4, c4, rfl, hc4, hs4, hb4⟩
          have st := st.clone hc4 hs4 hb4
          clear hc4 hs4 hb4
          refine hK.out _ _ (fun _ => HS0.out _ st.below) fun hHeld => ?_
          clear hK K
          have hHeld := hHeld rfl
          try simp only [Act.put, pA, pZ, pS]
          refine AnyZ.take 12 _ (v := ?_) (by simp only [gA, gS, gZ]; rfl) (by kernel_rfl) (by kernel_rfl) (by kernel_rfl) (by kernel_rfl) (by kernel_rfl) (by exact fun _ _ _ h => h) (Or.inl ⟨by rfl, ?_⟩) hHeld ?_
          rotate_left
          · intro w hSw; go_simp; with_reducible rfl
          try simp only [Act.put, pA, pZ, pS]
          refine AnyZ.take 21 _ (v := ?_) (by simp only [gA, gS, gZ]; rfl) (by kernel_rfl) (by kernel_rfl) (by kernel_rfl) (by kernel_rfl) (by kernel_rfl) (by exact fun _ _ _ h => h) (Or.inl ⟨by rfl, ?_⟩) hHeld ?_
          rotate_left
          · intro w hSw; go_simp; with_reducible rfl
          try simp only [Act.put, pA, pZ, pS]
          have hfin := HFin.out _ _ _ _ _ _ st
          clear st
          refine AnyZ.lone 22 _ (by kernel_rfl) (by simp only [gA, gS, gZ]; rfl) fun K hK => ?_
          rw [if_pos (by rfl)]
          go_simp
          refine hK.out _ _ (fun _ => hfin.1) fun _ => ?_
          clear hK K
          try simp only [Act.put, pA, pZ, pS]
          refine AnyZ.lone 23 _ (by kernel_rfl) (by simp only [gA, gS, gZ]; rfl) fun K hK => ?_
          rw [if_pos (by rfl)]
          go_simp
          refine hK.out _ _ (fun h => (by cases h)) fun _ => ?_
          clear hK K
          try simp only [Act.put, pA, pZ, pS]
          refine AnyZ.lone 24 _ (by kernel_rfl) (by simp only [gA, gS, gZ]; rfl) fun K hK => ?_
          rw [if_pos (by rfl)]
          go_simp
          refine hK.out _ _ (fun _ => hfin.1) fun _ => ?_
          clear hK K
          try simp only [Act.put, pA, pZ, pS]
          refine AnyZ.done (by kernel_rfl) ?_ _
          go_wp2_with fail
          refine bodyPost_ret (v := .tuple #[.pointer (some ⟨w6.heap.size, 0, none⟩), .int .i64 0]) (by simp [results, Try.results56, go_sem]) rfl ?_
          exact ⟨_, rfl, hfin.2⟩
        exact AnyEach.nil
      exact AnyEach.nil
    exact AnyEach.nil
  refine AnyEach.cons 20 _ (by simp only [gA, gS, gZ]; rfl) (fun K hK => ?_) ?_
  · rw [if_pos (by rfl)]
    go_simp
    have st := st.map20
    refine hK.out _ _ (fun _ => HS0.out _ st.below) fun hHeld => ?_
    obtain ⟨w3, hw3⟩ : ∃ x, x = w2.alloc (.map #[] 0) := ⟨_, rfl⟩
    refine AnyZ.gen hw3 ?_
    rw [← hw3] at st hHeld
    clear hw3
    clear hK K
    have hHeld := hHeld rfl
    try simp only [Act.put, pA, pZ, pS]
    refine AnyZ.each [11, 18, 19] (by kernel_rfl) rfl ?_
    refine AnyEach.cons 11 _ (by simp only [gA, gS, gZ]; rfl) (fun K hK => ?_) ?_
    · rw [if_pos (by rfl)]
      go_simp
      try go_at_call 93
      refine (Hcl.out _ st.below).mono ?_
      rintro e w4 ⟨a4, c4, rfl, hc4, hs4, hb4⟩
      have st := st.clone hc4 hs4 hb4
      clear hc4 hs4 hb4
      refine hK.out _ _ (fun _ => HS0.out _ st.below) fun hHeld => ?_
      clear hK K
      have hHeld := hHeld rfl
      try simp only [Act.put, pA, pZ, pS]
      refine AnyZ.take 12 _ (v := ?_) (by simp only [gA, gS, gZ]; rfl) (by kernel_rfl) (by kernel_rfl) (by kernel_rfl) (by kernel_rfl) (by kernel_rfl) (by exact fun _ _ _ h => h) (Or.inl ⟨by rfl, ?_⟩) hHeld ?_
      rotate_left
      · intro w hSw; go_simp; with_reducible rfl
      try simp only [Act.put, pA, pZ, pS]
      refine AnyZ.each [18, 19] (by kernel_rfl) rfl ?_
      refine AnyEach.cons 18 _ (by simp only [gA, gS, gZ]; rfl) (fun K hK => ?_) ?_
      · rw [if_pos (by rfl)]
        go_simp
        have st := st.map18
        refine hK.out _ _ (fun _ => HS0.out _ st.below) fun hHeld => ?_
        obtain ⟨w5, hw5⟩ : ∃ x, x = w4.alloc (.map #[] 0) := ⟨_, rfl⟩
        refine AnyZ.gen hw5 ?_
        rw [← hw5] at st hHeld
        clear hw5
        clear hK K
        have hHeld := hHeld rfl
        try simp only [Act.put, pA, pZ, pS]
        refine AnyZ.each [19] (by kernel_rfl) rfl ?_
        refine AnyEach.cons 19 _ (by simp only [gA, gS, gZ]; rfl) (fun K hK => ?_) ?_
        · rw [if_pos (by rfl)]
          go_simp
          have st := st.map19
          refine hK.out _ _ (fun _ => HS0.out _ st.below) fun hHeld => ?_
          obtain ⟨w6, hw6⟩ : ∃ x, x = w5.alloc (.map #[] 0) := ⟨_, rfl⟩
          refine AnyZ.gen hw6 ?_
          rw [← hw6] at st hHeld
          clear hw6
          clear hK K
          have hHeld := hHeld rfl
          try simp only [Act.put, pA, pZ, pS]
          refine AnyZ.take 21 _ (v := ?_) (by simp only [gA, gS, gZ]; rfl) (by kernel_rfl) (by kernel_rfl) (by kernel_rfl) (by kernel_rfl) (by kernel_rfl) (by exact fun _ _ _ h => h) (Or.inl ⟨by rfl, ?_⟩) hHeld ?_
          rotate_left
          · intro w hSw; go_simp; with_reducible rfl
          try simp only [Act.put, pA, pZ, pS]
          have hfin := HFin.out _ _ _ _ _ _ st
          clear st
          refine AnyZ.lone 22 _ (by kernel_rfl) (by simp only [gA, gS, gZ]; rfl) fun K hK => ?_
          rw [if_pos (by rfl)]
          go_simp
          refine hK.out _ _ (fun _ => hfin.1) fun _ => ?_
          clear hK K
          try simp only [Act.put, pA, pZ, pS]
          refine AnyZ.lone 23 _ (by kernel_rfl) (by simp only [gA, gS, gZ]; rfl) fun K hK => ?_
          rw [if_pos (by rfl)]
          go_simp
          refine hK.out _ _ (fun h => (by cases h)) fun _ => ?_
          clear hK K
          try simp only [Act.put, pA, pZ, pS]
          refine AnyZ.lone 24 _ (by kernel_rfl) (by simp only [gA, gS, gZ]; rfl) fun K hK => ?_
          rw [if_pos (by rfl)]
          go_simp
          refine hK.out _ _ (fun _ => hfin.1) fun _ => ?_
          clear hK K
          try simp only [Act.put, pA, pZ, pS]
          refine AnyZ.done (by kernel_rfl) ?_ _
          go_wp2_with fail
          refine bodyPost_ret (v := .tuple #[.pointer (some ⟨w6.heap.size, 0, none⟩), .int .i64 0]) (by simp [results, Try.results56, go_sem]) rfl ?_
          exact ⟨_, rfl, hfin.2⟩
        exact AnyEach.nil
      refine AnyEach.cons 19 _ (by simp only [gA, gS, gZ]; rfl) (fun K hK => ?_) ?_
      · rw [if_pos (by rfl)]
        go_simp
        have st := st.map19
        refine hK.out _ _ (fun _ => HS0.out _ st.below) fun hHeld => ?_
        obtain ⟨w5, hw5⟩ : ∃ x, x = w4.alloc (.map #[] 0) := ⟨_, rfl⟩
        refine AnyZ.gen hw5 ?_
        rw [← hw5] at st hHeld
        clear hw5
        clear hK K
        have hHeld := hHeld rfl
        try simp only [Act.put, pA, pZ, pS]
        refine AnyZ.each [18] (by kernel_rfl) rfl ?_
        refine AnyEach.cons 18 _ (by simp only [gA, gS, gZ]; rfl) (fun K hK => ?_) ?_
        · rw [if_pos (by rfl)]
          go_simp
          have st := st.map18
          refine hK.out _ _ (fun _ => HS0.out _ st.below) fun hHeld => ?_
          obtain ⟨w6, hw6⟩ : ∃ x, x = w5.alloc (.map #[] 0) := ⟨_, rfl⟩
          refine AnyZ.gen hw6 ?_
          rw [← hw6] at st hHeld
          clear hw6
          clear hK K
          have hHeld := hHeld rfl
          try simp only [Act.put, pA, pZ, pS]
          refine AnyZ.take 21 _ (v := ?_) (by simp only [gA, gS, gZ]; rfl) (by kernel_rfl) (by kernel_rfl) (by kernel_rfl) (by kernel_rfl) (by kernel_rfl) (by exact fun _ _ _ h => h) (Or.inl ⟨by rfl, ?_⟩) hHeld ?_
          rotate_left
          · intro w hSw; go_simp; with_reducible rfl
          try simp only [Act.put, pA, pZ, pS]
          have hfin := HFin.out _ _ _ _ _ _ st
          clear st
          refine AnyZ.lone 22 _ (by kernel_rfl) (by simp only [gA, gS, gZ]; rfl) fun K hK => ?_
          rw [if_pos (by rfl)]
          go_simp
          refine hK.out _ _ (fun _ => hfin.1) fun _ => ?_
          clear hK K
          try simp only [Act.put, pA, pZ, pS]
          refine AnyZ.lone 23 _ (by kernel_rfl) (by simp only [gA, gS, gZ]; rfl) fun K hK => ?_
          rw [if_pos (by rfl)]
          go_simp
          refine hK.out _ _ (fun h => (by cases h)) fun _ => ?_
          clear hK K
          try simp only [Act.put, pA, pZ, pS]
          refine AnyZ.lone 24 _ (by kernel_rfl) (by simp only [gA, gS, gZ]; rfl) fun K hK => ?_
          rw [if_pos (by rfl)]
          go_simp
          refine hK.out _ _ (fun _ => hfin.1) fun _ => ?_
          clear hK K
          try simp only [Act.put, pA, pZ, pS]
          refine AnyZ.done (by kernel_rfl) ?_ _
          go_wp2_with fail
          refine bodyPost_ret (v := .tuple #[.pointer (some ⟨w6.heap.size, 0, none⟩), .int .i64 0]) (by simp [results, Try.results56, go_sem]) rfl ?_
          exact ⟨_, rfl, hfin.2⟩
        exact AnyEach.nil
      exact AnyEach.nil
    refine AnyEach.cons 18 _ (by simp only [gA, gS, gZ]; rfl) (fun K hK => ?_) ?_
    · rw [if_pos (by rfl)]
      go_simp
      have st := st.map18
      refine hK.out _ _ (fun _ => HS0.out _ st.below) fun hHeld => ?_
      obtain ⟨w4, hw4⟩ : ∃ x, x = w3.alloc (.map #[] 0) := ⟨_, rfl⟩
      refine AnyZ.gen hw4 ?_
      rw [← hw4] at st hHeld
      clear hw4
      clear hK K
      have hHeld := hHeld rfl
      try simp only [Act.put, pA, pZ, pS]
      refine AnyZ.each [11, 19] (by kernel_rfl) rfl ?_
      refine AnyEach.cons 11 _ (by simp only [gA, gS, gZ]; rfl) (fun K hK => ?_) ?_
      · rw [if_pos (by rfl)]
        go_simp
        try go_at_call 93
        refine (Hcl.out _ st.below).mono ?_
        rintro e w5 ⟨a4, c4, rfl, hc4, hs4, hb4⟩
        have st := st.clone hc4 hs4 hb4
        clear hc4 hs4 hb4
        refine hK.out _ _ (fun _ => HS0.out _ st.below) fun hHeld => ?_
        clear hK K
        have hHeld := hHeld rfl
        try simp only [Act.put, pA, pZ, pS]
        refine AnyZ.take 12 _ (v := ?_) (by simp only [gA, gS, gZ]; rfl) (by kernel_rfl) (by kernel_rfl) (by kernel_rfl) (by kernel_rfl) (by kernel_rfl) (by exact fun _ _ _ h => h) (Or.inl ⟨by rfl, ?_⟩) hHeld ?_
        rotate_left
        · intro w hSw; go_simp; with_reducible rfl
        try simp only [Act.put, pA, pZ, pS]
        refine AnyZ.each [19] (by kernel_rfl) rfl ?_
        refine AnyEach.cons 19 _ (by simp only [gA, gS, gZ]; rfl) (fun K hK => ?_) ?_
        · rw [if_pos (by rfl)]
          go_simp
          have st := st.map19
          refine hK.out _ _ (fun _ => HS0.out _ st.below) fun hHeld => ?_
          obtain ⟨w6, hw6⟩ : ∃ x, x = w5.alloc (.map #[] 0) := ⟨_, rfl⟩
          refine AnyZ.gen hw6 ?_
          rw [← hw6] at st hHeld
          clear hw6
          clear hK K
          have hHeld := hHeld rfl
          try simp only [Act.put, pA, pZ, pS]
          refine AnyZ.take 21 _ (v := ?_) (by simp only [gA, gS, gZ]; rfl) (by kernel_rfl) (by kernel_rfl) (by kernel_rfl) (by kernel_rfl) (by kernel_rfl) (by exact fun _ _ _ h => h) (Or.inl ⟨by rfl, ?_⟩) hHeld ?_
          rotate_left
          · intro w hSw; go_simp; with_reducible rfl
          try simp only [Act.put, pA, pZ, pS]
          have hfin := HFin.out _ _ _ _ _ _ st
          clear st
          refine AnyZ.lone 22 _ (by kernel_rfl) (by simp only [gA, gS, gZ]; rfl) fun K hK => ?_
          rw [if_pos (by rfl)]
          go_simp
          refine hK.out _ _ (fun _ => hfin.1) fun _ => ?_
          clear hK K
          try simp only [Act.put, pA, pZ, pS]
          refine AnyZ.lone 23 _ (by kernel_rfl) (by simp only [gA, gS, gZ]; rfl) fun K hK => ?_
          rw [if_pos (by rfl)]
          go_simp
          refine hK.out _ _ (fun h => (by cases h)) fun _ => ?_
          clear hK K
          try simp only [Act.put, pA, pZ, pS]
          refine AnyZ.lone 24 _ (by kernel_rfl) (by simp only [gA, gS, gZ]; rfl) fun K hK => ?_
          rw [if_pos (by rfl)]
          go_simp
          refine hK.out _ _ (fun _ => hfin.1) fun _ => ?_
          clear hK K
          try simp only [Act.put, pA, pZ, pS]
          refine AnyZ.done (by kernel_rfl) ?_ _
          go_wp2_with fail
          refine bodyPost_ret (v := .tuple #[.pointer (some ⟨w6.heap.size, 0, none⟩), .int .i64 0]) (by simp [results, Try.results56, go_sem]) rfl ?_
          exact ⟨_, rfl, hfin.2⟩
        exact AnyEach.nil
      refine AnyEach.cons 19 _ (by simp only [gA, gS, gZ]; rfl) (fun K hK => ?_) ?_
      · rw [if_pos (by rfl)]
        go_simp
        have st := st.map19
        refine hK.out _ _ (fun _ => HS0.out _ st.below) fun hHeld => ?_
        obtain ⟨w5, hw5⟩ : ∃ x, x = w4.alloc (.map #[] 0) := ⟨_, rfl⟩
        refine AnyZ.gen hw5 ?_
        rw [← hw5] at st hHeld
        clear hw5
        clear hK K
        have hHeld := hHeld rfl
        try simp only [Act.put, pA, pZ, pS]
        refine AnyZ.each [11] (by kernel_rfl) rfl ?_
        refine AnyEach.cons 11 _ (by simp only [gA, gS, gZ]; rfl) (fun K hK => ?_) ?_
        · rw [if_pos (by rfl)]
          go_simp
          try go_at_call 93
          refine (Hcl.out _ st.below).mono ?_
          rintro e w6 ⟨a4, c4, rfl, hc4, hs4, hb4⟩
          have st := st.clone hc4 hs4 hb4
          clear hc4 hs4 hb4
          refine hK.out _ _ (fun _ => HS0.out _ st.below) fun hHeld => ?_
          clear hK K
          have hHeld := hHeld rfl
          try simp only [Act.put, pA, pZ, pS]
          refine AnyZ.take 12 _ (v := ?_) (by simp only [gA, gS, gZ]; rfl) (by kernel_rfl) (by kernel_rfl) (by kernel_rfl) (by kernel_rfl) (by kernel_rfl) (by exact fun _ _ _ h => h) (Or.inl ⟨by rfl, ?_⟩) hHeld ?_
          rotate_left
          · intro w hSw; go_simp; with_reducible rfl
          try simp only [Act.put, pA, pZ, pS]
          refine AnyZ.take 21 _ (v := ?_) (by simp only [gA, gS, gZ]; rfl) (by kernel_rfl) (by kernel_rfl) (by kernel_rfl) (by kernel_rfl) (by kernel_rfl) (by exact fun _ _ _ h => h) (Or.inl ⟨by rfl, ?_⟩) hHeld ?_
          rotate_left
          · intro w hSw; go_simp; with_reducible rfl
          try simp only [Act.put, pA, pZ, pS]
          have hfin := HFin.out _ _ _ _ _ _ st
          clear st
          refine AnyZ.lone 22 _ (by kernel_rfl) (by simp only [gA, gS, gZ]; rfl) fun K hK => ?_
          rw [if_pos (by rfl)]
          go_simp
          refine hK.out _ _ (fun _ => hfin.1) fun _ => ?_
          clear hK K
          try simp only [Act.put, pA, pZ, pS]
          refine AnyZ.lone 23 _ (by kernel_rfl) (by simp only [gA, gS, gZ]; rfl) fun K hK => ?_
          rw [if_pos (by rfl)]
          go_simp
          refine hK.out _ _ (fun h => (by cases h)) fun _ => ?_
          clear hK K
          try simp only [Act.put, pA, pZ, pS]
          refine AnyZ.lone 24 _ (by kernel_rfl) (by simp only [gA, gS, gZ]; rfl) fun K hK => ?_
          rw [if_pos (by rfl)]
          go_simp
          refine hK.out _ _ (fun _ => hfin.1) fun _ => ?_
          clear hK K
          try simp only [Act.put, pA, pZ, pS]
          refine AnyZ.done (by kernel_rfl) ?_ _
          go_wp2_with fail
          refine bodyPost_ret (v := .tuple #[.pointer (some ⟨w6.heap.size, 0, none⟩), .int .i64 0]) (by simp [results, Try.results56, go_sem]) rfl ?_
          exact ⟨_, rfl, hfin.2⟩
        exact AnyEach.nil
      exact AnyEach.nil
    refine AnyEach.cons 19 _ (by simp only [gA, gS, gZ]; rfl) (fun K hK => ?_) ?_
    · rw [if_pos (by rfl)]
      go_simp
      have st := st.map19
      refine hK.out _ _ (fun _ => HS0.out _ st.below) fun hHeld => ?_
      obtain ⟨w4, hw4⟩ : ∃ x, x = w3.alloc (.map #[] 0) := ⟨_, rfl⟩
      refine AnyZ.gen hw4 ?_
      rw [← hw4] at st hHeld
      clear hw4
      clear hK K
      have hHeld := hHeld rfl
      try simp only [Act.put, pA, pZ, pS]
      refine AnyZ.each [11, 18] (by kernel_rfl) rfl ?_
      refine AnyEach.cons 11 _ (by simp only [gA, gS, gZ]; rfl) (fun K hK => ?_) ?_
      · rw [if_pos (by rfl)]
        go_simp
        try go_at_call 93
        refine (Hcl.out _ st.below).mono ?_
        rintro e w5 ⟨a4, c4, rfl, hc4, hs4, hb4⟩
        have st := st.clone hc4 hs4 hb4
        clear hc4 hs4 hb4
        refine hK.out _ _ (fun _ => HS0.out _ st.below) fun hHeld => ?_
        clear hK K
        have hHeld := hHeld rfl
        try simp only [Act.put, pA, pZ, pS]
        refine AnyZ.take 12 _ (v := ?_) (by simp only [gA, gS, gZ]; rfl) (by kernel_rfl) (by kernel_rfl) (by kernel_rfl) (by kernel_rfl) (by kernel_rfl) (by exact fun _ _ _ h => h) (Or.inl ⟨by rfl, ?_⟩) hHeld ?_
        rotate_left
        · intro w hSw; go_simp; with_reducible rfl
        try simp only [Act.put, pA, pZ, pS]
        refine AnyZ.each [18] (by kernel_rfl) rfl ?_
        refine AnyEach.cons 18 _ (by simp only [gA, gS, gZ]; rfl) (fun K hK => ?_) ?_
        · rw [if_pos (by rfl)]
          go_simp
          have st := st.map18
          refine hK.out _ _ (fun _ => HS0.out _ st.below) fun hHeld => ?_
          obtain ⟨w6, hw6⟩ : ∃ x, x = w5.alloc (.map #[] 0) := ⟨_, rfl⟩
          refine AnyZ.gen hw6 ?_
          rw [← hw6] at st hHeld
          clear hw6
          clear hK K
          have hHeld := hHeld rfl
          try simp only [Act.put, pA, pZ, pS]
          refine AnyZ.take 21 _ (v := ?_) (by simp only [gA, gS, gZ]; rfl) (by kernel_rfl) (by kernel_rfl) (by kernel_rfl) (by kernel_rfl) (by kernel_rfl) (by exact fun _ _ _ h => h) (Or.inl ⟨by rfl, ?_⟩) hHeld ?_
          rotate_left
          · intro w hSw; go_simp; with_reducible rfl
          try simp only [Act.put, pA, pZ, pS]
          have hfin := HFin.out _ _ _ _ _ _ st
          clear st
          refine AnyZ.lone 22 _ (by kernel_rfl) (by simp only [gA, gS, gZ]; rfl) fun K hK => ?_
          rw [if_pos (by rfl)]
          go_simp
          refine hK.out _ _ (fun _ => hfin.1) fun _ => ?_
          clear hK K
          try simp only [Act.put, pA, pZ, pS]
          refine AnyZ.lone 23 _ (by kernel_rfl) (by simp only [gA, gS, gZ]; rfl) fun K hK => ?_
          rw [if_pos (by rfl)]
          go_simp
          refine hK.out _ _ (fun h => (by cases h)) fun _ => ?_
          clear hK K
          try simp only [Act.put, pA, pZ, pS]
          refine AnyZ.lone 24 _ (by kernel_rfl) (by simp only [gA, gS, gZ]; rfl) fun K hK => ?_
          rw [if_pos (by rfl)]
          go_simp
          refine hK.out _ _ (fun _ => hfin.1) fun _ => ?_
          clear hK K
          try simp only [Act.put, pA, pZ, pS]
          refine AnyZ.done (by kernel_rfl) ?_ _
          go_wp2_with fail
          refine bodyPost_ret (v := .tuple #[.pointer (some ⟨w6.heap.size, 0, none⟩), .int .i64 0]) (by simp [results, Try.results56, go_sem]) rfl ?_
          exact ⟨_, rfl, hfin.2⟩
        exact AnyEach.nil
      refine AnyEach.cons 18 _ (by simp only [gA, gS, gZ]; rfl) (fun K hK => ?_) ?_
      · rw [if_pos (by rfl)]
        go_simp
        have st := st.map18
        refine hK.out _ _ (fun _ => HS0.out _ st.below) fun hHeld => ?_
        obtain ⟨w5, hw5⟩ : ∃ x, x = w4.alloc (.map #[] 0) := ⟨_, rfl⟩
        refine AnyZ.gen hw5 ?_
        rw [← hw5] at st hHeld
        clear hw5
        clear hK K
        have hHeld := hHeld rfl
        try simp only [Act.put, pA, pZ, pS]
        refine AnyZ.each [11] (by kernel_rfl) rfl ?_
        refine AnyEach.cons 11 _ (by simp only [gA, gS, gZ]; rfl) (fun K hK => ?_) ?_
        · rw [if_pos (by rfl)]
          go_simp
          try go_at_call 93
          refine (Hcl.out _ st.below).mono ?_
          rintro e w6 ⟨a4, c4, rfl, hc4, hs4, hb4⟩
          have st := st.clone hc4 hs4 hb4
          clear hc4 hs4 hb4
          refine hK.out _ _ (fun _ => HS0.out _ st.below) fun hHeld => ?_
          clear hK K
          have hHeld := hHeld rfl
          try simp only [Act.put, pA, pZ, pS]
          refine AnyZ.take 12 _ (v := ?_) (by simp only [gA, gS, gZ]; rfl) (by kernel_rfl) (by kernel_rfl) (by kernel_rfl) (by kernel_rfl) (by kernel_rfl) (by exact fun _ _ _ h => h) (Or.inl ⟨by rfl, ?_⟩) hHeld ?_
          rotate_left
          · intro w hSw; go_simp; with_reducible rfl
          try simp only [Act.put, pA, pZ, pS]
          refine AnyZ.take 21 _ (v := ?_) (by simp only [gA, gS, gZ]; rfl) (by kernel_rfl) (by kernel_rfl) (by kernel_rfl) (by kernel_rfl) (by kernel_rfl) (by exact fun _ _ _ h => h) (Or.inl ⟨by rfl, ?_⟩) hHeld ?_
          rotate_left
          · intro w hSw; go_simp; with_reducible rfl
          try simp only [Act.put, pA, pZ, pS]
          have hfin := HFin.out _ _ _ _ _ _ st
          clear st
          refine AnyZ.lone 22 _ (by kernel_rfl) (by simp only [gA, gS, gZ]; rfl) fun K hK => ?_
          rw [if_pos (by rfl)]
          go_simp
          refine hK.out _ _ (fun _ => hfin.1) fun _ => ?_
          clear hK K
          try simp only [Act.put, pA, pZ, pS]
          refine AnyZ.lone 23 _ (by kernel_rfl) (by simp only [gA, gS, gZ]; rfl) fun K hK => ?_
          rw [if_pos (by rfl)]
          go_simp
          refine hK.out _ _ (fun h => (by cases h)) fun _ => ?_
          clear hK K
          try simp only [Act.put, pA, pZ, pS]
          refine AnyZ.lone 24 _ (by kernel_rfl) (by simp only [gA, gS, gZ]; rfl) fun K hK => ?_
          rw [if_pos (by rfl)]
          go_simp
          refine hK.out _ _ (fun _ => hfin.1) fun _ => ?_
          clear hK K
          try simp only [Act.put, pA, pZ, pS]
          refine AnyZ.done (by kernel_rfl) ?_ _
          go_wp2_with fail
          refine bodyPost_ret (v := .tuple #[.pointer (some ⟨w6.heap.size, 0, none⟩), .int .i64 0]) (by simp [results, Try.results56, go_sem]) rfl ?_
          exact ⟨_, rfl, hfin.2⟩
        exact AnyEach.nil
      exact AnyEach.nil
    exact AnyEach.nil
  exact AnyEach.nil
theorem vw_New (me : Int) (n : Nat) (sh pat : Int) (k : Vw.Keep) (la : Option Addr) (ln lc : Nat) (w : World) (hn : 1 ≤ n ∧ n ≤ 7) (hme : 1 ≤ me ∧ me ≤ n) (hp : 1 ≤ pat ∧ pat ≤ 1000000000000) (hv : 0 ≤ k.view ∧ k.view ≤ 1099511627776) (hnm : 0 ≤ k.normal ∧ k.normal ≤ k.view)
    (hl : Vw.Small k.log) (hln : ln = k.log.length) (hlc : ln ≤ lc ∧ lc ≤ maxLen) (hs : Sl EBytes (fun _ => True) w la k.log) :
    Calls Try.prog 56 #[.int .i64 me, .int .i64 n, .int .i64 sh, .int .i64 pat, .int .i64 0, .agg #[.int .i64 k.view, .int .i64 k.normal, .slice la ln lc]] w fun e w' => ∃ g, e = .returned (.tuple #[.pointer (some ⟨g, 0, none⟩), .int .i64 0]) ∧ NewTo w w' g (Vw.Core.new me n sh pat k) :=
  (vw_NewO (fun _ => True) me n sh pat k la ln lc w hn hme hp hv hnm hl hln hlc hs).mono fun _ _ ⟨g, e, M', h1, h2, h3⟩ => ⟨g, e, M', h1, fun b hb => (h2 b hb).1 trivial, h3⟩
end Go.Proofs.Ytmmgnbdngpkfcaa

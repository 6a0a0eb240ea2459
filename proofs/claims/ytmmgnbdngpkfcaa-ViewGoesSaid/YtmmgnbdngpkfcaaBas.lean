/-
  Structs and arrays that are loaded and stored whole.
  Arrays that are read and written by index; rows of rows.
-/
import Derived.Test.YtmmgnbdngpkfcaaIMp
import Derived.Laws.CopyOwn
import Derived.Test.YtmmgnbdngpkfcaaMem
import Derived.Deep.OwnRows
import Derived.Laws.CopyRow
import Derived.Deep.CutBlock
namespace Go.Proofs.Ytmmgnbdngpkfcaa
open Go.RowKit
set_option linter.unusedVariables false

theorem wpList_loadRow {P : Program} {w : World} {ops : Array Oper} {rest : List Oper} {o : Oper} {a : Act} {Q : Exit → Act → World → Prop} (hgd : o.guard = none) (x : Operand) (ty : TypeId) (ho : o.op = .load ty x) (g : Nat) (hx : a.eval x = .pointer (some ⟨g, 0, none⟩))
    (cs : Array Value) (t : TypeId) (fr : Nat × Nat) (d : TypeDesc) (hg : w.heap[g]? = some (.cells cs t fr)) (hu : P.underlying ty = some d) (hd : (match d with | .struct _ | .array _ _ => true | _ => false) = true) (hi : (P.info? ty).map (·.size) = some cs.size)
    (h : wpList P ops Q rest (a.put o.dst (.agg cs)) w) : wpList P ops Q (o :: rest) a w := by
  refine wpList_plain hgd fun K hK => ?_
  unfold Oper.wp
  simp [execOp, ho, hx, Instr.loadAt, Instr.sureAddr, run_loadVar_row w g t ty cs fr d hg hu hd hi, Result.andThen]
  exact hK _ _ h

theorem wpList_storeRow {P : Program} {w : World} {ops : Array Oper} {rest : List Oper} {o : Oper} {a : Act} {Q : Exit → Act → World → Prop} (hgd : o.guard = none) (x y : Operand) (ty : TypeId) (ho : o.op = .store ty x y) (g : Nat) (hx : a.eval x = .pointer (some ⟨g, 0, none⟩))
    (old cs : Array Value) (hy : a.eval y = .agg cs) (t : TypeId) (hg : w.heap[g]? = some (.cells old t (0, 0))) (hi : (P.info? ty).map (·.size) = some cs.size) (hz : old.size = cs.size) (h1 : cs.all (·.oneCell') = true)
    (h : wpList P ops Q rest (a.put o.dst undef) (w.setRow g cs)) : wpList P ops Q (o :: rest) a w := by
  refine wpList_plain hgd fun K hK => ?_
  unfold Oper.wp
  simp [execOp, ho, hx, hy, Instr.storeAt, Instr.sureAddr, run_storeVar_row w g t ty old cs hg hi hz h1, Result.andThen]
  exact hK _ _ h

/-- what a whole store leaves -/
theorem setRow_at {w : World} {g : Nat} {cs old : Array Value} {t : TypeId} {fr : Nat × Nat} (h : w.heap[g]? = some (.cells old t fr)) : (w.setRow g cs).heap[g]? = some (.cells cs t fr) := by
  simp [World.setRow, Array.getElem?_modify, h]
theorem setRow_only (w : World) (g : Nat) (cs : Array Value) : Only (· = g) w (w.setRow g cs) := by
  refine ⟨rfl, rfl, rfl, by simp [World.setRow], fun k hk hn => ?_⟩
  simp only [World.setRow, Array.getElem?_modify]
  rw [if_neg fun e => hn e.symm]
end Go.Proofs.Ytmmgnbdngpkfcaa

namespace Go.Proofs.Ytmmgnbdngpkfcaa
open Go.RowKit
set_option linter.unusedVariables false

theorem alloc_below (w : World) (o : Obj) : Below w.heap.size w (w.alloc o) := (Below.refl _ _).alloc (Nat.le_refl _) _
theorem made_get (z : Value) (n k : Nat) (h : k < n) : (madeCells #[z] n)[k]? = some z := by
  simp [madeCells, h, Nat.mod_one]

def updV (f : Nat → Value) (k : Nat) (v : Value) : Nat → Value := fun j => if j = k then v else f j
theorem updV_same (f : Nat → Value) (k : Nat) (v : Value) : updV f k v k = v := if_pos rfl
theorem updV_other (f : Nat → Value) (k j : Nat) (v : Value) (h : j ≠ k) : updV f k v j = f j := if_neg h
/-- block g holds n cells, told by their index -/
def Vec (w : World) (g te n : Nat) (f : Nat → Value) : Prop := ∃ cur : Array Value, w.heap[g]? = some (.cells cur te (0, 0)) ∧ n ≤ cur.size ∧ ∀ k, k < n → cur[k]? = some (f k)
theorem Vec.cell {w : World} {g te n : Nat} {f : Nat → Value} (h : Vec w g te n f) {k : Nat} (hk : k < n) : w.cell? ⟨g, k, none⟩ = some (f k) := by
  obtain ⟨cur, h1, h2, h3⟩ := h
  simp [World.cell?, h1, h3 k hk]
theorem Vec.free {w : World} {g te n : Nat} {f : Nat → Value} (h : Vec w g te n f) (k : Nat) : w.frozen? ⟨g, k, none⟩ = false := by
  obtain ⟨cur, h1, h2, h3⟩ := h
  simp [World.frozen?, h1]
theorem Vec.lt {w : World} {g te n : Nat} {f : Nat → Value} (h : Vec w g te n f) : g < w.heap.size := by
  obtain ⟨cur, h1, _⟩ := h
  exact (Array.getElem?_eq_some_iff.1 h1).1
theorem Vec.keep {w w' : World} {g te n : Nat} {f : Nat → Value} (h : Vec w g te n f) (e : w'.heap[g]? = w.heap[g]?) : Vec w' g te n f := by
  obtain ⟨cur, h1, h2, h3⟩ := h
  exact ⟨cur, by rw [e]; exact h1, h2, h3⟩
theorem Vec.below {w w' : World} {g te n : Nat} {f : Nat → Value} (h : Vec w g te n f) (hb : Below w.heap.size w w') : Vec w' g te n f := h.keep (hb.block g h.lt)
theorem Vec.congr {w : World} {g te n : Nat} {f f' : Nat → Value} (h : Vec w g te n f) (e : ∀ k, k < n → f k = f' k) : Vec w g te n f' := by
  obtain ⟨cur, h1, h2, h3⟩ := h
  exact ⟨cur, h1, h2, fun k hk => by rw [← e k hk]; exact h3 k hk⟩
theorem Vec.set {w : World} {g te n : Nat} {f : Nat → Value} (h : Vec w g te n f) (k : Nat) (v : Value) : Vec (w.setCell ⟨g, k, none⟩ v) g te n (updV f k v) := by
  obtain ⟨cur, h1, h2, h3⟩ := h
  refine ⟨_, heap_set h1 k v, by simpa using h2, fun j hj => ?_⟩
  by_cases e : k = j
  · subst e; simp [updV, Nat.lt_of_lt_of_le hj h2]
  · simp [updV, e, Ne.symm e, h3 j hj]
theorem heap_setOther (w : World) {g g' : Nat} (hne : g ≠ g') (k : Nat) (v : Value) : (w.setCell ⟨g', k, none⟩ v).heap[g]? = w.heap[g]? := by
  simp [World.setCell, Array.getElem?_modify, Ne.symm hne]
theorem Vec.other {w : World} {g g' te n : Nat} {f : Nat → Value} (h : Vec w g te n f) (hne : g ≠ g') (k : Nat) (v : Value) : Vec (w.setCell ⟨g', k, none⟩ v) g te n f := h.keep (heap_setOther w hne k v)
theorem Vec.made (w : World) (z : Value) (te n : Nat) : Vec (w.alloc (.cells (madeCells #[z] n) te)) w.heap.size te n (fun _ => z) :=
  ⟨_, heap_alloc_new w _, by simp [size_madeCells], fun k hk => made_get z n k hk⟩
theorem setCell_below {B : Nat} {w w' : World} (h : Below B w w') {g : Nat} (hg : B ≤ g) (k : Nat) (v : Value) : Below B w (w'.setCell ⟨g, k, none⟩ v) := h.setCell hg v

/-- a number that can be read -/
theorem SlI.at {ok : Nat → Prop} {w : World} {a : Option Addr} {l : List Int} (h : Sl EInt ok w a l) (k : Nat) (hk : k < l.length) :
    ∃ b o, a = some ⟨b, o, none⟩ ∧ w.cell? ⟨b, o + k, none⟩ = some (.int .i64 l[k]) ∧ -9223372036854775808 ≤ l[k] ∧ l[k] ≤ 9223372036854775807 := by
  obtain ⟨b, o, rfl, _, cs, hr, hc⟩ := h k l[k] (List.getElem?_eq_getElem hk)
  obtain ⟨hr', r1, r2⟩ := hr
  subst hr'
  have := hc 0 _ rfl
  refine ⟨b, o, rfl, ?_, r1, r2⟩
  simpa [EInt] using this
theorem SlI.all {ok : Nat → Prop} {w : World} {a : Option Addr} {l : List Int} (h : Sl EInt ok w a l) (h0 : 0 < l.length) :
    ∃ b o, a = some ⟨b, o, none⟩ ∧ ∀ k (hk : k < l.length), w.cell? ⟨b, o + k, none⟩ = some (.int .i64 l[k]) := by
  obtain ⟨b, o, rfl, _⟩ := SlI.at h 0 h0
  refine ⟨b, o, rfl, fun k hk => ?_⟩
  obtain ⟨b', o', e, hc, _⟩ := SlI.at h k hk
  injection e with e; injection e with e1 e2
  subst e1; subst e2; exact hc

/-- what is owned and flat, while its own block stays -/
theorem OwnI.stay {te base : Nat} {w w' : World} {v : Value} {l : List Int} (h : Own EInt te base w v l) (hk : ∀ g, v.ownBlock = some g → w'.heap[g]? = w.heap[g]?) : Own EInt te base w' v l := by
  rcases h with h | ⟨g, cap, cur, rfl, hg, hh, h1, h2, h3, h4⟩
  · exact .inl h
  · refine .inr ⟨g, cap, cur, rfl, hg, by rw [hk g rfl]; exact hh, h1, h2, h3, fun k x hx => ?_⟩
    obtain ⟨cs, hr, hc⟩ := h4 k x hx
    exact ⟨cs, hr, hc⟩

/-- rows that the call owns: block g holds their slices, each lies in a block of its own behind g -/
structure Grid (ts te : Nat) (w : World) (g n : Nat) (vs : Nat → Value) (ls : Nat → List Int) : Prop where
  vec : Vec w g ts n vs
  own : ∀ i, i < n → Own EInt te (g + 1) w (vs i) (ls i)
  dis : ∀ i j, i < n → j < n → i ≠ j → ∀ b, (vs i).ownBlock = some b → (vs j).ownBlock ≠ some b
def updL (f : Nat → List Int) (k : Nat) (v : List Int) : Nat → List Int := fun j => if j = k then v else f j
theorem Grid.below {ts te : Nat} {w w' : World} {g n : Nat} {vs : Nat → Value} {ls : Nat → List Int} (h : Grid ts te w g n vs ls) (hb : Below w.heap.size w w') : Grid ts te w' g n vs ls :=
  ⟨h.vec.below hb, fun i hi => (h.own i hi).below hb, h.dis⟩
theorem Grid.congr {ts te : Nat} {w : World} {g n : Nat} {vs : Nat → Value} {ls ls' : Nat → List Int} (h : Grid ts te w g n vs ls) (e : ∀ i, i < n → ls i = ls' i) : Grid ts te w g n vs ls' :=
  ⟨h.vec, fun i hi => by rw [← e i hi]; exact h.own i hi, h.dis⟩
/-- one row becomes another one -/
theorem Grid.set {ts te : Nat} {w w1 : World} {g n : Nat} {vs : Nat → Value} {ls : Nat → List Int} (h : Grid ts te w g n vs ls) {i : Nat} (hi : i < n)
    (hk : ∀ k, k < w.heap.size → some k ≠ (vs i).ownBlock → w1.heap[k]? = w.heap[k]?) {v' : Value} {l' : List Int} (ho : Own EInt te (g + 1) w1 v' l')
    (hn : v'.ownBlock = none ∨ v'.ownBlock = (vs i).ownBlock ∨ ∃ b, v'.ownBlock = some b ∧ w.heap.size ≤ b) : Grid ts te (w1.setCell ⟨g, i, none⟩ v') g n (updV vs i v') (updL ls i l') := by
  have hgb : ∀ j, j < n → ∀ b, (vs j).ownBlock = some b → g + 1 ≤ b ∧ b < w.heap.size := fun j hj b hb => (h.own j hj).lt b hb
  have hv1 : Vec w1 g ts n vs := h.vec.keep (hk g h.vec.lt fun e => by have := hgb i hi g e.symm; omega)
  refine ⟨hv1.set i v', fun j hj => ?_, fun j m hj hm hne b hb => ?_⟩
  · by_cases e : j = i
    · subst e
      rw [updV_same]
      unfold updL; rw [if_pos rfl]
      exact OwnI.stay ho fun q hq => heap_setOther _ (by have := (ho.lt q hq).1; omega) _ _
    · rw [updV_other _ _ _ _ e]
      unfold updL; rw [if_neg e]
      refine OwnI.stay (h.own j hj) fun q hq => ?_
      rw [heap_setOther _ (by have := (hgb j hj q hq).1; omega)]
      exact hk q (hgb j hj q hq).2 fun e2 => h.dis j i hj hi e q hq e2.symm
  · by_cases e : j = i
    · subst e
      rw [updV_same] at hb
      rw [updV_other _ _ _ _ (Ne.symm hne)]
      intro hb2
      rcases hn with hn | hn | ⟨b', hn, hge⟩
      · rw [hn] at hb; cases hb
      · rw [hn] at hb; exact h.dis j m hj hm hne b hb hb2
      · rw [hn] at hb; injection hb with hb; have := (hgb m hm b hb2).2; omega
    · rw [updV_other _ _ _ _ e] at hb
      by_cases e2 : m = i
      · subst e2
        rw [updV_same]
        intro hb2
        rcases hn with hn | hn | ⟨b', hn, hge⟩
        · rw [hn] at hb2; cases hb2
        · rw [hn] at hb2; exact h.dis j m hj hm hne b hb hb2
        · rw [hn] at hb2; injection hb2 with hb2; have := (hgb j hj b hb).2; omega
      · rw [updV_other _ _ _ _ e2]
        exact h.dis j m hj hm hne b hb
theorem Grid.made (ts te : Nat) (w : World) (n : Nat) : Grid ts te (w.alloc (.cells (madeCells #[.slice none 0 0] n) ts)) w.heap.size n (fun _ => .slice none 0 0) (fun _ => []) :=
  ⟨Vec.made w _ ts n, fun i hi => Own.nil _ _ _ _, fun i j _ _ _ b hb => by simp [Value.ownBlock] at hb⟩
/-- rows that are read -/
structure Rows (w : World) (g n : Nat) (vs : Nat → Value) (ls : Nat → List Int) : Prop where
  cell : ∀ i, i < n → w.cell? ⟨g, i, none⟩ = some (vs i)
  row : ∀ i, i < n → ∃ a c, vs i = .slice a (ls i).length c ∧ (ls i).length ≤ c ∧ c ≤ maxLen ∧ Sl EInt (fun _ => True) w a (ls i)
theorem Grid.rows {ts te : Nat} {w : World} {g n : Nat} {vs : Nat → Value} {ls : Nat → List Int} (h : Grid ts te w g n vs ls) : Rows w g n vs ls :=
  ⟨fun i hi => h.vec.cell hi, fun i hi => (h.own i hi).sl⟩
theorem Rows.below {w w' : World} {g n : Nat} {vs : Nat → Value} {ls : Nat → List Int} (h : Rows w g n vs ls) (hb : Below w.heap.size w w') : Rows w' g n vs ls :=
  ⟨fun i hi => cell_thru (h.cell i hi) hb, fun i hi => by
    obtain ⟨a, c, h1, h2, h3, h4⟩ := h.row i hi
    exact ⟨a, c, h1, h2, h3, h4.below (by decide) hb⟩⟩
/-- a number behind a store -/
def updB (f : Nat → Nat → Bool) (i j : Nat) (b : Bool) : Nat → Nat → Bool := fun x y => if x = i ∧ y = j then b else f x y
/-- a table of bools: block g holds n rows, of which the first k are laid -/
structure Mtx (ts tb : Nat) (w : World) (g n m k : Nat) (rows cp : Nat → Nat) (f : Nat → Nat → Bool) : Prop where
  vec : Vec w g ts n (fun i => if i < k then .slice (some ⟨rows i, 0, none⟩) m (cp i) else .slice none 0 0)
  row : ∀ i, i < k → Vec w (rows i) tb m (fun j => .bool (f i j))
  cap : ∀ i, i < k → m ≤ cp i ∧ cp i ≤ maxLen
  far : ∀ i, i < k → g < rows i
  dis : ∀ i j, i < k → j < k → i ≠ j → rows i ≠ rows j
  kn : k ≤ n
section
variable {ts tb : Nat} {w w1 : World} {g n m k : Nat} {rows cp : Nat → Nat} {f : Nat → Nat → Bool}
theorem Mtx.below (h : Mtx ts tb w g n m k rows cp f) (hb : Below w.heap.size w w1) : Mtx ts tb w1 g n m k rows cp f :=
  ⟨h.vec.below hb, fun i hi => (h.row i hi).below hb, h.cap, h.far, h.dis, h.kn⟩
theorem Mtx.keep (h : Mtx ts tb w g n m k rows cp f) (hb : ∀ b, g ≤ b → b < w.heap.size → w1.heap[b]? = w.heap[b]?) : Mtx ts tb w1 g n m k rows cp f :=
  ⟨h.vec.keep (hb g (Nat.le_refl _) h.vec.lt), fun i hi => (h.row i hi).keep (hb _ (Nat.le_of_lt (h.far i hi)) (h.row i hi).lt), h.cap, h.far, h.dis, h.kn⟩
theorem Mtx.congr {f' : Nat → Nat → Bool} (h : Mtx ts tb w g n m k rows cp f) (e : ∀ i j, i < k → j < m → f i j = f' i j) : Mtx ts tb w g n m k rows cp f' :=
  ⟨h.vec, fun i hi => (h.row i hi).congr fun j hj => by rw [e i j hi hj], h.cap, h.far, h.dis, h.kn⟩
theorem Mtx.cell (h : Mtx ts tb w g n m k rows cp f) {i : Nat} (hi : i < k) : w.cell? ⟨g, i, none⟩ = some (.slice (some ⟨rows i, 0, none⟩) m (cp i)) := by
  have := h.vec.cell (Nat.lt_of_lt_of_le hi h.kn)
  simpa only [if_pos hi] using this
theorem Mtx.at (h : Mtx ts tb w g n m k rows cp f) {i j : Nat} (hi : i < k) (hj : j < m) : w.cell? ⟨rows i, j, none⟩ = some (.bool (f i j)) := (h.row i hi).cell hj
theorem Mtx.made (w : World) (n m : Nat) (rows cp : Nat → Nat) (f : Nat → Nat → Bool) : Mtx ts tb (w.alloc (.cells (madeCells #[.slice none 0 0] n) ts)) w.heap.size n m 0 rows cp f :=
  ⟨(Vec.made w (.slice none 0 0) ts n).congr fun i _ => by rw [if_neg (by omega)], fun i hi => by omega, fun i hi => by omega, fun i hi => by omega, fun i j hi => by omega, Nat.zero_le _⟩
/-- one cell becomes another one -/
theorem Mtx.put (h : Mtx ts tb w g n m k rows cp f) {i j : Nat} (hi : i < k) (b : Bool) : Mtx ts tb (w.setCell ⟨rows i, j, none⟩ (.bool b)) g n m k rows cp (updB f i j b) := by
  refine ⟨h.vec.other (by have := h.far i hi; omega) _ _, fun x hx => ?_, h.cap, h.far, h.dis, h.kn⟩
  by_cases e : x = i
  · subst e
    refine ((h.row x hx).set j _).congr fun y _ => ?_
    by_cases e2 : y = j
    · subst e2; rw [updV_same]; simp [updB]
    · rw [updV_other _ _ _ _ e2]; simp [updB, e2]
  · refine ((h.row x hx).other (h.dis x i hx hi e) _ _).congr fun y _ => ?_
    simp [updB, e]
end
end Go.Proofs.Ytmmgnbdngpkfcaa

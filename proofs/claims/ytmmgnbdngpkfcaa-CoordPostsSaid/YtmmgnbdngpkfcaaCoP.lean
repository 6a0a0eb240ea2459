
/-
  A transaction under way, plain: what is asked, what an answer turns.
-/
import Derived.Test.YtmmgnbdngpkfcaaIMp
namespace Go.Proofs.Ytmmgnbdngpkfcaa.Co
set_option linter.unusedVariables false

abbrev Op : Type := Int × Int × Int
structure En where
  t : Int
  c : Bool
  a : Int
structure An where
  err : Int
  vals : List Int
  at_ : Int
  by_ : Int
  home : Int
  e : En
structure Tx where
  id : Int
  ops : List Op
  ser : Bool
  sh : Int
  pat : Int
  stage : Int
  start : Int
  e : En
  at_ : Int
  wait : Bool
  waited : Int
  by_ : En
  home : Int
  vals : Int → Option Int
  res : Int
  doubt : Bool
structure Ask where
  shard : Int
  kind : Int
  txn : Int
  home : Int
  start : Int
  writes : List Op
  reads : List Int
  e : En
def rdGo (sh at_ : Int) : List Op → List Int → List Int → List Int
  | [], _, out => out
  | o :: r, wr, out => if o.1 = 2 then rdGo sh at_ r (o.2.1 :: wr) out else if o.2.1 ∉ wr ∧ o.2.1 % sh = at_ ∧ o.2.1 ∉ out then rdGo sh at_ r wr (out ++ [o.2.1]) else rdGo sh at_ r wr out
def reads (sh : Int) (ops : List Op) (at_ : Int) : List Int := rdGo sh at_ ops [] []
def later (r : List Op) (k : Int) : Bool := r.any fun p => p.1 == 2 && p.2.1 == k
def writes (sh : Int) : List Op → Int → List Op
  | [], _ => []
  | o :: r, at_ => if (o.1 == 2 && (o.2.1 % sh == at_ && !later r o.2.1)) = true then o :: writes sh r at_ else writes sh r at_
def conc (sh : Int) (ops : List Op) (ser : Bool) (at_ : Int) : Bool := !(writes sh ops at_).isEmpty || ser && !(reads sh ops at_).isEmpty
def firstGo (p : Int → Bool) : Nat → Int → Int
  | 0, at_ => at_
  | n + 1, at_ => if p at_ = true then at_ else firstGo p n (at_ + 1)
def first (p : Int → Bool) (sh at_ : Int) : Int := firstGo p (sh - at_).toNat at_
theorem first_end {p : Int → Bool} {sh at_ : Int} (h : sh ≤ at_) : first p sh at_ = at_ := by
  unfold first
  rw [show (sh - at_).toNat = 0 by omega]; rfl
theorem first_hit {p : Int → Bool} {sh at_ : Int} (hp : p at_ = true) : first p sh at_ = at_ := by
  unfold first
  cases h : (sh - at_).toNat
  · rfl
  · simp only [firstGo, hp, if_true]
theorem first_step {p : Int → Bool} {sh at_ : Int} (h : at_ < sh) (hp : p at_ = false) : first p sh at_ = first p sh (at_ + 1) := by
  unfold first
  rw [show (sh - at_).toNat = (sh - (at_ + 1)).toNat + 1 by omega]
  simp only [firstGo, hp, Bool.false_eq_true, if_false]
theorem first_spec (p : Int → Bool) (sh : Int) : ∀ (n : Nat) (at_ : Int), (sh - at_).toNat = n → at_ ≤ first p sh at_ ∧ (first p sh at_ ≤ sh ∨ first p sh at_ = at_) ∧ (first p sh at_ < sh → p (first p sh at_) = true) ∧ ∀ x, at_ ≤ x → x < first p sh at_ → p x = false
  | 0, at_, hn => by
    rw [first_end (by omega)]
    exact ⟨Int.le_refl _, .inr rfl, fun h => by omega, fun x h1 h2 => by omega⟩
  | n + 1, at_, hn => by
    cases hp : p at_
    · rw [first_step (by omega) hp]
      obtain ⟨h1, h2, h3, h4⟩ := first_spec p sh n (at_ + 1) (by omega)
      refine ⟨by omega, .inl (by omega), h3, fun x h5 h6 => ?_⟩
      by_cases hx : x = at_
      · rw [hx]; exact hp
      · exact h4 x (by omega) h6
    · rw [first_hit hp]
      exact ⟨Int.le_refl _, .inr rfl, fun _ => hp, fun x h1 h2 => by omega⟩
def hasW (ops : List Op) : Bool := ops.any fun p => p.1 == 2
def Tx.where_ (T : Tx) : Int := first (conc T.sh T.ops T.ser) T.sh 0
/-- goes on to a stage behind the reading -/
def goA (T : Tx) (stage from_ : Int) : Tx :=
  let a := first (conc T.sh T.ops T.ser) T.sh from_
  { T with at_ := a, stage := if a < T.sh then stage else if stage = 7 then 8 else 5 }
/-- goes on to the reading -/
def goR (T : Tx) (from_ : Int) : Tx :=
  let a := first (fun a => !(reads T.sh T.ops a).isEmpty) T.sh from_
  if a < T.sh then { T with at_ := a, stage := 1 }
  else if hasW T.ops = true then goA { T with at_ := a, stage := 1 } 4 0
  else { T with at_ := a, stage := 8, res := 2 }
def go1 (T : Tx) (stage from_ : Int) : Tx := if stage = 1 then goR T from_ else goA T stage from_
def fail (T : Tx) : Tx :=
  { T with res := 3, e := ⟨T.id, false, 0⟩, stage := if T.sh ≤ T.where_ then 8 else 6 }
def noAsk : Ask := ⟨0, 0, 0, 0, 0, [], [], ⟨0, false, 0⟩⟩
def nextA (T : Tx) : Ask × Bool :=
  if T.wait = true then (noAsk, false)
  else if T.stage = 0 ∨ T.stage = 5 then ({ noAsk with kind := 1 }, true)
  else if T.stage = 1 then ({ noAsk with shard := T.at_, kind := 2, txn := T.id, start := T.start, reads := reads T.sh T.ops T.at_ }, true)
  else if T.stage = 2 then ({ noAsk with shard := T.home, kind := 4, e := ⟨T.by_.t, false, 0⟩ }, true)
  else if T.stage = 3 then ({ noAsk with shard := T.at_, kind := 5, e := T.by_ }, true)
  else if T.stage = 4 then ({ noAsk with shard := T.at_, kind := 3, txn := T.id, home := T.where_, start := T.start, writes := writes T.sh T.ops T.at_, reads := if T.ser = true then reads T.sh T.ops T.at_ else [] }, true)
  else if T.stage = 6 then ({ noAsk with shard := T.where_, kind := 4, e := T.e }, true)
  else if T.stage = 7 then ({ noAsk with shard := T.at_, kind := 5, e := T.e }, true)
  else (noAsk, false)
def nextT (T : Tx) : Tx := if T.wait = false ∧ T.stage = 6 then { T with doubt := T.doubt || T.e.c } else T
def storeV (f : Int → Option Int) : List Int → List Int → Int → Option Int
  | k :: ks, v :: vs => storeV (fun z => if z = k then some v else f z) ks vs
  | _, _ => f
def got (T : Tx) (a : An) : Tx :=
  let ks := reads T.sh T.ops T.at_
  if a.err = 60 then
    if T.pat ≤ T.waited then { T with wait := false, stage := 2, by_ := ⟨a.by_, false, 0⟩, home := a.home } else { T with wait := true }
  else if a.err ≠ 0 ∨ a.vals.length ≠ ks.length then { T with res := 3, stage := 8 }
  else goR { T with vals := storeV T.vals ks a.vals, waited := 0 } (T.at_ + 1)
def inT (T0 : Tx) (a : An) : Tx :=
  let T := nextT T0
  if (nextA T0).2 = false then T
  else if T.stage = 0 then if a.err ≠ 0 then { T with res := 3, stage := 8 } else goR { T with start := a.at_ } 0
  else if T.stage = 1 then got T a
  else if T.stage = 2 then { T with by_ := a.e, stage := 3 }
  else if T.stage = 3 then { T with stage := 1, waited := 0 }
  else if T.stage = 4 then if a.err ≠ 0 then fail T else goA T 4 (T.at_ + 1)
  else if T.stage = 5 then if a.err ≠ 0 then fail T else { T with e := ⟨T.id, true, a.at_⟩, stage := 6 }
  else if T.stage = 6 then goA { T with e := a.e, res := if T.res = 0 then (if a.e.c = true then 2 else 3) else T.res } 7 0
  else goA T 7 (T.at_ + 1)
def tick (T : Tx) : Tx := if T.wait = true then { T with wait := false, waited := T.waited + 1 } else T
def tellGo (vals : Int → Option Int) : List Op → (Int → Option Int) → List Op
  | [], _ => []
  | o :: r, own => if o.1 = 2 then o :: tellGo vals r (fun z => if z = o.2.1 then some o.2.2 else own z)
    else (o.1, o.2.1, match own o.2.1 with | some v => v | none => (vals o.2.1).getD 0) :: tellGo vals r own
def told (T : Tx) : List Op := if T.res = 2 then tellGo T.vals T.ops (fun _ => none) else []
theorem tellGo_len (vals : Int → Option Int) : ∀ (l : List Op) (own : Int → Option Int), (tellGo vals l own).length = l.length
  | [], _ => rfl
  | o :: r, own => by
    unfold tellGo
    split <;> simp [tellGo_len vals r]
def new (id : Int) (ops : List Op) (ser : Bool) (sh pat : Int) : Tx := ⟨id, ops, ser, min (max sh 1) 4, pat, 0, 0, ⟨0, false, 0⟩, 0, false, 0, ⟨0, false, 0⟩, 0, fun _ => none, 0, false⟩
/-- what is small enough -/
structure Right (T : Tx) : Prop where
  ops : ∀ o ∈ T.ops, 0 ≤ o.2.1 ∧ o.2.1 ≤ 15
  many : T.ops.length ≤ 12
  sh : 1 ≤ T.sh ∧ T.sh ≤ 4
  at_ : 0 ≤ T.at_ ∧ T.at_ ≤ 4
  waited : 0 ≤ T.waited ∧ T.waited ≤ 1000
  vals : ∀ z v, T.vals z = some v → (0 ≤ z ∧ z ≤ 15) ∧ (-9223372036854775808 ≤ v ∧ v ≤ 9223372036854775807)
end Go.Proofs.Ytmmgnbdngpkfcaa.Co


/-
  The members of a group that keeps one log, as plain functions.
-/
import Derived.Test.YtmmgnbdngpkfcaaNum
namespace Go.Proofs.Ytmmgnbdngpkfcaa
set_option linter.unusedVariables false
namespace Vw
abbrev Bs := List (BitVec 8)
/-- a message -/
structure Msg where
  kind : Int
  frm : Int
  to_ : Int
  shard : Int
  view : Int
  normal : Int
  at_ : Int
  commit : Int
  id : Int
  err : Int
  list : List Bs
  data : Bs
def Msg.z : Msg := ⟨0, 0, 0, 0, 0, 0, 0, 0, 0, 0, [], []⟩
structure Rc where
  kind : Int
  a : Int
  b : Int
  data : Bs
structure Keep where
  view : Int
  normal : Int
  log : List Bs
def lay (k : Keep) (r : Rc) : Keep :=
  if r.kind = 1 then { k with view := r.a, normal := r.b }
  else if r.kind = 2 then { k with log := k.log ++ [r.data] }
  else if r.kind = 3 then { k with log := k.log.take (min (max r.a 0) (k.log.length : Int)).toNat }
  else k
/-- a member; bugs are off -/
structure Core where
  me : Int
  n : Nat
  shard : Int
  pat : Int
  keep : Keep
  ch : Bool
  commit : Nat
  idle : Int
  has : Int → Int
  begun : Int → Bool
  dos : Int → Option Msg
  recs : List Rc
  msgs : List Msg
  done : List Bs
namespace Core
def new (me : Int) (n : Nat) (shard pat : Int) (k : Keep) : Core := ⟨me, n, shard, pat, k, k.view != k.normal, 0, 0, fun _ => 0, fun _ => false, fun _ => none, [], [], []⟩
end Core
def lead (view : Int) (n : Nat) : Int := view % (max (n : Int) 1) + 1
/-- how many of members 1 to n -/
def cnt (n : Nat) (p : Int → Bool) : Nat := ((List.range n).filter fun i : Nat => p ((i : Int) + 1)).length
namespace Core
variable (c : Core)
def most (k : Nat) : Bool := decide (c.n < 2 * k)
def rec_ (r : Rc) : Core := { c with keep := lay c.keep r, recs := c.recs ++ [r] }
def send (m : Msg) : Core := { c with msgs := c.msgs ++ [{ m with frm := c.me, shard := c.shard, view := c.keep.view }] }
/-- the others of members 1 to j -/
def others (j : Nat) : List Int := ((List.range j).map fun i : Nat => (i : Int) + 1).filter (· ≠ c.me)
def all (m : Msg) : Core := { c with msgs := c.msgs ++ (c.others c.n).map fun tt => { m with to_ := tt, frm := c.me, shard := c.shard, view := c.keep.view } }
def leads : Bool := !c.ch && decide (lead c.keep.view c.n = c.me)
def reach (k : Int) : Core :=
  let j := max c.commit (min k (c.keep.log.length : Int)).toNat
  { c with commit := j, done := c.done ++ (c.keep.log.take j).drop c.commit }
def held : List Int := (c.keep.log.length : Int) :: (c.others c.n).map c.has
def med (l : List Int) : Int := (l.mergeSort (fun a b => decide (a ≤ b))).getD ((l.length - 1) / 2) 0
def count : Core := if c.leads then c.reach (med c.held) else c
def cp : List Bs → List Bs → Nat
  | a :: l, b :: m => if a = b then cp l m + 1 else 0
  | _, _ => 0
def puts (l : List Bs) : Core := l.foldl (fun c b => c.rec_ ⟨2, 0, 0, b⟩) c
def adopt (log : List Bs) : Core :=
  let same := cp log c.keep.log
  let c1 := if same < c.keep.log.length then c.rec_ ⟨3, same, 0, []⟩ else c
  let c2 := c1.puts (log.drop same)
  let c3 := c2.rec_ ⟨1, c2.keep.view, c2.keep.view, []⟩
  { c3 with ch := false, idle := 0, has := fun _ => 0, begun := fun _ => false, dos := fun _ => none }
def bestS (acc : Msg × Int) (i : Nat) : Msg × Int :=
  match c.dos ((i : Int) + 1) with
  | none => acc
  | some m => (if m.normal > acc.1.normal ∨ (m.normal = acc.1.normal ∧ m.list.length > acc.1.list.length) then m else acc.1, max acc.2 m.commit)
def best : Msg × Int := (List.range c.n).foldl c.bestS ({ Msg.z with normal := -1 }, 0)
def begin_ : Core :=
  if c.most (cnt c.n fun x => (c.dos x).isSome) then
    let c1 := c.adopt c.best.1.list
    let c2 := c1.all { Msg.z with kind := 5, commit := c.best.2, list := c1.keep.log }
    (c2.reach c.best.2).count
  else c
def doMsg : Msg := { Msg.z with kind := 4, to_ := lead c.keep.view c.n, normal := c.keep.normal, commit := c.commit, list := c.keep.log }
def wanted : Core :=
  if c.most (cnt c.n c.begun) then
    if lead c.keep.view c.n ≠ c.me then c.send c.doMsg
    else { c with dos := fun x => if x = c.me then some c.doMsg else c.dos x }.begin_
  else c
def change (v : Int) : Core :=
  let c1 := c.rec_ ⟨1, v, c.keep.normal, []⟩
  let c2 := { c1 with ch := true, idle := 0, begun := fun x => decide (x = c.me), dos := fun _ => none, has := fun _ => 0 }
  (c2.all { Msg.z with kind := 3 }).wanted
def feedM (tt : Int) : Msg :=
  let at_ := min (c.has tt) (c.keep.log.length : Int)
  { Msg.z with kind := 1, to_ := tt, at_ := at_, commit := c.commit, list := (c.keep.log.drop at_.toNat).take 8 }
def feeds : Core := { c with msgs := c.msgs ++ (c.others c.n).map fun tt => { c.feedM tt with frm := c.me, shard := c.shard, view := c.keep.view } }
def tick : Core :=
  let c := { c with idle := c.idle + 1 }
  if c.leads then
    (if 2 ≤ c.idle then { c with idle := 0 }.feeds else c).count
  else if c.ch ∧ c.idle < 2 * c.pat then
    if c.idle % c.pat = 0 then ({ c with begun := fun x => decide (x = c.me) || c.begun x }.all { Msg.z with kind := 3 }).wanted else c
  else if c.ch ∨ c.idle ≥ c.pat + c.me then
    if c.keep.view < 1099511627776 then c.change (c.keep.view + 1) else c
  else c
def propose (b : Bs) : Core × Int :=
  if !c.leads then (c, 50)
  else if 4000 < b.length then (c, 3)
  else if 2000 ≤ c.keep.log.length then (c, 40)
  else (((c.rec_ ⟨2, 0, 0, b⟩).feeds).count, 0)
def prepS (m : Msg) (i : Nat) : Core :=
  match m.list[i]? with
  | some b => if m.at_ + i ≥ (c.keep.log.length : Int) ∧ c.keep.log.length < 2000 then c.rec_ ⟨2, 0, 0, b⟩ else c
  | none => c
def prep (m : Msg) : Core :=
  let c1 := { c with idle := 0 }
  let c2 := if m.at_ ≤ (c1.keep.log.length : Int) then ((List.range m.list.length).foldl (fun c i => c.prepS m i) c1).reach m.commit else c1
  c2.send { Msg.z with kind := 2, to_ := m.frm, at_ := c2.keep.log.length }
def started (m : Msg) : Core :=
  if m.view ≠ c.keep.view then c
  else if c.ch then
    if !c.begun m.frm then { c with begun := fun x => decide (x = m.frm) || c.begun x }.wanted else c
  else if c.leads then c.send { Msg.z with kind := 5, to_ := m.frm, commit := c.commit, list := c.keep.log }
  else c
def hears (m : Msg) : Bool := decide (m.to_ = c.me ∧ 1 ≤ m.frm ∧ m.frm ≤ c.n ∧ m.frm ≠ c.me ∧ m.shard = c.shard ∧ 0 ≤ m.view ∧ m.view ≤ 1099511627776 ∧ m.list.length ≤ 2000 ∧ m.normal ≤ m.view ∧ 0 ≤ m.at_ ∧ 1 ≤ m.kind ∧ m.kind ≤ 5)
def in_ (m : Msg) : Core :=
  if !c.hears m then c
  else if m.view < c.keep.view then
    if m.kind = 1 ∨ m.kind = 3 then c.send { Msg.z with kind := 3, to_ := m.frm } else c
  else
    let c1 := if m.view > c.keep.view ∧ m.kind ≠ 5 ∧ m.kind ≠ 2 then c.change m.view else c
    let ld := lead m.view c.n
    if m.kind = 3 then c1.started m
    else if m.kind = 4 ∧ m.view = c1.keep.view ∧ c1.ch = true ∧ ld = c1.me then { c1 with dos := fun x => if x = m.frm then some m else c1.dos x }.begin_
    else if m.kind = 5 ∧ m.frm = ld ∧ (m.view > c1.keep.view ∨ c1.ch = true) then
      let c2 := ({ c1 with keep := { c1.keep with view := m.view } }.adopt m.list).reach m.commit
      c2.send { Msg.z with kind := 2, to_ := ld, at_ := c2.keep.log.length }
    else if m.kind = 1 ∧ m.view = c1.keep.view ∧ c1.ch = false ∧ m.frm = ld then c1.prep m
    else if m.kind = 2 ∧ m.view = c1.keep.view ∧ c1.leads = true then
      ({ c1 with has := fun x => if x = m.frm then max (c1.has x) (min m.at_ (c1.keep.log.length : Int)) else c1.has x }).count
    else c1
def clear : Core := { c with recs := [], msgs := [], done := [] }
end Core
end Vw

end Go.Proofs.Ytmmgnbdngpkfcaa

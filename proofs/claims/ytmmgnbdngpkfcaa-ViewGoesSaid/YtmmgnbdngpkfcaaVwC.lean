/-
  Numbers of fixed width: 'bv x' is the number that Go's uint8 .. uint64 holds where x is its bits; the walk's operations on such numbers, said of the bits.
  The members of a group that keeps one log, as plain functions.
-/
import Derived.WalkKit
import Derived.Lib.Hide
import Derived.BigQuiet
import Derived.Deep.QuietTactic
import Derived.Deep.RegionWith
import Derived.Deep.RegionHeld3
import Derived.StillTailTactics
import Derived.WalkSpells
import Derived.WalkLawsBesides
import Derived.Lib.SlBytesConst
import Derived.Deep.DeepFit
import Derived.Deep.DeepCutAuto
namespace Go.Proofs.Ytmmgnbdngpkfcaa
set_option linter.unusedVariables false

def bv {n : Nat} (x : BitVec n) : Int := (x.toNat : Int)
theorem bv_nonneg {n : Nat} (x : BitVec n) : 0 ≤ bv x := Int.natCast_nonneg _
theorem bv8_lt (x : BitVec 8) : bv x < 256 := by unfold bv; have := x.isLt; omega
theorem bv32_lt (x : BitVec 32) : bv x < 4294967296 := by unfold bv; have := x.isLt; omega
theorem ofInt_bv {n m : Nat} (x : BitVec n) : BitVec.ofInt m (bv x) = x.setWidth m := by
  unfold bv; rw [BitVec.ofInt_natCast]; exact BitVec.ofNat_toNat m x
theorem bv_inj {n : Nat} {x y : BitVec n} : bv x = bv y ↔ x = y :=
  ⟨fun h => BitVec.eq_of_toNat_eq (by unfold bv at h; omega), fun h => by rw [h]⟩
theorem bv_beq {n : Nat} (x y : BitVec n) : (bv x == bv y) = (x == y) := by
  rw [Bool.eq_iff_iff, beq_iff_eq, beq_iff_eq]; exact bv_inj
theorem bv_bne {n : Nat} (x y : BitVec n) : (bv x != bv y) = (x != y) := by
  unfold bne; rw [bv_beq]
theorem wrap8 (n : Int) : IntKind.u8.wrap n = bv (BitVec.ofInt 8 n) := by
  rw [IntKind.wrap_u8]; unfold bv; rw [BitVec.toNat_ofInt]; omega
theorem wrap16 (n : Int) : IntKind.u16.wrap n = bv (BitVec.ofInt 16 n) := by
  unfold bv; rw [BitVec.toNat_ofInt]; simp [IntKind.wrap, IntKind.bits, IntKind.signed]; omega
theorem wrap32 (n : Int) : IntKind.u32.wrap n = bv (BitVec.ofInt 32 n) := by
  rw [IntKind.wrap_u32]; unfold bv; rw [BitVec.toNat_ofInt]; omega
theorem wrap64u (n : Int) : IntKind.u64.wrap n = bv (BitVec.ofInt 64 n) := by
  unfold bv; rw [BitVec.toNat_ofInt]; simp [IntKind.wrap, IntKind.bits, IntKind.signed]; omega
theorem wrapN8 (x : BitVec 8) : IntKind.u8.wrap (x.toNat : Int) = bv x := by rw [wrap8]; simp
theorem wrapN32 (x : BitVec 32) : IntKind.u32.wrap (x.toNat : Int) = bv x := by rw [wrap32]; simp
theorem wrapN64 (x : BitVec 64) : IntKind.u64.wrap (x.toNat : Int) = bv x := by rw [wrap64u]; simp
theorem xor8 (a b : Int) : bits .xor .u8 a b = bv (BitVec.ofInt 8 a ^^^ BitVec.ofInt 8 b) := by simp only [bits]; exact wrapN8 _
theorem and8 (a b : Int) : bits .and .u8 a b = bv (BitVec.ofInt 8 a &&& BitVec.ofInt 8 b) := by simp only [bits]; exact wrapN8 _
theorem or8 (a b : Int) : bits .or .u8 a b = bv (BitVec.ofInt 8 a ||| BitVec.ofInt 8 b) := by simp only [bits]; exact wrapN8 _
theorem xor32 (a b : Int) : bits .xor .u32 a b = bv (BitVec.ofInt 32 a ^^^ BitVec.ofInt 32 b) := by simp only [bits]; exact wrapN32 _
theorem and32 (a b : Int) : bits .and .u32 a b = bv (BitVec.ofInt 32 a &&& BitVec.ofInt 32 b) := by simp only [bits]; exact wrapN32 _
theorem or32 (a b : Int) : bits .or .u32 a b = bv (BitVec.ofInt 32 a ||| BitVec.ofInt 32 b) := by simp only [bits]; exact wrapN32 _
theorem xor64 (a b : Int) : bits .xor .u64 a b = bv (BitVec.ofInt 64 a ^^^ BitVec.ofInt 64 b) := by simp only [bits]; exact wrapN64 _
theorem and64 (a b : Int) : bits .and .u64 a b = bv (BitVec.ofInt 64 a &&& BitVec.ofInt 64 b) := by simp only [bits]; exact wrapN64 _
theorem or64 (a b : Int) : bits .or .u64 a b = bv (BitVec.ofInt 64 a ||| BitVec.ofInt 64 b) := by simp only [bits]; exact wrapN64 _
theorem max32 : IntKind.u32.max = bv (BitVec.allOnes 32) := by decide
theorem max64 : IntKind.u64.max = bv (BitVec.allOnes 64) := by decide
theorem max8 : IntKind.u8.max = bv (BitVec.allOnes 8) := by decide
theorem allOnes_xor' {n : Nat} (x : BitVec n) : BitVec.allOnes n ^^^ x = ~~~x := by
  rw [BitVec.xor_comm]; exact BitVec.xor_allOnes
theorem not32 (x : BitVec 32) : 4294967295#32 ^^^ x = ~~~x := allOnes_xor' x
theorem not64 (x : BitVec 64) : 18446744073709551615#64 ^^^ x = ~~~x := allOnes_xor' x
theorem not32' (x : BitVec 32) : x ^^^ 4294967295#32 = ~~~x := by rw [BitVec.xor_comm]; exact not32 x
theorem not8 (x : BitVec 8) : x ^^^ 255#8 = ~~~x := by rw [BitVec.xor_comm]; exact allOnes_xor' x
theorem and8_all (x : BitVec 8) : x &&& 255#8 = x := by
  have : (255#8 : BitVec 8) = BitVec.allOnes 8 := by decide
  rw [this]; exact BitVec.and_allOnes
theorem bv_shr {n : Nat} (x : BitVec n) (k : Nat) : bv x / (2 : Int) ^ k = bv (x >>> k) := by
  unfold bv; rw [BitVec.toNat_ushiftRight, Nat.shiftRight_eq_div_pow]; simp
theorem bv_shr1 {n : Nat} (x : BitVec n) : bv x / (2 : Int) = bv (x >>> 1) := bv_shr x 1
theorem bv_shr4 {n : Nat} (x : BitVec n) : bv x / (16 : Int) = bv (x >>> 4) := bv_shr x 4
theorem bv_shr8 {n : Nat} (x : BitVec n) : bv x / (256 : Int) = bv (x >>> 8) := bv_shr x 8
theorem bv_shr16 {n : Nat} (x : BitVec n) : bv x / (65536 : Int) = bv (x >>> 16) := bv_shr x 16
theorem bv_shr24 {n : Nat} (x : BitVec n) : bv x / (16777216 : Int) = bv (x >>> 24) := bv_shr x 24
theorem bv_shr31 {n : Nat} (x : BitVec n) : bv x / (2147483648 : Int) = bv (x >>> 31) := bv_shr x 31
theorem bv_tdiv {n : Nat} (x : BitVec n) (k : Int) : (bv x).tdiv k = bv x / k := Int.tdiv_eq_ediv_of_nonneg (bv_nonneg x)
theorem bv_tmod {n : Nat} (x : BitVec n) (k : Int) : (bv x).tmod k = bv x % k := Int.tmod_eq_emod_of_nonneg (bv_nonneg x)
theorem bv_mod {n : Nat} (x : BitVec n) (k : Nat) (hk : k ≤ n) : bv x % (2 : Int) ^ k = bv (x &&& BitVec.ofNat n (2 ^ k - 1)) := by
  unfold bv
  have hp : 0 < 2 ^ k := Nat.two_pow_pos k
  have hlt : 2 ^ k - 1 < 2 ^ n := Nat.lt_of_lt_of_le (Nat.sub_lt hp (by decide)) (Nat.pow_le_pow_right (by decide) hk)
  rw [BitVec.toNat_and, BitVec.toNat_ofNat, Nat.mod_eq_of_lt hlt, Nat.and_two_pow_sub_one_eq_mod]
  simp
theorem bv32_mod2 (x : BitVec 32) : bv x % (2 : Int) = bv (x &&& 1#32) := bv_mod x 1 (by decide)
theorem bv64_mod2 (x : BitVec 64) : bv x % (2 : Int) = bv (x &&& 1#64) := bv_mod x 1 (by decide)
theorem bv64_mod256 (x : BitVec 64) : bv x % (256 : Int) = bv (x &&& 255#64) := bv_mod x 8 (by decide)
theorem bv8_beq0 (x : BitVec 8) : (bv x == (0 : Int)) = (x == 0#8) := bv_beq x 0#8
theorem bv8_beq1 (x : BitVec 8) : (bv x == (1 : Int)) = (x == 1#8) := bv_beq x 1#8
theorem bv32_beq0 (x : BitVec 32) : (bv x == (0 : Int)) = (x == 0#32) := bv_beq x 0#32
theorem bv32_beq1 (x : BitVec 32) : (bv x == (1 : Int)) = (x == 1#32) := bv_beq x 1#32
theorem bv64_beq0 (x : BitVec 64) : (bv x == (0 : Int)) = (x == 0#64) := bv_beq x 0#64
theorem bv64_beq1 (x : BitVec 64) : (bv x == (1 : Int)) = (x == 1#64) := bv_beq x 1#64
theorem bv8_bne0 (x : BitVec 8) : (bv x != (0 : Int)) = (x != 0#8) := bv_bne x 0#8
theorem bv64_bne0 (x : BitVec 64) : (bv x != (0 : Int)) = (x != 0#64) := bv_bne x 0#64
theorem ofInt_mul_pow {n m : Nat} (x : BitVec n) (k : Nat) : BitVec.ofInt m (bv x * (2 : Int) ^ k) = x.setWidth m <<< k := by
  apply BitVec.eq_of_toNat_eq
  have e : bv x * 2 ^ k = ((x.toNat * 2 ^ k : Nat) : Int) := by unfold bv; simp
  rw [e, BitVec.ofInt_natCast, BitVec.toNat_ofNat, BitVec.toNat_shiftLeft, BitVec.toNat_setWidth, Nat.shiftLeft_eq, Nat.mod_mul_mod]
theorem shl1 {n m : Nat} (x : BitVec n) : BitVec.ofInt m (bv x * (2 : Int)) = x.setWidth m <<< 1 := ofInt_mul_pow x 1
theorem shl4 {n m : Nat} (x : BitVec n) : BitVec.ofInt m (bv x * (16 : Int)) = x.setWidth m <<< 4 := ofInt_mul_pow x 4
theorem shl8 {n m : Nat} (x : BitVec n) : BitVec.ofInt m (bv x * (256 : Int)) = x.setWidth m <<< 8 := ofInt_mul_pow x 8
theorem shl16 {n m : Nat} (x : BitVec n) : BitVec.ofInt m (bv x * (65536 : Int)) = x.setWidth m <<< 16 := ofInt_mul_pow x 16
theorem shl24 {n m : Nat} (x : BitVec n) : BitVec.ofInt m (bv x * (16777216 : Int)) = x.setWidth m <<< 24 := ofInt_mul_pow x 24
theorem ofInt_neg_bv {n m : Nat} (x : BitVec n) : BitVec.ofInt m (-bv x) = -(x.setWidth m) := by
  rw [BitVec.ofInt_neg, ofInt_bv]
theorem ofInt_add_bv {n m : Nat} (x : BitVec n) (i : Int) : BitVec.ofInt m (bv x + i) = x.setWidth m + BitVec.ofInt m i := by
  rw [BitVec.ofInt_add, ofInt_bv]
theorem ofInt_sub_bv {n m : Nat} (x : BitVec n) (i : Int) : BitVec.ofInt m (bv x - i) = x.setWidth m - BitVec.ofInt m i := by
  rw [Int.sub_eq_add_neg, BitVec.ofInt_add, ofInt_bv, BitVec.ofInt_neg, ← BitVec.sub_eq_add_neg]
theorem i64_bv8 (x : BitVec 8) : IntKind.i64.wrap (bv x) = bv x := IntWalk.i64_in _ (by have := bv_nonneg x; have := bv8_lt x; omega)
theorem i64_bv32 (x : BitVec 32) : IntKind.i64.wrap (bv x) = bv x := IntWalk.i64_in _ (by have := bv_nonneg x; have := bv32_lt x; omega)
theorem i64_bv64 (x : BitVec 64) : IntKind.i64.wrap (bv x) = x.toInt := by
  rw [IntKind.wrap_i64]
  have h := BitVec.toInt_eq_toNat_cond x
  have hl := x.isLt
  unfold bv
  split at h <;> omega
attribute [go_sem] wrap8 wrap16 wrap32 wrap64u ofInt_bv bv_beq bv_bne xor8 and8 or8 xor32 and32 or32 xor64 and64 or64 max8 max32 max64 not32 not32' and8_all not8 not64 allOnes_xor' bv_shr bv_shr1 bv_shr4 bv_shr8 bv_shr16 bv_shr24 bv_shr31 bv_tdiv bv_tmod bv32_mod2 bv64_mod2 bv64_mod256 bv8_beq0 bv8_beq1 bv32_beq0 bv32_beq1 bv64_beq0 bv64_beq1 bv8_bne0 bv64_bne0 ofInt_mul_pow shl1 shl4 shl8 shl16 shl24 ofInt_neg_bv ofInt_add_bv ofInt_sub_bv i64_bv8 i64_bv32 i64_bv64
end Go.Proofs.Ytmmgnbdngpkfcaa

namespace Go.Proofs.Ytmmgnbdngpkfcaa
set_option linter.unusedVariables false
namespace Vw
abbrev Bs := List (BitVec 8)
/-- a message -/
structure Msg where
  kind : Int
  frm : Int
  to_ : Int
  shard : Int
  view : Int
  normal : Int
  at_ : Int
  commit : Int
  id : Int
  err : Int
  list : List Bs
  data : Bs
def Msg.z : Msg := ⟨0, 0, 0, 0, 0, 0, 0, 0, 0, 0, [], []⟩
structure Rc where
  kind : Int
  a : Int
  b : Int
  data : Bs
structure Keep where
  view : Int
  normal : Int
  log : List Bs
def lay (k : Keep) (r : Rc) : Keep :=
  if r.kind = 1 then { k with view := r.a, normal := r.b }
  else if r.kind = 2 then { k with log := k.log ++ [r.data] }
  else if r.kind = 3 then { k with log := k.log.take (min (max r.a 0) (k.log.length : Int)).toNat }
  else k
/-- a member; bugs are off -/
structure Core where
  me : Int
  n : Nat
  shard : Int
  pat : Int
  keep : Keep
  ch : Bool
  commit : Nat
  idle : Int
  has : Int → Int
  begun : Int → Bool
  dos : Int → Option Msg
  recs : List Rc
  msgs : List Msg
  done : List Bs
namespace Core
def new (me : Int) (n : Nat) (shard pat : Int) (k : Keep) : Core := ⟨me, n, shard, pat, k, k.view != k.normal, 0, 0, fun _ => 0, fun _ => false, fun _ => none, [], [], []⟩
end Core
def lead (view : Int) (n : Nat) : Int := view % (max (n : Int) 1) + 1
/-- how many of members 1 to n -/
def cnt (n : Nat) (p : Int → Bool) : Nat := ((List.range n).filter fun i : Nat => p ((i : Int) + 1)).length
namespace Core
variable (c : Core)
def most (k : Nat) : Bool := decide (c.n < 2 * k)
def rec_ (r : Rc) : Core := { c with keep := lay c.keep r, recs := c.recs ++ [r] }
def send (m : Msg) : Core := { c with msgs := c.msgs ++ [{ m with frm := c.me, shard := c.shard, view := c.keep.view }] }
/-- the others of members 1 to j -/
def others (j : Nat) : List Int := ((List.range j).map fun i : Nat => (i : Int) + 1).filter (· ≠ c.me)
def all (m : Msg) : Core := { c with msgs := c.msgs ++ (c.others c.n).map fun tt => { m with to_ := tt, frm := c.me, shard := c.shard, view := c.keep.view } }
def leads : Bool := !c.ch && decide (lead c.keep.view c.n = c.me)
def reach (k : Int) : Core :=
  let j := max c.commit (min k (c.keep.log.length : Int)).toNat
  { c with commit := j, done := c.done ++ (c.keep.log.take j).drop c.commit }
def held : List Int := (c.keep.log.length : Int) :: (c.others c.n).map c.has
def med (l : List Int) : Int := (l.mergeSort (fun a b => decide (a ≤ b))).getD ((l.length - 1) / 2) 0
def count : Core := if c.leads then c.reach (med c.held) else c
def cp : List Bs → List Bs → Nat
  | a :: l, b :: m => if a = b then cp l m + 1 else 0
  | _, _ => 0
def puts (l : List Bs) : Core := l.foldl (fun c b => c.rec_ ⟨2, 0, 0, b⟩) c
def adopt (log : List Bs) : Core :=
  let same := cp log c.keep.log
  let c1 := if same < c.keep.log.length then c.rec_ ⟨3, same, 0, []⟩ else c
  let c2 := c1.puts (log.drop same)
  let c3 := c2.rec_ ⟨1, c2.keep.view, c2.keep.view, []⟩
  { c3 with ch := false, idle := 0, has := fun _ => 0, begun := fun _ => false, dos := fun _ => none }
def bestS (acc : Msg × Int) (i : Nat) : Msg × Int :=
  match c.dos ((i : Int) + 1) with
  | none => acc
  | some m => (if m.normal > acc.1.normal ∨ (m.normal = acc.1.normal ∧ m.list.length > acc.1.list.length) then m else acc.1, max acc.2 m.commit)
def best : Msg × Int := (List.range c.n).foldl c.bestS ({ Msg.z with normal := -1 }, 0)
def begin_ : Core :=
  if c.most (cnt c.n fun x => (c.dos x).isSome) then
    let c1 := c.adopt c.best.1.list
    let c2 := c1.all { Msg.z with kind := 5, commit := c.best.2, list := c1.keep.log }
    (c2.reach c.best.2).count
  else c
def doMsg : Msg := { Msg.z with kind := 4, to_ := lead c.keep.view c.n, normal := c.keep.normal, commit := c.commit, list := c.keep.log }
def wanted : Core :=
  if c.most (cnt c.n c.begun) then
    if lead c.keep.view c.n ≠ c.me then c.send c.doMsg
    else { c with dos := fun x => if x = c.me then some c.doMsg else c.dos x }.begin_
  else c
def change (v : Int) : Core :=
  let c1 := c.rec_ ⟨1, v, c.keep.normal, []⟩
  let c2 := { c1 with ch := true, idle := 0, begun := fun x => decide (x = c.me), dos := fun _ => none, has := fun _ => 0 }
  (c2.all { Msg.z with kind := 3 }).wanted
def feedM (tt : Int) : Msg :=
  let at_ := min (c.has tt) (c.keep.log.length : Int)
  { Msg.z with kind := 1, to_ := tt, at_ := at_, commit := c.commit, list := (c.keep.log.drop at_.toNat).take 8 }
def feeds : Core := { c with msgs := c.msgs ++ (c.others c.n).map fun tt => { c.feedM tt with frm := c.me, shard := c.shard, view := c.keep.view } }
def tick : Core :=
  let c := { c with idle := c.idle + 1 }
  if c.leads then
    (if 2 ≤ c.idle then { c with idle := 0 }.feeds else c).count
  else if c.ch ∧ c.idle < 2 * c.pat then
    if c.idle % c.pat = 0 then ({ c with begun := fun x => decide (x = c.me) || c.begun x }.all { Msg.z with kind := 3 }).wanted else c
  else if c.ch ∨ c.idle ≥ c.pat + c.me then
    if c.keep.view < 1099511627776 then c.change (c.keep.view + 1) else c
  else c
def propose (b : Bs) : Core × Int :=
  if !c.leads then (c, 50)
  else if 4000 < b.length then (c, 3)
  else if 2000 ≤ c.keep.log.length then (c, 40)
  else (((c.rec_ ⟨2, 0, 0, b⟩).feeds).count, 0)
def prepS (m : Msg) (i : Nat) : Core :=
  match m.list[i]? with
  | some b => if m.at_ + i ≥ (c.keep.log.length : Int) ∧ c.keep.log.length < 2000 then c.rec_ ⟨2, 0, 0, b⟩ else c
  | none => c
def prep (m : Msg) : Core :=
  let c1 := { c with idle := 0 }
  let c2 := if m.at_ ≤ (c1.keep.log.length : Int) then ((List.range m.list.length).foldl (fun c i => c.prepS m i) c1).reach m.commit else c1
  c2.send { Msg.z with kind := 2, to_ := m.frm, at_ := c2.keep.log.length }
def started (m : Msg) : Core :=
  if m.view ≠ c.keep.view then c
  else if c.ch then
    if !c.begun m.frm then { c with begun := fun x => decide (x = m.frm) || c.begun x }.wanted else c
  else if c.leads then c.send { Msg.z with kind := 5, to_ := m.frm, commit := c.commit, list := c.keep.log }
  else c
def hears (m : Msg) : Bool := decide (m.to_ = c.me ∧ 1 ≤ m.frm ∧ m.frm ≤ c.n ∧ m.frm ≠ c.me ∧ m.shard = c.shard ∧ 0 ≤ m.view ∧ m.view ≤ 1099511627776 ∧ m.list.length ≤ 2000 ∧ m.normal ≤ m.view ∧ 0 ≤ m.at_ ∧ 1 ≤ m.kind ∧ m.kind ≤ 5)
def in_ (m : Msg) : Core :=
  if !c.hears m then c
  else if m.view < c.keep.view then
    if m.kind = 1 ∨ m.kind = 3 then c.send { Msg.z with kind := 3, to_ := m.frm } else c
  else
    let c1 := if m.view > c.keep.view ∧ m.kind ≠ 5 ∧ m.kind ≠ 2 then c.change m.view else c
    let ld := lead m.view c.n
    if m.kind = 3 then c1.started m
    else if m.kind = 4 ∧ m.view = c1.keep.view ∧ c1.ch = true ∧ ld = c1.me then { c1 with dos := fun x => if x = m.frm then some m else c1.dos x }.begin_
    else if m.kind = 5 ∧ m.frm = ld ∧ (m.view > c1.keep.view ∨ c1.ch = true) then
      let c2 := ({ c1 with keep := { c1.keep with view := m.view } }.adopt m.list).reach m.commit
      c2.send { Msg.z with kind := 2, to_ := ld, at_ := c2.keep.log.length }
    else if m.kind = 1 ∧ m.view = c1.keep.view ∧ c1.ch = false ∧ m.frm = ld then c1.prep m
    else if m.kind = 2 ∧ m.view = c1.keep.view ∧ c1.leads = true then
      ({ c1 with has := fun x => if x = m.frm then max (c1.has x) (min m.at_ (c1.keep.log.length : Int)) else c1.has x }).count
    else c1
def clear : Core := { c with recs := [], msgs := [], done := [] }
end Core
end Vw

end Go.Proofs.Ytmmgnbdngpkfcaa

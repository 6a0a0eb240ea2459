
/-
  Setups and scripts that come in; the law's own helpers; equal scripts.
-/
import Derived.Test.YtdpopdgeipgheaaDoorScrDec
import Derived.Test.YtdpopdgeipgheaaDoorScrRD
import Derived.Test.YtdpopdgeipgheaaDoorRef01
import Derived.BigQuiet
namespace Go.Proofs.YtdpopdgeipgheaaDoor
open Go.RowKit
set_option linter.unusedVariables false

/-- what is held besides lies in certain blocks -/
def EOk {α : Type} (p : Nat → Prop) (E : Enc α) : Enc α where
  sz := E.sz
  rep ok w cs x := E.rep (fun b => ok b ∧ p b) w cs x
  len h := E.len h
  one h := E.one h
  mono h hk := E.mono h fun k hk1 hlt => ⟨(hk k hk1.1 hlt).1, (hk k hk1.1 hlt).2, hk1.2⟩
theorem Sl.eok {α : Type} {E : Enc α} {p ok : Nat → Prop} {w : World} {a : Option Addr} {l : List α} (h : Sl E p w a l) (hp : ∀ b, p b → ok b) : Sl (EOk p E) ok w a l := by
  intro k x hx
  obtain ⟨b, o, e, hb, cs, hr, hc⟩ := h k x hx
  exact ⟨b, o, e, hp b hb, cs, E.mono (w' := w) hr fun q hq _ => ⟨rfl, hp q hq, hq⟩, hc⟩
theorem Own.sl_ok {α : Type} {E : Enc α} {p : Nat → Prop} {te : TypeId} {base : Nat} {w : World} {a : Option Addr} {n c : Nat} {l : List α} (h : Own (EOk p E) te base w (.slice a n c) l) : Sl E (fun b => p b ∨ (base ≤ b ∧ b < w.heap.size)) w a l := by
  rcases h with ⟨h0, rfl⟩ | ⟨g, cap, cur, hv, hg, hh, k1, k2, k3, k4⟩
  · exact Sl.nil _ _ _ _
  · injection hv with e1 e2 e3
    subst e1
    intro k x hx
    obtain ⟨cs, hr, hc⟩ := k4 k x hx
    refine ⟨g, 0, rfl, .inr ⟨hg, (Array.getElem?_eq_some_iff.1 hh).1⟩, cs, E.mono (w' := w) hr fun q hq _ => ⟨rfl, .inl hq.2⟩, fun j v hj => ?_⟩
    have := hc j v hj
    simp [World.cell?, hh]
    exact this
theorem readsE_struct {α : Type} {P : Program} {t : TypeId} {fs : Array Field} {E : Enc α} (h : P.underlying t = some (.struct fs)) (hc : P.cellsOf t = E.sz) (hr : ∃ m : α → Nat, FieldsRead P fs.toList 0 E m) : ∃ m : α → Nat, Reads P t E m := by
  obtain ⟨m, hr⟩ := hr; exact ⟨m, reads_struct h hc hr⟩
theorem fieldsE_cons {α β : Type} {P : Program} {f : Field} {fs : List Field} {off : Nat} {A : Enc α} {B : Enc β} (hr : ∃ m : α → Nat, Reads P f.type A m) (ho : f.offset = off) (hc : P.cellsOf f.type = A.sz) (hrest : ∃ n : β → Nat, FieldsRead P fs (off + A.sz) B n) : ∃ m : α × β → Nat, FieldsRead P (f :: fs) off (EPair A B) m := by
  obtain ⟨m, hr⟩ := hr; obtain ⟨n, hrest⟩ := hrest; exact ⟨_, fields_cons ho hc hr hrest⟩
theorem fieldsE_one {α : Type} {P : Program} {f : Field} {off : Nat} {E : Enc α} (hr : ∃ m : α → Nat, Reads P f.type E m) (ho : f.offset = off) (hc : P.cellsOf f.type = E.sz) : ∃ m : α → Nat, FieldsRead P [f] off E m := by
  obtain ⟨m, hr⟩ := hr; exact ⟨m, fields_one ho hc hr⟩
theorem readsE_int : ∃ m : Int → Nat, Reads Tryd.prog 3 EInt m := ⟨_, reads_int Tryd.underlying3⟩

theorem readsE_u64 : ∃ m : BitVec 64 → Nat, Reads Tryd.prog 22 EU64 m := ⟨_, reads_u64 Tryd.underlying22⟩
abbrev EPlanC : Enc (Int × Int × Int × Int × Int × Int) := EPair EInt (EPair EInt (EPair EInt (EPair EInt (EPair EInt EInt))))
theorem reads_planC : ∃ m : _ → Nat, Reads Tryd.prog 24 EPlanC m := by
  refine readsE_struct Tryd.underlying24 (by kernel_rfl) ?_
  refine fieldsE_cons readsE_int (by rfl) (by kernel_rfl) ?_
  refine fieldsE_cons readsE_int (by rfl) (by kernel_rfl) ?_
  refine fieldsE_cons readsE_int (by rfl) (by kernel_rfl) ?_
  refine fieldsE_cons readsE_int (by rfl) (by kernel_rfl) ?_
  refine fieldsE_cons readsE_int (by rfl) (by kernel_rfl) ?_
  exact fieldsE_one readsE_int (by rfl) (by kernel_rfl)
abbrev EConfC : Enc (Int × Int × Int × Int × Int × Int × Int × Int × Int × BitVec 64 × Int × Int × Int × Int × Int × Int) := EPair EInt (EPair EInt (EPair EInt (EPair EInt (EPair EInt (EPair EInt (EPair EInt (EPair EInt (EPair EInt (EPair EU64 EPlanC)))))))))
theorem reads_confC : ∃ m : _ → Nat, Reads Tryd.prog 26 EConfC m := by
  refine readsE_struct Tryd.underlying26 (by kernel_rfl) ?_
  refine fieldsE_cons readsE_int (by rfl) (by kernel_rfl) ?_
  refine fieldsE_cons readsE_int (by rfl) (by kernel_rfl) ?_
  refine fieldsE_cons readsE_int (by rfl) (by kernel_rfl) ?_
  refine fieldsE_cons readsE_int (by rfl) (by kernel_rfl) ?_
  refine fieldsE_cons readsE_int (by rfl) (by kernel_rfl) ?_
  refine fieldsE_cons readsE_int (by rfl) (by kernel_rfl) ?_
  refine fieldsE_cons readsE_int (by rfl) (by kernel_rfl) ?_
  refine fieldsE_cons readsE_int (by rfl) (by kernel_rfl) ?_
  refine fieldsE_cons readsE_int (by rfl) (by kernel_rfl) ?_
  refine fieldsE_cons readsE_u64 (by rfl) (by kernel_rfl) ?_
  exact fieldsE_one reads_planC (by rfl) (by kernel_rfl)
/-- a setup that comes in -/
def EConf : Enc Sc.Conf where
  sz := 16
  rep ok w cs x := x.1.length = 15 ∧ cs = (confCells x).toList ∧ ∀ i, i < 15 → Bts.i64 (Sc.cf x i)
  len h := by obtain ⟨_, rfl, _⟩ := h; rfl
  one h := by
    obtain ⟨_, rfl, _⟩ := h
    intro u hu
    exact (Array.all_eq_true_iff_forall_mem.1 (conf_one _)) u (by simpa using hu)
  mono h hk := h
theorem reads_conf : Reads Tryd.prog 26 EConf (fun _ => 1) := by
  obtain ⟨m, h⟩ := reads_confC
  intro H enc w fuel cs d ps hd
  obtain ⟨x, hx, _⟩ := h hd
  obtain ⟨x0, x1, x2, x3, x4, x5, x6, x7, x8, s, x9, x10, x11, x12, x13, x14⟩ := x
  refine ⟨([x0, x1, x2, x3, x4, x5, x6, x7, x8, x9, x10, x11, x12, x13, x14], s), ?_, bulk_pos _⟩
  obtain ⟨c0, r0, rfl, h0, c1, r1, rfl, h1, c2, r2, rfl, h2, c3, r3, rfl, h3, c4, r4, rfl, h4, c5, r5, rfl, h5, c6, r6, rfl, h6, c7, r7, rfl, h7, c8, r8, rfl, h8, cs, rs, rfl, hs, c9, r9, rfl, h9, c10, r10, rfl, h10, c11, r11, rfl, h11, c12, r12, rfl, h12, c13, r13, rfl, h13, h14⟩ := hx
  obtain rfl : c0 = [.int .i64 x0] := h0.1
  obtain rfl : c1 = [.int .i64 x1] := h1.1
  obtain rfl : c2 = [.int .i64 x2] := h2.1
  obtain rfl : c3 = [.int .i64 x3] := h3.1
  obtain rfl : c4 = [.int .i64 x4] := h4.1
  obtain rfl : c5 = [.int .i64 x5] := h5.1
  obtain rfl : c6 = [.int .i64 x6] := h6.1
  obtain rfl : c7 = [.int .i64 x7] := h7.1
  obtain rfl : c8 = [.int .i64 x8] := h8.1
  obtain rfl : c9 = [.int .i64 x9] := h9.1
  obtain rfl : c10 = [.int .i64 x10] := h10.1
  obtain rfl : c11 = [.int .i64 x11] := h11.1
  obtain rfl : c12 = [.int .i64 x12] := h12.1
  obtain rfl : c13 = [.int .i64 x13] := h13.1
  obtain rfl : r13 = [.int .i64 x14] := h14.1
  obtain rfl : cs = [.int .u64 (bv s)] := hs
  refine ⟨rfl, rfl, fun i hi => ?_⟩
  exact cases15 (P := fun i => Bts.i64 (Sc.cf ([x0, x1, x2, x3, x4, x5, x6, x7, x8, x9, x10, x11, x12, x13, x14], s) i)) i hi h0.2 h1.2 h2.2 h3.2 h4.2 h5.2 h6.2 h7.2 h8.2 h9.2 h10.2 h11.2 h12.2 h13.2 h14.2
theorem conf_val {w : World} {cs : Array Value} {x : Sc.Conf} (h : EConf.rep (fun _ => True) w cs.toList x) : cs = confCells x ∧ x.1.length = 15 := by
  obtain ⟨h1, h2, _⟩ := h
  exact ⟨Array.toList_inj.1 h2, h1⟩

set_option maxRecDepth 100000 in
set_option maxHeartbeats 1600000 in
theorem law14_conf (c : Sc.Conf) (w : World) :
    Calls Tryd.prog 12 #[.agg (confCells c)] w fun e w' => e = .returned (.agg (rcells c)) ∧ Below w.heap.size w w' := by
  unfold confCells
  go_enter Tryd.func12, Tryd.ntmps12
  go_wp2_with fail
  have e1 : (w.alloc (.cells (confCells c) 26)).heap.size = w.heap.size + 1 := by simp
  have h2 := heap_alloc_new (w.alloc (.cells (confCells c) 26)) (.cells (rcells c) 39)
  rw [e1] at h2
  refine bodyPost_ret (v := .agg (rcells c)) ?_ rfl ?_
  · exact results_cell_row (P := Tryd.prog) Tryd.results12 _ _ (w.heap.size + 1) 39 (rcells c) (0, 0) _ rfl h2 Tryd.underlying39 rfl (rconf_size _)
  · exact ⟨rfl, ((Below.refl _ _).alloc (Nat.le_refl _) _).alloc (by simp) _⟩
end Go.Proofs.YtdpopdgeipgheaaDoor


/-
  slices.Repeat of one number.
-/
import Derived.Test.YticpbiccgnfecaaGraS
namespace Go.Proofs.Yticpbiccgnfecaa
open Go.RowKit
set_option linter.unusedVariables false

theorem setRow_at {w : World} {g : Nat} {cs old : Array Value} {t : TypeId} {fr : Nat × Nat} (h : w.heap[g]? = some (.cells old t fr)) : (w.setRow g cs).heap[g]? = some (.cells cs t fr) := by
  simp [World.setRow, Array.getElem?_modify, h]
theorem setRow_belowB {B : Nat} {w0 w : World} {g : Nat} (h : Below B w0 w) (cs : Array Value) (hg : B ≤ g) : Below B w0 (w.setRow g cs) :=
  h.trans ⟨rfl, rfl, rfl, by simp [World.setRow], fun k hk => by
    simp only [World.setRow, Array.getElem?_modify]; rw [if_neg (by omega)]⟩

section
variable {P : Program} {w : World} {ops : Array Oper} {rest : List Oper} {o : Oper} {a : Act} {Q : Exit → Act → World → Prop}
theorem wpList_copy_row {s x : Operand} {t te : TypeId} {g o0 dLen dCap sLen sCap : Nat} {ad : Addr} {cur : Array Value} {tt : TypeId} (cs : List Value)
    (hgd : o.guard = none) (ho : o.op = .call { callee := .builtin .copy, args := #[s, x], argTypes := #[t, t] }) (hs : a.eval s = .slice (some ⟨g, o0, none⟩) dLen dCap) (hx : a.eval x = .slice (some ad) sLen sCap)
    (hu : P.underlying t = some (.slice te)) (hi : (P.info? te).map (·.size) = some 1)
    (hg : w.heap[g]? = some (.cells cur tt (0, 0))) (hn : cs.length = Nat.min sLen dLen) (hsrc : ∀ j v, cs[j]? = some v → w.cell? (ad.add j) = some v) (hfit : o0 + cs.length ≤ cur.size) (h1 : ∀ v ∈ cs, v.oneCell' = true)
    {m : Nat} (hm : cs.length = m) {cur' : Array Value} (hcur : (cur.toList.take o0 ++ cs ++ cur.toList.drop (o0 + cs.length)).toArray = cur')
    (h : ∀ w', w'.heap[g]? = some (.cells cur' tt (0, 0)) → (∀ B w0, Below B w0 w → B ≤ g → Below B w0 w') → wpList P ops Q rest (a.put o.dst (goInt m)) w') : wpList P ops Q (o :: rest) a w := by
  refine wpList_plain hgd fun K hK => ?_
  have hr := run_copy_row (P := P) w t t o.type te g o0 dLen dCap ad sLen sCap cur tt cs hu hi hg hn hsrc hfit h1
  unfold Oper.wp execOp
  simp only [ho, resolve, invoke, builtin, Sem.run_bind, Sem.run_pure, Result.andThen_ok, List.map_toArray, List.map_cons, List.map_nil, hs, hx, hr]
  rw [hcur, hm]
  exact hK _ _ (h _ (setRow_at hg) fun B w0 hb hB => setRow_belowB hb _ hB)
theorem step_copy_row {K : Act → World → Prop} {s x : Operand} {t te : TypeId} {g o0 dLen dCap sLen sCap : Nat} {ad : Addr} {cur : Array Value} {tt : TypeId} (cs : List Value)
    (ho : o.op = .call { callee := .builtin .copy, args := #[s, x], argTypes := #[t, t] }) (hs : a.eval s = .slice (some ⟨g, o0, none⟩) dLen dCap) (hx : a.eval x = .slice (some ad) sLen sCap)
    (hu : P.underlying t = some (.slice te)) (hi : (P.info? te).map (·.size) = some 1)
    (hg : w.heap[g]? = some (.cells cur tt (0, 0))) (hn : cs.length = Nat.min sLen dLen) (hsrc : ∀ j v, cs[j]? = some v → w.cell? (ad.add j) = some v) (hfit : o0 + cs.length ≤ cur.size) (h1 : ∀ v ∈ cs, v.oneCell' = true)
    {m : Nat} (hm : cs.length = m) {cur' : Array Value} (hcur : (cur.toList.take o0 ++ cs ++ cur.toList.drop (o0 + cs.length)).toArray = cur')
    (h : ∀ w', w'.heap[g]? = some (.cells cur' tt (0, 0)) → (∀ B w0, Below B w0 w → B ≤ g → Below B w0 w') → K (a.put o.dst (goInt m)) w') : o.wp P a w K Q := by
  have hr := run_copy_row (P := P) w t t o.type te g o0 dLen dCap ad sLen sCap cur tt cs hu hi hg hn hsrc hfit h1
  unfold Oper.wp execOp
  simp only [ho, resolve, invoke, builtin, Sem.run_bind, Sem.run_pure, Result.andThen_ok, List.map_toArray, List.map_cons, List.map_nil, hs, hx, hr]
  rw [hcur, hm]
  exact h _ (setRow_at hg) fun B w0 hb hB => setRow_belowB hb _ hB
end

theorem slice_from {P : Program} {t te : TypeId} {bytes : Nat} (ti : ElemInfo P t te 1 bytes) {g o n c i : Nat} (hi : i ≤ n) (hn : n ≤ c) (hc : i < c) (W : World) :
    (Instr.slice t (.slice (some ⟨g, o, none⟩) n c) (some (.int .i64 i)) none none).run P W = .ok (.slice (some ⟨g, o + i, none⟩) (n - i) (c - i)) W := by
  obtain ⟨i0, z, hi0, hz, hsz, hby, hzc⟩ := ti.info
  have e3 : (n : Int) ≤ (c : Int) := by omega
  have e4 : (i : Int) ≤ (n : Int) := by omega
  have e5 : ¬ (c = i) := by omega
  simp [Instr.slice, run_underlying ti.under, Instr.sliceBounds, run_sliceBound, sizeOf, typeInfo, hi0, hsz, hi, e5, Addr.add_lit]
theorem slice_to {P : Program} {t te : TypeId} {bytes : Nat} (ti : ElemInfo P t te 1 bytes) {g o n c i : Nat} (hi : i ≤ c) (h0 : 0 < c) (W : World) :
    (Instr.slice t (.slice (some ⟨g, o, none⟩) n c) none (some (.int .i64 i)) none).run P W = .ok (.slice (some ⟨g, o, none⟩) i c) W := by
  obtain ⟨i0, z, hi0, hz, hsz, hby, hzc⟩ := ti.info
  have e3 : (i : Int) ≤ (c : Int) := by omega
  have e5 : ¬ (c = 0) := by omega
  simp [Instr.slice, run_underlying ti.under, Instr.sliceBounds, run_sliceBound, sizeOf, typeInfo, hi0, hi, e5, Addr.add_lit]
/-- n cells, of which the first k are filled -/
def filC (z x : Value) (n k : Nat) : Array Value := (List.replicate k x ++ List.replicate (n - k) z).toArray
theorem filC_zero (z x : Value) (n : Nat) : madeCells #[z] n = filC z x n 0 := by
  unfold filC madeCells
  apply Array.ext_getElem?
  intro i
  by_cases h : i < n
  · simp [h, Nat.mod_one]
  · simp [h]
theorem filC_size (z x : Value) {n k : Nat} (h : k ≤ n) : (filC z x n k).size = n := by simp [filC]; omega
theorem filC_get (z x : Value) {n k i : Nat} (h : i < k) : (filC z x n k)[i]? = some x := by
  unfold filC; rw [List.getElem?_toArray, List.getElem?_append_left (by simpa using h)]; simp [h]
theorem filC_step (z x : Value) {n k m : Nat} (h : k + m ≤ n) : ((filC z x n k).toList.take k ++ List.replicate m x ++ (filC z x n k).toList.drop (k + m)).toArray = filC z x n (k + m) := by
  unfold filC
  congr 1
  have h1 : (List.replicate k x ++ List.replicate (n - k) z).take k = List.replicate k x := by rw [List.take_append_of_le_length (by simp)]; simp
  have h2 : (List.replicate k x ++ List.replicate (n - k) z).drop (k + m) = List.replicate (n - (k + m)) z := by
    rw [List.drop_append]; simp; omega
  rw [show ((List.replicate k x ++ List.replicate (n - k) z).toArray.toList) = List.replicate k x ++ List.replicate (n - k) z from rfl, h1, h2, List.replicate_append_replicate]
set_option maxRecDepth 4096 in
set_option maxHeartbeats 1600000 in
theorem repeat_one (B g0 c N : Nat) (x : Int) (w : World) (hB : w.heap.size = B) (hc : w.cell? ⟨g0, 0, none⟩ = some (.int .i64 x)) (hN0 : 0 < N) (hNl : N ≤ 1000000) :
    Calls Try.prog 35 #[.slice (some ⟨g0, 0, none⟩) 1 c, .int .i64 N] w fun e w' => e = .returned (.slice (some ⟨B, 0, none⟩) N N) ∧ Vec w' B 3 N (fun _ => .int .i64 x) ∧ Below B w w' := by
  have hNi : (0 : Int) < (N : Int) := by omega
  have hNj : (N : Int) ≤ 1000000 := by omega
  have hmk := run_make_row' (P := Try.prog) 23 3 (.int .i64 0) 8 Try.underlying23 (by kernel_rfl) rfl .i64 .i64 N (by omega) (by omega)
  have hh0 := heap_alloc_new w (.cells (madeCells #[.int .i64 0] N) 3)
  have hb0 := alloc_below w (.cells (madeCells #[.int .i64 0] N) 3)
  obtain ⟨w1, hw1⟩ : ∃ x, x = w.alloc (.cells (madeCells #[.int .i64 0] N) 3) := ⟨_, rfl⟩
  have hex1 := hw1.symm
  rw [← hw1] at hh0 hb0
  rw [filC_zero (.int .i64 0) (.int .i64 x) N, hB] at hh0
  have hc1 := cell_thru hc hb0
  rw [hB] at hb0
  have HB := Lib.hid hB
  clear hw1 hc
  have hbN : bv (BitVec.ofNat 64 N) = (N : Int) := by unfold bv; rw [BitVec.toNat_ofNat, Nat.mod_eq_of_lt (by omega)]
  have hm : ∀ W : World, Calls Try.prog 38 #[.int .u64 (bv 1#64), .int .u64 (bv (BitVec.ofNat 64 N))] W fun e w' => e = .returned (.tuple #[.int .u64 (bv 0#64), .int .u64 (bv (BitVec.ofNat 64 N))]) ∧ W = w' := fun W => by
    rw [hbN]
    refine (shf_bits_Mul 1 N (by decide) (by omega) W).mono ?_
    rintro e w' ⟨rfl, rfl⟩
    refine ⟨?_, rfl⟩
    rw [Nat.one_mul, Nat.div_eq_of_lt (by omega), Nat.mod_eq_of_lt (by omega)]; rfl
  have hbI : (BitVec.ofNat 64 N).toInt = (N : Int) := by rw [BitVec.toInt_eq_toNat_cond, BitVec.toNat_ofNat, Nat.mod_eq_of_lt (by omega), if_pos (by omega)]
  have hb0' : (0 : Int) < bv 0#64 ↔ False := by decide
  have hlo : decide (9223372036854775807 < bv (BitVec.ofNat 64 N)) = false := by rw [hbN]; simp; omega
  have HbN := Lib.hid hbN
  have Hm := Lib.hid hm
  clear hm hbN
  go_enter Try.func35, Try.ntmps35
  go_wp2_with fail
  refine (Hm.out _).mono ?_
  rintro e w' ⟨rfl, rfl⟩
  go_upto_region 7 with fail
  clear hmk hex1 hbI hb0' hlo Hm HbN hB
  have hi1 : (Try.prog.info? 3).map (·.size) = some 1 := by kernel_rfl
  have hsz : (filC (Value.int .i64 0) (Value.int .i64 x) N 0).size = N := filC_size _ _ (Nat.zero_le _)
  have Hst := Lib.hid (show ((filC (Value.int .i64 0) (Value.int .i64 x) N 0).toList.take 0 ++ List.replicate 1 (Value.int .i64 x) ++ (filC (Value.int .i64 0) (Value.int .i64 x) N 0).toList.drop (0 + (List.replicate 1 (Value.int .i64 x)).length)).toArray = filC (.int .i64 0) (.int .i64 x) N 1 by
    have := filC_step (.int .i64 0) (.int .i64 x) (n := N) (k := 0) (m := 1) (by omega)
    simpa using this)
  have Hi1 := Lib.hid hi1
  clear hi1
  go_wp2_with (refine wpList_copy_row (List.replicate 1 (Value.int .i64 x)) rfl rfl (by rfl) (by rfl) Try.underlying23 Hi1.out hh0 ?_ ?_ ?_ ?_ (m := 1) rfl Hst.out ?_)
  · simp [Nat.min_def]; omega
  · intro j v hj
    have hj0 : j = 0 := by have := (List.getElem?_eq_some_iff.1 hj).1; simp at this; exact this
    subst hj0
    simp at hj
    subst hj
    rw [Addr.add_lit]; exact hc1
  · rw [hsz]; simp; omega
  · intro v hv; rw [List.eq_of_mem_replicate hv]; rfl
  · intro w2 hh1 hb1'
    have hb1 := hb1' B w hb0 (Nat.le_refl _)
    clear hh0 hb0 hsz hc1 Hst hb1'
    go_wp2_with fail
    go_loopw [8] (fun v wr => ∃ k : Nat, 1 ≤ k ∧ k ≤ N ∧ v = .int .i64 k ∧ RowKit.Hid (wr.heap[B]? = some (.cells (filC (Value.int .i64 0) (Value.int .i64 x) N k) 3 (0, 0))) ∧ Below B w wr) (fun v _ => N - (intOf v).toNat)
    case atStart => exact ⟨1, Nat.le_refl _, by omega, rfl, Lib.hid hh1, hb1⟩
    case round =>
      clear hh1 hb1
      obtain ⟨k, hk1, hkN, rfl, hh, hb⟩ := hrel
      by_cases hlt : k < N
      · have hki : (k : Int) < (N : Int) := by omega
        have hk0 : (0 : Int) ≤ (k : Int) := by omega
        have hkle : (k : Int) ≤ (N : Int) := by omega
        have hcut := slice_from (P := Try.prog) ti_ints (g := B) (o := 0) (n := N) (c := N) (i := k) hkN (Nat.le_refl _) hlt
        rw [Nat.zero_add] at hcut
        have hcut2 := slice_to (P := Try.prog) ti_ints (g := B) (o := 0) (n := N) (c := N) (i := k) hkN hN0
        obtain ⟨q, hq⟩ : ∃ q, q = Nat.min k (N - k) := ⟨_, rfl⟩
        have hqk : q ≤ k := by rw [hq]; exact Nat.min_le_left _ _
        have hqN : q ≤ N - k := by rw [hq]; exact Nat.min_le_right _ _
        have hq1 : 1 ≤ q := by rw [hq]; show 1 ≤ min k (N - k); omega
        have Hq := Lib.hid hq
        have Hst := Lib.hid (show ((filC (Value.int .i64 0) (Value.int .i64 x) N k).toList.take k ++ List.replicate q (Value.int .i64 x) ++ (filC (Value.int .i64 0) (Value.int .i64 x) N k).toList.drop (k + (List.replicate q (Value.int .i64 x)).length)).toArray = filC (.int .i64 0) (.int .i64 x) N (k + q) by
          have := filC_step (.int .i64 0) (.int .i64 x) (n := N) (k := k) (m := q) (by omega)
          simpa using this)
        have Hcl : RowKit.Hid (∀ j, j < k → wr.cell? ⟨B, j, none⟩ = some (Value.int .i64 x)) := Lib.hid fun j hj => by simp [World.cell?, hh.out, filC_get (Value.int .i64 0) (Value.int .i64 x) (n := N) hj]
        clear hq
        have hwr : IntKind.i64.wrap ((k : Int) + (q : Int)) = (k : Int) + (q : Int) := IntWalk.i64_in _ (by omega)
        go_upto_region 9 with fail
        go_region_held3 (fun _ => True) (trivial) ((refine step_copy_row (List.replicate q (Value.int .i64 x)) (by rfl) (by rfl) (by rfl) Try.underlying23 Hi1.out hh.out (by rw [List.length_replicate]; exact Hq.out) (by intro j v hj; obtain ⟨hj1, hj2⟩ := List.getElem?_eq_some_iff.1 hj; rw [List.getElem_replicate] at hj2; subst hj2; rw [List.length_replicate] at hj1; rw [Addr.add_lit]; show wr.cell? ⟨B, 0 + j, none⟩ = _; rw [Nat.zero_add]; exact Hcl.out j (by omega)) (by rw [filC_size _ _ hkN]; simp; omega) (by intro v hv; rw [List.eq_of_mem_replicate hv]; rfl) (m := q) (by simp) Hst.out ?_; intro w3 hh3 hb3))
        all_goals
          have hbn := Lib.hid (hb3 B w hb.drew (Nat.le_refl _))
          have hhn := Lib.hid hh3
          clear hb3 hh3
          go_wp2_with fail
          go_roundw
          case rel => exact ⟨k + q, by omega, by omega, by go_num, hhn, hbn.out⟩
          case measure => simp [intOf]; omega
      · have hki : ¬ ((k : Int) < (N : Int)) := by omega
        obtain rfl : N = k := by omega
        have hv : Vec wr B 3 N (fun _ => .int .i64 x) := ⟨_, hh.out, by rw [filC_size _ _ (Nat.le_refl _)]; exact Nat.le_refl _, fun j hj => filC_get _ _ hj⟩
        clear hh
        go_wp2_with fail
        go_ret
        exact ⟨rfl, hv, hb⟩
end Go.Proofs.Yticpbiccgnfecaa

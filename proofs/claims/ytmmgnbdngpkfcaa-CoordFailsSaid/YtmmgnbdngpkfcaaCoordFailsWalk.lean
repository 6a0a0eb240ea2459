
/-
  The law CoordFails, walked.
-/
import Derived.Test.YtmmgnbdngpkfcaaCoFP
namespace Go.Proofs.Ytmmgnbdngpkfcaa
open Go.RowKit
set_option linter.unusedVariables false
theorem i64_and15' (n : Int) : bits .and .i64 n 15 = n % 16 := by
  have h : bits .and .i64 n 15 = IntKind.i64.wrap ((BitVec.ofInt 64 n &&& BitVec.ofInt 64 15).toNat : Int) := rfl
  rw [h, show BitVec.ofInt 64 15 = 15#64 from rfl]
  have h2 : (BitVec.ofInt 64 n &&& 15#64).toNat = (BitVec.ofInt 64 n).toNat % 16 := by
    rw [BitVec.toNat_and]
    exact Nat.and_two_pow_sub_one_eq_mod _ 4
  rw [h2, BitVec.toNat_ofInt]
  have h3 : 0 ≤ n % 18446744073709551616 := Int.emod_nonneg _ (by decide)
  rw [IntWalk.i64_in _ (by omega)]
  omega
theorem i64_and3 (n : Int) : bits .and .i64 n 3 = n % 4 := by
  have h : bits .and .i64 n 3 = IntKind.i64.wrap ((BitVec.ofInt 64 n &&& BitVec.ofInt 64 3).toNat : Int) := rfl
  rw [h, show BitVec.ofInt 64 3 = 3#64 from rfl]
  have h2 : (BitVec.ofInt 64 n &&& 3#64).toNat = (BitVec.ofInt 64 n).toNat % 4 := by
    rw [BitVec.toNat_and]
    exact Nat.and_two_pow_sub_one_eq_mod _ 2
  rw [h2, BitVec.toNat_ofInt]
  have h3 : 0 ≤ n % 18446744073709551616 := Int.emod_nonneg _ (by decide)
  rw [IntWalk.i64_in _ (by omega)]
  omega

def RightPost (l : List Co.Op) (B : Nat) (w : World) (e : Ending) (w' : World) : Prop := ∃ b, e = .returned (.bool b) ∧ Below B w w' ∧ (b = true → l.length ≤ 12 ∧ ∀ o ∈ l, 0 ≤ o.2.1 ∧ o.2.1 ≤ 15)
set_option maxRecDepth 4096 in
set_option maxHeartbeats 3200000 in
theorem co_right (a : Option Addr) (c : Nat) (l : List Co.Op) (w : World) (hs : Sl ECOp (fun _ => True) w a l) (hc : l.length ≤ c) (hm : c ≤ maxLen) :
    Calls Try.prog 16 #[.slice a l.length c] w (RightPost l w.heap.size w) := by
  obtain ⟨B, hB⟩ : ∃ B, B = w.heap.size := ⟨_, rfl⟩
  rw [← hB]
  obtain ⟨n, hn⟩ : ∃ n, n = l.length := ⟨_, rfl⟩
  rw [← hn] at hc ⊢
  unfold maxLen at hm
  have Hs := Lib.hid hs
  have Hn := Lib.hid hn
  have HB := Lib.hid hB
  clear hs hn hB
  go_enter Try.func16, Try.ntmps16
  by_cases h12 : 12 < n
  · have h12i : (12 : Int) < (n : Int) := by omega
    go_wp2_with fail
    go_ret
    exact ⟨false, rfl, Below.refl _ _, fun h => by cases h⟩
  · have h12i : ¬ ((12 : Int) < (n : Int)) := by omega
    go_wp2_with fail
    go_loopg [10] n (fun gn i wr => ∃ j : Nat, RowKit.Hid (gn = n - j) ∧ j ≤ n ∧ i = .int .i64 j ∧ RowKit.Hid (∀ q (hq : q < l.length), q < j → 0 ≤ l[q].2.1 ∧ l[q].2.1 ≤ 15) ∧ Below B w wr)
    case atStart => exact ⟨0, Lib.hid rfl, Nat.zero_le _, rfl, Lib.hid fun q hq h => by omega, Below.refl _ _⟩
    case round =>
      obtain ⟨j, hgn, hj, rfl, hall, hb⟩ := hrel
      have hsz : B ≤ wr.heap.size := by rw [HB.out]; exact hb.size
      by_cases hlt : j < n
      · have hji : (j : Int) < (n : Int) := by omega
        have hjl : j < l.length := by rw [← Hn.out]; exact hlt
        have hs' : Sl ECOp (fun _ => True) wr a l := Hs.out.below (by decide) (by rw [← HB.out]; exact hb)
        obtain ⟨b, o, rfl, _, p0, p1, p2, _, _, _⟩ := cop_at hs' j hjl
        obtain ⟨⟨x1, x2, x3⟩, hx⟩ : ∃ x, x = l[j] := ⟨_, rfl⟩
        rw [← hx] at p0 p1 p2
        dsimp only at p0 p1 p2
        have Hx := Lib.hid hx
        clear hx hs'
        obtain ⟨w4, hw4⟩ : ∃ x, x = wr.alloc (.cells #[.int .i64 x1, .int .i64 x2, .int .i64 x3] 47) := ⟨_, rfl⟩
        have hh4 : w4.heap[wr.heap.size]? = some (.cells #[.int .i64 x1, .int .i64 x2, .int .i64 x3] 47 (0, 0)) := by rw [hw4]; exact heap_alloc_new wr _
        have hb4 : Below wr.heap.size wr w4 := by rw [hw4]; exact alloc_below _ _
        obtain ⟨q, hq⟩ : ∃ q, q = wr.heap.size := ⟨_, rfl⟩
        rw [← hq] at hh4
        have k0 : w4.cell? ⟨q, 0, none⟩ = some (.int .i64 x1) := by simp [World.cell?, hh4]
        have k1 : w4.cell? ⟨q, 1, none⟩ = some (.int .i64 x2) := by simp [World.cell?, hh4]
        have hbB4 : Below B w w4 := hb.trans (hb4.mono hsz)
        have HbB4 := Lib.hid hbB4
        clear hb4 hh4 hb hbB4
        go_upto_region 6 with fail
        rw [← hw4, ← hq]
        clear hw4 hq p0 p1 p2
        by_cases hbad : (x1 ≠ 1 ∧ x1 ≠ 2) ∨ x2 < 0 ∨ 15 < x2
        · have hbad3 : (x1 ≠ 1 ∧ x1 ≠ 2) ∨ ((x1 = 1 ∨ x1 = 2) ∧ x2 < 0) ∨ ((x1 = 1 ∨ x1 = 2) ∧ ¬ x2 < 0 ∧ 15 < x2) := by omega
          rcases hbad3 with ⟨h1, h2⟩ | ⟨rfl | rfl, h2⟩ | ⟨rfl | rfl, h2, h3⟩
          · have h1b : (x1 == 1) = false := by simpa using h1
            have h2b : (x1 == 2) = false := by simpa using h2
            clear hbad
            go_wp2_with fail
            go_ret
            exact ⟨false, rfl, HbB4.out, fun h => by cases h⟩
          all_goals
            clear hbad
            go_wp2_with fail
            go_ret
            exact ⟨false, rfl, HbB4.out, fun h => by cases h⟩
        · have hk : x1 = 1 ∨ x1 = 2 := by omega
          have h2 : ¬ x2 < 0 := by omega
          have h3 : ¬ 15 < x2 := by omega
          clear hbad
          rcases hk with rfl | rfl
          all_goals
            go_wp2_with fail
            go_roundg (n - (j + 1))
            case measure => rw [hgn.out]; omega
            case rel => exact ⟨j + 1, Lib.hid rfl, by omega, by go_num, Lib.hid fun q hq h => by
              by_cases hqj : q = j
              · subst hqj; rw [← Hx.out]; exact ⟨by omega, by omega⟩
              · exact hall.out q hq (by omega), HbB4.out⟩
      · have hji : ¬ ((j : Int) < (n : Int)) := by omega
        go_wp2_with fail
        go_ret
        refine ⟨true, rfl, hb, fun _ => ⟨by have := Hn.out; omega, fun o ho => ?_⟩⟩
        obtain ⟨q, hq, rfl⟩ := List.mem_iff_getElem.1 ho
        exact hall.out q hq (by have := Hn.out; omega)
def hdF (hd : Int → Bool) : Int → Option Value := fun z => if hd z = true then some (.bool true) else none
theorem hdF_put (hd : Int → Bool) (k : Int) : updM (hdF hd) k (some (.bool true)) = hdF (Co.updH hd k true) := by
  funext z
  unfold updM hdF Co.updH
  by_cases h : z = k <;> simp [h]
theorem hdF_drop (hd : Int → Bool) (k : Int) : updM (hdF hd) k none = hdF (Co.updH hd k false) := by
  funext z
  unfold updM hdF Co.updH
  by_cases h : z = k <;> simp [h]
theorem hdF_none : hdF (fun _ => false) = fun _ => none := by
  funext z
  rfl
theorem f_shard {T : Co.Tx} {i : Int} {rf : Bool} {hd : Int → Bool} (h : Co.FInv T i rf hd) (h8 : T.stage ≠ 8) (hk : Co.kindOf T.stage = 3 ∨ Co.kindOf T.stage = 5) : 0 ≤ (Co.nextA T).1.shard ∧ (Co.nextA T).1.shard ≤ 4 := by
  obtain ⟨_, _, _, hsd, _⟩ := Co.f_next h h8
  have hsh := h.sh
  rcases h.b.how with ⟨hs, _⟩ | ⟨hs, _⟩ | ⟨hs, hrf, hr, hh, g1, g2, g3, hi⟩ | ⟨hs, _⟩ | ⟨hs, _⟩ | ⟨hs, r1, r2, hh, g1, g2, hi⟩ | ⟨hs, _⟩
  · rw [hs] at hk; exact absurd hk (by decide)
  · rw [hs] at hk; exact absurd hk (by decide)
  · rw [hsd (.inl hs)]; omega
  · rw [hs] at hk; exact absurd hk (by decide)
  · rw [hs] at hk; exact absurd hk (by decide)
  · rw [hsd (.inr hs)]; omega
  · exact absurd hs h8
theorem own_sl {te base : Nat} {w : World} {a : Option Addr} {n c : Nat} {l : List Int} (h : Own EInt te base w (.slice a n c) l) : Sl EInt (fun k => base ≤ k) w a l := by
  rcases h with ⟨h1, rfl⟩ | ⟨g, cap, cur, hv, hg, hh, h1, h2, h3, h4⟩
  · exact Sl.nil _ _ _ _
  · injection hv with e1 e2 e3
    intro k x hx
    obtain ⟨cs, hr, hc⟩ := h4 k x hx
    refine ⟨g, 0, e1, hg, cs, hr, fun j v hj => ?_⟩
    simp [World.cell?, hh, hc j v hj]
theorem own_slx {S : Nat} {w w' : World} {a : Option Addr} {l : List Int} (h : Sl EInt (fun k => S + 1 ≤ k) w a l) (ho : Only (fun b => b = S) w w') : Sl EInt (fun k => S ≤ k) w' a l :=
  h.mono (by decide) fun k hk hlt => ⟨ho.block k hlt (by omega), by omega⟩
/-- what holds at the loop's head -/
def FRel (B C S g hm : Nat) (ops : List Co.Op) (w : World) (k : Nat) (rf : Bool) (wr : World) : Prop :=
  ∃ T hd, Co.FInv T k rf hd ∧ T.ops = ops ∧ TxB C S wr g T ∧ IMap wr hm k (hdF hd) ∧ Below B w wr
theorem wpList_imap_delete {P : Program} {w : World} {ops : Array Oper} {rest : List Oper} {o : Oper} {a : Act} {Q : Exit → Act → World → Prop}
    (hg : o.guard = none) (m x : Operand) (t k : TypeId) (hop : o.op = Op.call { callee := Callee.builtin Builtin.delete, args := #[m, x], argTypes := #[t, k] })
    (b : Nat) (key : Value) (hm : a.eval m = .map (some b)) (hx : a.eval x = key) (w' : World) (hr : (Builtin.delete_ #[t, k] o.type #[.map (some b), key]).run P w = .ok (.tuple #[]) w')
    (hK : wpList P ops Q rest (a.put o.dst (.tuple #[])) w') : wpList P ops Q (o :: rest) a w := by
  refine wpList_plain hg fun K' hK' => ?_
  unfold Oper.wp
  simp [execOp, hop, resolve, invoke, builtin, hm, hx, hr, Result.andThen]
  exact hK' _ _ hK

set_option maxRecDepth 100000 in
set_option maxHeartbeats 12800000 in
theorem law_CoordFails (a0 : Option Addr) (c0 : Nat) (ops : List Co.Op) (ser : Bool) (shp atp ep : Int) (w : World) (hs0 : Sl ECOp (fun _ => True) w a0 ops) (hc0 : ops.length ≤ c0) (hm0 : c0 ≤ maxLen)
    (h2 : -9223372036854775808 ≤ shp ∧ shp ≤ 9223372036854775807) (h3 : -9223372036854775808 ≤ atp ∧ atp ≤ 9223372036854775807) (h4 : -9223372036854775808 ≤ ep ∧ ep ≤ 9223372036854775807) :
    Calls Try.prog 3 #[.slice a0 ops.length c0, .bool ser, .int .i64 shp, .int .i64 atp, .int .i64 ep] w fun e w' => e = .returned (.bool true) ∧ Below w.heap.size w w' := by
  obtain ⟨B, hB⟩ : ∃ B, B = w.heap.size := ⟨_, rfl⟩
  rw [← hB]
  obtain ⟨n, hn⟩ : ∃ n, n = ops.length := ⟨_, rfl⟩
  rw [← hn] at hc0 ⊢
  have hand3 := i64_and3 shp
  have hand15 := i64_and15' atp
  obtain ⟨sh, hsh⟩ : ∃ s, s = shp % 4 := ⟨_, rfl⟩
  obtain ⟨at_, hat⟩ : ∃ s, s = atp % 16 := ⟨_, rfl⟩
  rw [← hsh] at hand3
  rw [← hat] at hand15
  have hsr : 0 ≤ sh ∧ sh ≤ 3 := by omega
  have hadd1 : IntKind.i64.wrap (1 + sh) = 1 + sh := IntWalk.i64_in _ (by omega)
  have Hs0 := Lib.hid hs0
  have Hn := Lib.hid hn
  have HB := Lib.hid hB
  clear hsh hat hs0 hn hB
  go_enter Try.func3, Try.ntmps3
  go_wp2_with fail
  refine (law22_head w).mono ?_
  rintro e w1 ⟨rfl, hb1⟩
  rw [← HB.out] at hb1
  have hs1 : Sl ECOp (fun _ => True) w1 a0 ops := Hs0.out.below (by decide) (by rw [← HB.out]; exact hb1)
  have HR := Lib.hid (co_right a0 c0 ops w1 hs1 (by rw [← Hn.out]; exact hc0) hm0)
  have Hb1 := Lib.hid hb1
  have hz1 : B ≤ w1.heap.size := by rw [HB.out]; exact hb1.size
  clear hb1 hs1
  go_wp2_with fail
  rw [Hn.out]
  refine HR.out.mono ?_
  rintro e w2 ⟨b, rfl, hb2, hright⟩
  rw [← Hn.out]
  have Hb2 := Lib.hid (Hb1.out.trans (hb2.mono hz1))
  have hz2 : B ≤ w2.heap.size := Nat.le_trans hz1 hb2.size
  have Hright := Lib.hid hright
  clear hb2 HR hright
  by_cases hskip : b = false ∨ ep ≤ 0 ∨ ep = 60
  · have hskip3 : b = false ∨ (b = true ∧ ep ≤ 0) ∨ (b = true ∧ ¬ ep ≤ 0 ∧ ep = 60) := by
      cases b
      · exact .inl rfl
      · rcases hskip with h | h | h
        · cases h
        · exact .inr (.inl ⟨rfl, h⟩)
        · exact .inr (.inr ⟨rfl, by omega, h⟩)
    clear hskip
    rcases hskip3 with rfl | ⟨rfl, he⟩ | ⟨rfl, he, rfl⟩
    all_goals
      go_wp2_with fail
      go_ret
      exact ⟨rfl, Hb2.out⟩
  · have hbt : b = true := by cases b; exact absurd (.inl rfl) hskip; rfl
    subst hbt
    have he0 : ¬ ep ≤ 0 := fun h => hskip (.inr (.inl h))
    have he60 : (ep == 60) = false := by simpa using fun h => hskip (.inr (.inr h))
    obtain ⟨hn12, hkeys⟩ := Hright.out rfl
    have hs2 : Sl ECOp (fun _ => True) w2 a0 ops := Hs0.out.below (by decide) (by rw [← HB.out]; exact Hb2.out)
    obtain ⟨C, hC⟩ : ∃ C, C = w2.heap.size := ⟨_, rfl⟩
    have HC := Lib.hid (b_CNew 9 a0 n c0 ops ser (1 + sh) 1 C w2 hC hs2 Hn.out hc0 (by rw [Hn.out]; exact hn12) hkeys)
    have hBC : B ≤ C := by rw [hC]; exact hz2
    clear hskip hs2 hkeys hC hn12 Hright
    go_wp2_with fail
    refine HC.out.mono ?_
    rintro e w3 ⟨g, rfl, hT3, hb3⟩
    obtain ⟨S, hS⟩ : ∃ S, S = w3.heap.size := ⟨_, rfl⟩
    rw [← hS] at hT3
    have hmm := @run_makeMap Try.prog
    obtain ⟨w4, hw4⟩ : ∃ x, x = w3.alloc (.map #[] 0) := ⟨_, rfl⟩
    have hm4 : IMap w4 w3.heap.size 0 (hdF fun _ => false) := by rw [hw4, hdF_none]; exact IMap.made w3
    have hb4 : Below w3.heap.size w3 w4 := by rw [hw4]; exact alloc_below _ _
    have hT4 := hT3.keep (by rw [hS]; exact hb4)
    have hCS : C ≤ S := hT3.low
    have hrel0 : FRel B C S g S ops w 0 false w4 := by
      refine ⟨_, fun _ => false, Co.f_new ops ser (1 + sh) (by omega), rfl, hT4, by rw [hS]; exact hm4, Hb2.out.trans ((hb3.mono hBC).trans (hb4.mono (by omega)))⟩
    have Hrel0 := Lib.hid hrel0
    clear hT3 hb3 hm4 hb4 hT4 hrel0 HC
    go_upto_region 10 with fail
    rw [← hw4, ← hS]
    clear hw4 hmm hS
    go_wp2_with fail
    go_loopg [12, 14] 16 (fun gn r i wr => ∃ (k : Nat) (rf : Bool), RowKit.Hid (gn = 16 - k) ∧ k ≤ 15 ∧ i = .int .i64 k ∧ r = .bool rf ∧ RowKit.Hid (FRel B C S g S ops w k rf wr))
    case atStart => exact ⟨0, false, Lib.hid rfl, by decide, rfl, rfl, Hrel0⟩
    case round =>
      clear Hrel0
      obtain ⟨k, rf, hgn, hk, rfl, rfl, hR⟩ := hrel
      obtain ⟨T, hd, hF, hops, hT, hM, hb⟩ := hR.out
      have hk60 : (k : Int) < 60 := by omega
      have HF := Lib.hid hF
      have Hops := Lib.hid hops
      have HT := Lib.hid hT
      have HM := Lib.hid hM
      have Hb := Lib.hid hb
      have hadd : IntKind.i64.wrap ((k : Int) + 1) = (k : Int) + 1 := IntWalk.i64_in _ (by omega)
      clear hF hops hT hM hb hR
      go_wp2_with fail
      refine (b_COver wr HT.out).mono ?_
      rintro e wt ⟨hev, rfl⟩
      by_cases h8 : T.stage = 8
      · rw [show (T.stage == 8) = true by simpa using h8] at hev
        subst hev
        obtain ⟨r1, r2, r3⟩ := Co.f_over HF.out h8
        have R1 := Lib.hid r1
        have R2 := Lib.hid r2
        have h8b : (T.stage == 8) = true := by simpa using h8
        have H8 := Lib.hid h8b
        have HC := Lib.hid (b_CResult wr HT.out)
        have hM0 : IMap wr S k (fun _ => none) := by
          have := HM.out
          have e : hdF hd = fun _ => none := by funext z; unfold hdF; rw [r3 z]; rfl
          rw [e] at this
          exact this
        have HM0 := Lib.hid hM0
        clear r1 r2 r3 h8 h8b hM0
        go_wp2_with fail
        refine HC.out.mono ?_
        rintro e w5 ⟨v, rfl, hov, hb5⟩
        have hT5 := HT.out.keep (hb5.mono HT.out.size)
        have hM5 : IMap w5 S k (fun _ => none) := HM0.out.keep (hb5.block S HM0.out.lt)
        obtain ⟨m, hlen, hcard, _⟩ := hM5.len (t := 28) Try.underlying28 3
        have hm0 : m = 0 := hcard.unique Card.zero
        subst hm0
        obtain ⟨tn, htn⟩ : ∃ q, q = (Co.told T).length := ⟨_, rfl⟩
        obtain ⟨av, cv, rfl, _, _, _, _⟩ := hov.shape tn htn
        have htl : rf = false → tn = n := fun h => by
          rw [htn, Hn.out, ← Hops.out]
          unfold Co.told
          rw [if_pos (R2.out h)]
          exact Co.tellGo_len _ _ _
        have HT5 := Lib.hid hT5
        have hb0 := Hb.out.trans (hb5.mono (Nat.le_trans hBC (Nat.le_trans hCS HT.out.size)))
        have Hb5 := Lib.hid hb0
        have Htl := Lib.hid htl
        clear hT5 hM5 hcard hov hb5 htn hb0 htl HC
        obtain ⟨rs, hrs⟩ : ∃ r, r = T.res := ⟨_, rfl⟩
        have hrs3 : (rf = true ∧ rs = 3) ∨ (rf = false ∧ rs = 2) := by
          cases rf
          · exact .inr ⟨rfl, hrs.trans (R2.out rfl)⟩
          · exact .inl ⟨rfl, hrs.trans (R1.out rfl)⟩
        rw [← hrs]
        have hD : RowKit.Hid ((T.doubt && T.res == 0) = false) := Lib.hid (by
          rcases hrs3 with ⟨_, h⟩ | ⟨_, h⟩ <;> rw [← hrs, h] <;> cases T.doubt <;> rfl)
        clear hrs
        rcases hrs3 with ⟨rfl, rfl⟩ | ⟨rfl, rfl⟩
        · go_wp2_with fail
          refine (b_COver w5 HT5.out).mono ?_
          rw [H8.out]
          rintro e wt ⟨rfl, rfl⟩
          go_wp2_with fail
          refine (b_CDoubt w5 HT5.out).mono ?_
          rw [hD.out]
          rintro e wt ⟨rfl, rfl⟩
          go_wp2_with fail
          go_ret
          exact ⟨rfl, Hb5.out⟩
        · obtain rfl : tn = n := Htl.out rfl
          go_wp2_with fail
          refine (b_COver w5 HT5.out).mono ?_
          rw [H8.out]
          rintro e wt ⟨rfl, rfl⟩
          go_wp2_with fail
          refine (b_CDoubt w5 HT5.out).mono ?_
          rw [hD.out]
          rintro e wt ⟨rfl, rfl⟩
          go_wp2_with fail
          go_ret
          exact ⟨rfl, Hb5.out⟩
      · rw [show (T.stage == 8) = false by simpa using h8] at hev
        subst hev
        obtain ⟨f1, f2, _⟩ := Co.f_next HF.out h8
        obtain ⟨f3, f4⟩ := Co.f_ask HF.out h8
        obtain ⟨kd, hkd⟩ : ∃ x, x = Co.kindOf T.stage := ⟨_, rfl⟩
        rw [← hkd] at f2 f3 f4
        have hkd5 : kd = 1 ∨ kd = 2 ∨ kd = 3 ∨ kd = 4 ∨ kd = 5 := by
          rw [hkd]
          unfold Co.kindOf
          repeat' split
          all_goals simp
        obtain ⟨A, hA⟩ : ∃ A, A = (Co.nextA T).1 := ⟨_, rfl⟩
        rw [← hA] at f2 f3
        obtain ⟨nr, hnr⟩ : ∃ q, q = A.reads.length := ⟨_, rfl⟩
        have HC : RowKit.Hid (Calls Try.prog 19 #[.pointer (some ⟨g, 0, none⟩)] wr fun e w' => ∃ aw cw ar cr, e = .returned (.tuple #[.agg #[.int .i64 A.shard, .int .i64 kd, .int .i64 A.txn, .int .i64 A.home, .int .i64 A.start, .slice aw A.writes.length cw, .slice ar nr cr, .int .i64 A.e.t, .bool A.e.c, .int .i64 A.e.a], .bool true]) ∧ nr ≤ 12 ∧ TxB C S w' g (Co.nextT T) ∧ Only (fun k => C ≤ k ∧ k < S) wr w') := Lib.hid ((b_CNext wr HT.out).mono fun e w' ⟨aw, cw, ar, cr, h1, h2, h3, h4⟩ => ⟨aw, cw, ar, cr, by rw [h1, f1, ← hA, f2, hnr], by rw [hnr, hA]; exact h2, h3, h4⟩)
        have Hkd := Lib.hid hkd
        have HA := Lib.hid hA
        have Hnr := Lib.hid hnr
        have F3 := Lib.hid f3
        have F4 := Lib.hid f4
        have H8 := Lib.hid h8
        clear f1 f2 f3 f4 hkd hA hnr h8
        go_wp2_with fail
        refine HC.out.mono ?_
        rintro e w5 ⟨aw, cw, ar, cr, rfl, hnr12, hT5, ho5⟩
        obtain ⟨w6, hw6⟩ : ∃ x, x = w5.alloc (.cells #[.int .i64 A.shard, .int .i64 kd, .int .i64 A.txn, .int .i64 A.home, .int .i64 A.start, .slice aw A.writes.length cw, .slice ar nr cr, .int .i64 A.e.t, .bool A.e.c, .int .i64 A.e.a] 37) := ⟨_, rfl⟩
        have hh6 : w6.heap[w5.heap.size]? = some (.cells #[.int .i64 A.shard, .int .i64 kd, .int .i64 A.txn, .int .i64 A.home, .int .i64 A.start, .slice aw A.writes.length cw, .slice ar nr cr, .int .i64 A.e.t, .bool A.e.c, .int .i64 A.e.a] 37 (0, 0)) := by rw [hw6]; exact heap_alloc_new w5 _
        have hb6 : Below w5.heap.size w5 w6 := by rw [hw6]; exact alloc_below _ _
        obtain ⟨q, hq⟩ : ∃ q, q = w5.heap.size := ⟨_, rfl⟩
        rw [← hq] at hh6
        have hz6 : w6.heap.size = q + 1 := by rw [hw6, hq]; simp
        obtain ⟨w7, hw7⟩ : ∃ x, x = w6.alloc (.cells #[.int .i64 0, .slice none 0 0, .int .i64 ((k : Int) + 1), .int .i64 0, .int .i64 0, .int .i64 A.e.t, .bool A.e.c, .int .i64 A.e.a] 41) := ⟨_, rfl⟩
        have hh7 : w7.heap[w6.heap.size]? = some (.cells #[.int .i64 0, .slice none 0 0, .int .i64 ((k : Int) + 1), .int .i64 0, .int .i64 0, .int .i64 A.e.t, .bool A.e.c, .int .i64 A.e.a] 41 (0, 0)) := by rw [hw7]; exact heap_alloc_new w6 _
        have hb7 : Below w6.heap.size w6 w7 := by rw [hw7]; exact alloc_below _ _
        rw [hz6] at hh7
        have hSq : S < q := by rw [hq]; exact Nat.lt_of_lt_of_le HM.out.lt ho5.size
        have q7 : w6.cell? ⟨q, 7, none⟩ = some (.int .i64 A.e.t) := by simp [World.cell?, hh6]
        have q8 : w6.cell? ⟨q, 8, none⟩ = some (.bool A.e.c) := by simp [World.cell?, hh6]
        have q9 : w6.cell? ⟨q, 9, none⟩ = some (.int .i64 A.e.a) := by simp [World.cell?, hh6]
        have hb57 : Below w5.heap.size w5 w7 := hb6.trans (hb7.mono hb6.size)
        have hT7 := hT5.keep (hb57.mono hT5.size)
        have hM7 : IMap w7 S k (hdF hd) := HM.out.keep ((hb57.block S (by omega)).trans (ho5.block S HM.out.lt (by omega)))
        have hBb7 : Below B w w7 := Hb.out.trans ((ho5.below (Nat.le_trans hBC (Nat.le_trans hCS HT.out.size)) (fun k hk => by omega)).trans (hb57.mono (by omega)))
        have hhq7 : w7.heap[q]? = _ := (hb7.block q (by omega)).trans hh6
        have hz7 : w7.heap.size = q + 2 := by rw [hw7]; simp; omega
        have HT7 := Lib.hid hT7
        have HM7 := Lib.hid hM7
        have HBb7 := Lib.hid hBb7
        have Hhq7 := Lib.hid hhq7
        have Hh7 := Lib.hid hh7
        have Hz6 := Lib.hid hz6
        clear hT5 ho5 hh6 hh7 hb6 hb7 hb57 hT7 hM7 hBb7 hhq7 HC
        go_upto_region 16 with fail
        rw [← hw6, ← hq]
        clear hw6 hq hz6
        go_upto_region 17 with fail
        rw [← hw7, Hz6.out]
        clear hw7 q7 q8 q9
        have q6r : w7.cell? ⟨q, 6, none⟩ = some (.slice ar nr cr) := by simp [World.cell?, Hhq7.out]
        go_wp2_with fail
        clear q6r
        have HG := Lib.hid hgn
        clear hgn
        obtain ⟨wo, rfl⟩ : ∃ x : World, x = wr := ⟨_, rfl⟩
        go_loopg [71] nr (fun gn i w' => ∃ (j : Nat) (av : Option Addr) (cv : Nat), RowKit.Hid (gn = nr - j) ∧ j ≤ nr ∧ i = .int .i64 j ∧ RowKit.Hid (w'.heap[q + 1]? = some (.cells #[.int .i64 0, .slice av j cv, .int .i64 ((k : Int) + 1), .int .i64 0, .int .i64 0, .int .i64 A.e.t, .bool A.e.c, .int .i64 A.e.a] 41 (0, 0))) ∧ RowKit.Hid (Own EInt 3 (q + 2) w' (.slice av j cv) (List.replicate j 0)) ∧ RowKit.Hid (Only (fun b => b = q + 1) w7 w') ∧ q + 2 ≤ w'.heap.size)
        case atStart => exact ⟨0, none, 0, Lib.hid rfl, Nat.zero_le _, rfl, Hh7, Lib.hid (Own.nil _ _ _ _), Lib.hid (Only.refl _ _), by omega⟩
        case round =>
          obtain ⟨j, av, cv, hgj, hj, rfl, hrow, hown, honly, hzr⟩ := hrel
          by_cases hlt : j < nr
          · have hji : (j : Int) < (nr : Int) := by omega
            have hb7 : Below wr.heap.size wr (wr.alloc (.cells #[.int .i64 0] 3)) := alloc_below _ _
            have ho7 := hown.out.below hb7
            have hsl7 : Sl EInt (fun b => some b ≠ (Value.slice av j cv).ownBlock) (wr.alloc (.cells #[.int .i64 0] 3)) (some ⟨wr.heap.size, 0, none⟩) [0] := sl_one (heap_alloc_new wr _) ⟨rfl, by decide, by decide⟩ hown.out.fresh
            have k1 : wr.cell? ⟨q + 1, 1, none⟩ = some (.slice av j cv) := by simp [World.cell?, hrow.out]
            have hrl : (List.replicate j (0 : Int)).length = j := List.length_replicate
            have Hrl := Lib.hid hrl
            clear hrl
            go_wp2_with (first
              | (refine wpList_app EInt rfl rfl (by rfl) (by rfl) ti_cints ho7 rfl hsl7 (by rw [Hrl.out]; unfold maxLen; simp; omega) (by rw [Hrl.out]; simp; omega) (by simp; omega) ?_
                 intro v8 w8 ho8 hg8 hv8 hb8
                 obtain ⟨a8, c8, rfl, hc8, hm8, hr8, ho8'⟩ := ho8.shape (j + 1) (by simp)
                 have k2 : w8.cell? ⟨q + 1, 1, none⟩ = some (.slice av j cv) := by rw [hb8.cell (p := ⟨q + 1, 1, none⟩) (Nat.lt_succ_self (q + 1))]; exact cell_thru k1 hb7
                 have kf : w8.frozen? ⟨q + 1, 1, none⟩ = false := by rw [hb8.frozen (p := ⟨q + 1, 1, none⟩) (Nat.lt_succ_self (q + 1)), hb7.frozen (p := ⟨q + 1, 1, none⟩) (by simp; omega)]; simp [World.frozen?, hrow.out]))
            have hr9 : (w8.setCell ⟨q + 1, 1, none⟩ (.slice a8 (j + 1) c8)).heap[q + 1]? = some (.cells #[.int .i64 0, .slice a8 (j + 1) c8, .int .i64 ((k : Int) + 1), .int .i64 0, .int .i64 0, .int .i64 A.e.t, .bool A.e.c, .int .i64 A.e.a] 41 (0, 0)) := heap_set ((hb8.block (q + 1) (Nat.lt_succ_self _)).trans ((hb7.block (q + 1) (by omega)).trans hrow.out)) 1 _
            have ho9 : Own EInt 3 (q + 2) (w8.setCell ⟨q + 1, 1, none⟩ (.slice a8 (j + 1) c8)) (.slice a8 (j + 1) c8) (List.replicate (j + 1) 0) := by
              have := OwnI.stay ho8' fun g' hg' => heap_setOther w8 (show g' ≠ q + 1 by have := (ho8'.lt g' hg').1; omega) 1 (.slice a8 (j + 1) c8)
              rw [List.replicate_succ']
              exact this
            have hon9 : Only (fun b => b = q + 1) w7 (w8.setCell ⟨q + 1, 1, none⟩ (.slice a8 (j + 1) c8)) := by
              have hb78 : Below (q + 2) wr w8 := (hb7.mono hzr).trans hb8
              refine ((honly.out.trans (T := fun b => q + 2 ≤ b) ⟨hb78.os, hb78.tape, hb78.output, hb78.size, fun b hb hn => hb78.block b (by omega)⟩ fun b hb h => ?_)).setCell (p := ⟨q + 1, 1, none⟩) (.inl rfl) _
              omega
            have Hr9 := Lib.hid hr9
            have Ho9 := Lib.hid ho9
            have Hon9 := Lib.hid hon9
            have hz9 : q + 2 ≤ (w8.setCell ⟨q + 1, 1, none⟩ (.slice a8 (j + 1) c8)).heap.size := by simp; have := hb8.size; have := hb7.size; omega
            clear hr9 ho9 hon9
            go_roundg (nr - (j + 1))
            case measure => rw [hgj.out]; omega
            case rel => exact ⟨j + 1, a8, c8, Lib.hid rfl, by omega, by go_num, Hr9, Ho9, Hon9, hz9⟩
          · have hji : ¬ ((j : Int) < (nr : Int)) := by omega
            have hjn : j = nr := by omega
            subst hjn
            have hBS : B ≤ S := Nat.le_trans hBC hCS
            have hTr := HT7.out.keep (honly.out.below HT7.out.size fun b hb => by omega)
            have hMr : IMap wr S k (hdF hd) := HM7.out.keep (honly.out.block S HM7.out.lt (by omega))
            have hbr : Below B w wr := HBb7.out.trans (honly.out.below (Nat.le_trans hBS HT7.out.size) fun b hb => by omega)
            have hhq : wr.heap[q]? = _ := (honly.out.block q (Array.getElem?_eq_some_iff.1 Hhq7.out).1 (by omega)).trans Hhq7.out
            obtain ⟨_, _, _, _, _, _, _⟩ := hown.out.shape j List.length_replicate.symm
            have hsv : Sl EInt (fun k => S + 1 ≤ k) wr av (List.replicate j 0) := (own_sl hown.out).mono (by decide) fun b hb _ => ⟨rfl, by omega⟩
            have hcv : j ≤ cv ∧ cv ≤ maxLen := by
              obtain ⟨a', c', e, h1, h2, _, _⟩ := hown.out.shape j List.length_replicate.symm
              injection e with e1 e2 e3
              subst e3
              exact ⟨h1, h2⟩
            have q0 : wr.cell? ⟨q, 0, none⟩ = some (.int .i64 A.shard) := by simp [World.cell?, hhq]
            have q1 : wr.cell? ⟨q, 1, none⟩ = some (.int .i64 kd) := by simp [World.cell?, hhq]
            have q8 : wr.cell? ⟨q, 8, none⟩ = some (.bool A.e.c) := by simp [World.cell?, hhq]
            have p0 : wr.cell? ⟨q + 1, 0, none⟩ = some (.int .i64 0) := by simp [World.cell?, hrow.out]
            have p1 : wr.cell? ⟨q + 1, 1, none⟩ = some (.slice av j cv) := by simp [World.cell?, hrow.out]
            have p2 : wr.cell? ⟨q + 1, 2, none⟩ = some (.int .i64 ((k : Int) + 1)) := by simp [World.cell?, hrow.out]
            have p3 : wr.cell? ⟨q + 1, 3, none⟩ = some (.int .i64 0) := by simp [World.cell?, hrow.out]
            have p4 : wr.cell? ⟨q + 1, 4, none⟩ = some (.int .i64 0) := by simp [World.cell?, hrow.out]
            have p5 : wr.cell? ⟨q + 1, 5, none⟩ = some (.int .i64 A.e.t) := by simp [World.cell?, hrow.out]
            have p6 : wr.cell? ⟨q + 1, 6, none⟩ = some (.bool A.e.c) := by simp [World.cell?, hrow.out]
            have p7 : wr.cell? ⟨q + 1, 7, none⟩ = some (.int .i64 A.e.a) := by simp [World.cell?, hrow.out]
            have pf : ∀ o, wr.frozen? ⟨q + 1, o, none⟩ = false := fun o => by simp [World.frozen?, hrow.out]
            have hstep := Co.f_step HF.out H8.out ⟨0, List.replicate j 0, (k : Int) + 1, 0, 0, A.e⟩ rfl (by rw [List.length_replicate, ← HA.out, Hnr.out]) (by rw [← HA.out])
            rw [← Hkd.out, ← HA.out] at hstep
            have hat := Co.f_at HF.out
            have hst := Co.f_st HF.out
            have hend : ∀ (a : Co.An) (rf' : Bool) (hd' : Int → Bool) (w9 : World), Co.FInv (Co.inT (Co.nextT T) a) ((k : Int) + 1) rf' hd' → TxB C S w9 g (Co.inT (Co.nextT T) a) → IMap w9 S (k + 1) (hdF hd') → Below B w w9 → k + 1 ≤ 15 ∧ FRel B C S g S ops w (k + 1) rf' w9 := fun a rf' hd' w9 h1 h2 h3 h4 =>
              ⟨by have := Co.f_i h1; omega, _, hd', by rw [show ((k + 1 : Nat) : Int) = (k : Int) + 1 by omega]; exact h1, by rw [Co.inT_ops, Co.nextT_ops]; exact Hops.out, h2, h3, h4⟩
            have HTr := Lib.hid hTr
            have HMr := Lib.hid hMr
            have Hbr := Lib.hid hbr
            have Hsv := Lib.hid hsv
            have Hcv := Lib.hid hcv
            have Hstep := Lib.hid hstep
            have Hat := Lib.hid hat
            have Hst := Lib.hid hst
            have Hend := Lib.hid hend
            have Hrow := Lib.hid hrow.out
            clear hTr hMr hbr hhq hsv hcv hstep hat hst hend hrow hown honly hlt hji hgj hj
            by_cases hit : (k : Int) = at_
            · have hib : ((k : Int) == at_) = true := by simpa using hit
              clear hit
              rcases hkd5 with rfl | rfl | rfl | rfl | rfl
              · have HFx := Lib.hid (Co.f_refuse HF.out H8.out (by rw [← Hkd.out]; decide) ⟨ep, [], 0, 0, 0, ⟨0, false, 0⟩⟩ (show ep ≠ 0 by omega) (show ep ≠ 60 by simpa using he60))
                obtain ⟨wz, hwz⟩ : ∃ x, x = ((((((((wr.setCell ⟨q + 1, 0, none⟩ (.int .i64 ep)).setCell ⟨q + 1, 1, none⟩ (.slice none 0 0)).setCell ⟨q + 1, 2, none⟩ (.int .i64 0)).setCell ⟨q + 1, 3, none⟩ (.int .i64 0)).setCell ⟨q + 1, 4, none⟩ (.int .i64 0)).setCell ⟨q + 1, 5, none⟩ (.int .i64 0)).setCell ⟨q + 1, 6, none⟩ (.bool false)).setCell ⟨q + 1, 7, none⟩ (.int .i64 0)) := ⟨_, rfl⟩
                have hoz : Only (fun b => b = q + 1) wr wz := by rw [hwz]; exact ((((((((Only.refl (fun b => b = q + 1) wr).setCell (p := ⟨q + 1, 0, none⟩) (.inl rfl) _).setCell (p := ⟨q + 1, 1, none⟩) (.inl rfl) _).setCell (p := ⟨q + 1, 2, none⟩) (.inl rfl) _).setCell (p := ⟨q + 1, 3, none⟩) (.inl rfl) _).setCell (p := ⟨q + 1, 4, none⟩) (.inl rfl) _).setCell (p := ⟨q + 1, 5, none⟩) (.inl rfl) _).setCell (p := ⟨q + 1, 6, none⟩) (.inl rfl) _).setCell (p := ⟨q + 1, 7, none⟩) (.inl rfl) _
                have HTx := Lib.hid (HTr.out.keep (hoz.below HTr.out.size fun b hb => by omega))
                have HMx := Lib.hid ((HMr.out.keep (hoz.block S HMr.out.lt (by omega))).mono (Nat.le_succ k))
                have Hbx := Lib.hid (Hbr.out.trans (hoz.below (Nat.le_trans hBC (Nat.le_trans hCS HTr.out.size)) fun b hb => by omega))
                have hqz : wz.heap[q]? = wr.heap[q]? := hoz.block q (by have := cell_lt q0; omega) (by omega)
                have z1 : wz.cell? ⟨q, 1, none⟩ = some (.int .i64 1) := (cell_keep hqz).trans q1
                have y0 : wz.cell? ⟨q + 1, 0, none⟩ = some (.int .i64 ep) := by rw [hwz]; simp [World.cell?, World.setCell, Array.getElem?_modify, Hrow.out]
                have y1 : wz.cell? ⟨q + 1, 1, none⟩ = some (.slice none 0 0) := by rw [hwz]; simp [World.cell?, World.setCell, Array.getElem?_modify, Hrow.out]
                have y2 : wz.cell? ⟨q + 1, 2, none⟩ = some (.int .i64 0) := by rw [hwz]; simp [World.cell?, World.setCell, Array.getElem?_modify, Hrow.out]
                have y3 : wz.cell? ⟨q + 1, 3, none⟩ = some (.int .i64 0) := by rw [hwz]; simp [World.cell?, World.setCell, Array.getElem?_modify, Hrow.out]
                have y4 : wz.cell? ⟨q + 1, 4, none⟩ = some (.int .i64 0) := by rw [hwz]; simp [World.cell?, World.setCell, Array.getElem?_modify, Hrow.out]
                have y5 : wz.cell? ⟨q + 1, 5, none⟩ = some (.int .i64 0) := by rw [hwz]; simp [World.cell?, World.setCell, Array.getElem?_modify, Hrow.out]
                have y6 : wz.cell? ⟨q + 1, 6, none⟩ = some (.bool false) := by rw [hwz]; simp [World.cell?, World.setCell, Array.getElem?_modify, Hrow.out]
                have y7 : wz.cell? ⟨q + 1, 7, none⟩ = some (.int .i64 0) := by rw [hwz]; simp [World.cell?, World.setCell, Array.getElem?_modify, Hrow.out]
                clear hoz hqz Hstep
                go_upto_region 26 with fail
                rw [← hwz]
                clear hwz p0 p1 p2 p3 p4 p5 p6 p7 pf q0 q1 q8
                go_wp2_with fail
                refine (b_CIn ⟨ep, [], 0, 0, 0, ⟨0, false, 0⟩⟩ none 0 0 wz HTx.out rfl (by unfold maxLen; decide) (Sl.nil _ _ _ _) Hat.out Hst.out).mono ?_
                rintro e w9 ⟨rfl, hT9, ho9⟩
                have hM9 : IMap w9 S (k + 1) _ := HMx.out.keep (ho9.block S HMx.out.lt (by omega))
                have hb9 := Hbx.out.trans (ho9.below (Nat.le_trans hBC (Nat.le_trans hCS HTx.out.size)) fun b hb => by omega)
                have hfin := Hend.out _ _ _ w9 HFx.out hT9 hM9 hb9
                have Hfin := Lib.hid hfin
                clear hT9 ho9 hM9 hb9 hfin
                go_wp2_with fail
                go_roundg (16 - (k + 1))
                case measure => rw [HG.out]; have := Hfin.out.1; omega
                case rel => exact ⟨k + 1, true, Lib.hid rfl, Hfin.out.1, by go_num, rfl, Lib.hid Hfin.out.2⟩
              · have hrf := F4.out rfl
                subst hrf
                have HFx := Lib.hid (Co.f_refuse HF.out H8.out (by rw [← Hkd.out]; decide) ⟨ep, [], 0, 0, 0, ⟨0, false, 0⟩⟩ (show ep ≠ 0 by omega) (show ep ≠ 60 by simpa using he60))
                obtain ⟨wz, hwz⟩ : ∃ x, x = ((((((((wr.setCell ⟨q + 1, 0, none⟩ (.int .i64 ep)).setCell ⟨q + 1, 1, none⟩ (.slice none 0 0)).setCell ⟨q + 1, 2, none⟩ (.int .i64 0)).setCell ⟨q + 1, 3, none⟩ (.int .i64 0)).setCell ⟨q + 1, 4, none⟩ (.int .i64 0)).setCell ⟨q + 1, 5, none⟩ (.int .i64 0)).setCell ⟨q + 1, 6, none⟩ (.bool false)).setCell ⟨q + 1, 7, none⟩ (.int .i64 0)) := ⟨_, rfl⟩
                have hoz : Only (fun b => b = q + 1) wr wz := by rw [hwz]; exact ((((((((Only.refl (fun b => b = q + 1) wr).setCell (p := ⟨q + 1, 0, none⟩) (.inl rfl) _).setCell (p := ⟨q + 1, 1, none⟩) (.inl rfl) _).setCell (p := ⟨q + 1, 2, none⟩) (.inl rfl) _).setCell (p := ⟨q + 1, 3, none⟩) (.inl rfl) _).setCell (p := ⟨q + 1, 4, none⟩) (.inl rfl) _).setCell (p := ⟨q + 1, 5, none⟩) (.inl rfl) _).setCell (p := ⟨q + 1, 6, none⟩) (.inl rfl) _).setCell (p := ⟨q + 1, 7, none⟩) (.inl rfl) _
                have HTx := Lib.hid (HTr.out.keep (hoz.below HTr.out.size fun b hb => by omega))
                have HMx := Lib.hid ((HMr.out.keep (hoz.block S HMr.out.lt (by omega))).mono (Nat.le_succ k))
                have Hbx := Lib.hid (Hbr.out.trans (hoz.below (Nat.le_trans hBC (Nat.le_trans hCS HTr.out.size)) fun b hb => by omega))
                have hqz : wz.heap[q]? = wr.heap[q]? := hoz.block q (by have := cell_lt q0; omega) (by omega)
                have z1 : wz.cell? ⟨q, 1, none⟩ = some (.int .i64 2) := (cell_keep hqz).trans q1
                have y0 : wz.cell? ⟨q + 1, 0, none⟩ = some (.int .i64 ep) := by rw [hwz]; simp [World.cell?, World.setCell, Array.getElem?_modify, Hrow.out]
                have y1 : wz.cell? ⟨q + 1, 1, none⟩ = some (.slice none 0 0) := by rw [hwz]; simp [World.cell?, World.setCell, Array.getElem?_modify, Hrow.out]
                have y2 : wz.cell? ⟨q + 1, 2, none⟩ = some (.int .i64 0) := by rw [hwz]; simp [World.cell?, World.setCell, Array.getElem?_modify, Hrow.out]
                have y3 : wz.cell? ⟨q + 1, 3, none⟩ = some (.int .i64 0) := by rw [hwz]; simp [World.cell?, World.setCell, Array.getElem?_modify, Hrow.out]
                have y4 : wz.cell? ⟨q + 1, 4, none⟩ = some (.int .i64 0) := by rw [hwz]; simp [World.cell?, World.setCell, Array.getElem?_modify, Hrow.out]
                have y5 : wz.cell? ⟨q + 1, 5, none⟩ = some (.int .i64 0) := by rw [hwz]; simp [World.cell?, World.setCell, Array.getElem?_modify, Hrow.out]
                have y6 : wz.cell? ⟨q + 1, 6, none⟩ = some (.bool false) := by rw [hwz]; simp [World.cell?, World.setCell, Array.getElem?_modify, Hrow.out]
                have y7 : wz.cell? ⟨q + 1, 7, none⟩ = some (.int .i64 0) := by rw [hwz]; simp [World.cell?, World.setCell, Array.getElem?_modify, Hrow.out]
                clear hoz hqz Hstep
                go_upto_region 26 with fail
                rw [← hwz]
                clear hwz p0 p1 p2 p3 p4 p5 p6 p7 pf q0 q1 q8
                go_wp2_with fail
                refine (b_CIn ⟨ep, [], 0, 0, 0, ⟨0, false, 0⟩⟩ none 0 0 wz HTx.out rfl (by unfold maxLen; decide) (Sl.nil _ _ _ _) Hat.out Hst.out).mono ?_
                rintro e w9 ⟨rfl, hT9, ho9⟩
                have hM9 : IMap w9 S (k + 1) _ := HMx.out.keep (ho9.block S HMx.out.lt (by omega))
                have hb9 := Hbx.out.trans (ho9.below (Nat.le_trans hBC (Nat.le_trans hCS HTx.out.size)) fun b hb => by omega)
                have hfin := Hend.out _ _ _ w9 HFx.out hT9 hM9 hb9
                have Hfin := Lib.hid hfin
                clear hT9 ho9 hM9 hb9 hfin
                go_wp2_with fail
                go_roundg (16 - (k + 1))
                case measure => rw [HG.out]; have := Hfin.out.1; omega
                case rel => exact ⟨k + 1, true, Lib.hid rfl, Hfin.out.1, by go_num, rfl, Lib.hid Hfin.out.2⟩
              · have HFx := Lib.hid (Co.f_refuse HF.out H8.out (by rw [← Hkd.out]; decide) ⟨ep, [], 0, 0, 0, ⟨0, false, 0⟩⟩ (show ep ≠ 0 by omega) (show ep ≠ 60 by simpa using he60))
                obtain ⟨wz, hwz⟩ : ∃ x, x = ((((((((wr.setCell ⟨q + 1, 0, none⟩ (.int .i64 ep)).setCell ⟨q + 1, 1, none⟩ (.slice none 0 0)).setCell ⟨q + 1, 2, none⟩ (.int .i64 0)).setCell ⟨q + 1, 3, none⟩ (.int .i64 0)).setCell ⟨q + 1, 4, none⟩ (.int .i64 0)).setCell ⟨q + 1, 5, none⟩ (.int .i64 0)).setCell ⟨q + 1, 6, none⟩ (.bool false)).setCell ⟨q + 1, 7, none⟩ (.int .i64 0)) := ⟨_, rfl⟩
                have hoz : Only (fun b => b = q + 1) wr wz := by rw [hwz]; exact ((((((((Only.refl (fun b => b = q + 1) wr).setCell (p := ⟨q + 1, 0, none⟩) (.inl rfl) _).setCell (p := ⟨q + 1, 1, none⟩) (.inl rfl) _).setCell (p := ⟨q + 1, 2, none⟩) (.inl rfl) _).setCell (p := ⟨q + 1, 3, none⟩) (.inl rfl) _).setCell (p := ⟨q + 1, 4, none⟩) (.inl rfl) _).setCell (p := ⟨q + 1, 5, none⟩) (.inl rfl) _).setCell (p := ⟨q + 1, 6, none⟩) (.inl rfl) _).setCell (p := ⟨q + 1, 7, none⟩) (.inl rfl) _
                have HTx := Lib.hid (HTr.out.keep (hoz.below HTr.out.size fun b hb => by omega))
                have HMx := Lib.hid ((HMr.out.keep (hoz.block S HMr.out.lt (by omega))).mono (Nat.le_succ k))
                have Hbx := Lib.hid (Hbr.out.trans (hoz.below (Nat.le_trans hBC (Nat.le_trans hCS HTr.out.size)) fun b hb => by omega))
                have hqz : wz.heap[q]? = wr.heap[q]? := hoz.block q (by have := cell_lt q0; omega) (by omega)
                have z1 : wz.cell? ⟨q, 1, none⟩ = some (.int .i64 3) := (cell_keep hqz).trans q1
                have y0 : wz.cell? ⟨q + 1, 0, none⟩ = some (.int .i64 ep) := by rw [hwz]; simp [World.cell?, World.setCell, Array.getElem?_modify, Hrow.out]
                have y1 : wz.cell? ⟨q + 1, 1, none⟩ = some (.slice none 0 0) := by rw [hwz]; simp [World.cell?, World.setCell, Array.getElem?_modify, Hrow.out]
                have y2 : wz.cell? ⟨q + 1, 2, none⟩ = some (.int .i64 0) := by rw [hwz]; simp [World.cell?, World.setCell, Array.getElem?_modify, Hrow.out]
                have y3 : wz.cell? ⟨q + 1, 3, none⟩ = some (.int .i64 0) := by rw [hwz]; simp [World.cell?, World.setCell, Array.getElem?_modify, Hrow.out]
                have y4 : wz.cell? ⟨q + 1, 4, none⟩ = some (.int .i64 0) := by rw [hwz]; simp [World.cell?, World.setCell, Array.getElem?_modify, Hrow.out]
                have y5 : wz.cell? ⟨q + 1, 5, none⟩ = some (.int .i64 0) := by rw [hwz]; simp [World.cell?, World.setCell, Array.getElem?_modify, Hrow.out]
                have y6 : wz.cell? ⟨q + 1, 6, none⟩ = some (.bool false) := by rw [hwz]; simp [World.cell?, World.setCell, Array.getElem?_modify, Hrow.out]
                have y7 : wz.cell? ⟨q + 1, 7, none⟩ = some (.int .i64 0) := by rw [hwz]; simp [World.cell?, World.setCell, Array.getElem?_modify, Hrow.out]
                clear hoz hqz Hstep
                go_upto_region 26 with fail
                rw [← hwz]
                clear hwz p0 p1 p2 p3 p4 p5 p6 p7 pf q0 q1 q8
                go_wp2_with fail
                refine (b_CIn ⟨ep, [], 0, 0, 0, ⟨0, false, 0⟩⟩ none 0 0 wz HTx.out rfl (by unfold maxLen; decide) (Sl.nil _ _ _ _) Hat.out Hst.out).mono ?_
                rintro e w9 ⟨rfl, hT9, ho9⟩
                have hM9 : IMap w9 S (k + 1) _ := HMx.out.keep (ho9.block S HMx.out.lt (by omega))
                have hb9 := Hbx.out.trans (ho9.below (Nat.le_trans hBC (Nat.le_trans hCS HTx.out.size)) fun b hb => by omega)
                have hfin := Hend.out _ _ _ w9 HFx.out hT9 hM9 hb9
                have Hfin := Lib.hid hfin
                clear hT9 ho9 hM9 hb9 hfin
                go_wp2_with fail
                go_roundg (16 - (k + 1))
                case measure => rw [HG.out]; have := Hfin.out.1; omega
                case rel => exact ⟨k + 1, true, Lib.hid rfl, Hfin.out.1, by go_num, rfl, Lib.hid Hfin.out.2⟩
              · cases rf
                · have HFx : RowKit.Hid (Co.FInv (Co.inT (Co.nextT T) ⟨0, List.replicate j 0, (k : Int) + 1, 0, 0, A.e⟩) ((k : Int) + 1) false hd) := Lib.hid Hstep.out
                  have HTx := HTr
                  have HMx := Lib.hid (HMr.out.mono (Nat.le_succ k))
                  have Hbx := Hbr
                  clear Hstep
                  go_wp2_with fail
                  refine (b_CIn ⟨0, List.replicate j 0, (k : Int) + 1, 0, 0, A.e⟩ av j cv wr HTx.out List.length_replicate.symm Hcv.out (Hsv.out.mono (by decide) fun b hb _ => ⟨rfl, by omega⟩) Hat.out Hst.out).mono ?_
                  rintro e w9 ⟨rfl, hT9, ho9⟩
                  have hM9 : IMap w9 S (k + 1) _ := HMx.out.keep (ho9.block S HMx.out.lt (by omega))
                  have hb9 := Hbx.out.trans (ho9.below (Nat.le_trans hBC (Nat.le_trans hCS HTx.out.size)) fun b hb => by omega)
                  have hfin := Hend.out _ _ _ w9 HFx.out hT9 hM9 hb9
                  have Hfin := Lib.hid hfin
                  clear hT9 ho9 hM9 hb9 hfin
                  go_wp2_with fail
                  go_roundg (16 - (k + 1))
                  case measure => rw [HG.out]; have := Hfin.out.1; omega
                  case rel => exact ⟨k + 1, false, Lib.hid rfl, Hfin.out.1, by go_num, rfl, Lib.hid Hfin.out.2⟩
                · have hec := F3.out rfl rfl
                  rw [hec] at q8
                  have Hec := Lib.hid hec
                  clear hec
                  have HFx : RowKit.Hid (Co.FInv (Co.inT (Co.nextT T) ⟨0, List.replicate j 0, (k : Int) + 1, 0, 0, A.e⟩) ((k : Int) + 1) true hd) := Lib.hid Hstep.out
                  have HTx := HTr
                  have HMx := Lib.hid (HMr.out.mono (Nat.le_succ k))
                  have Hbx := Hbr
                  clear Hstep
                  go_wp2_with fail
                  refine (b_CIn ⟨0, List.replicate j 0, (k : Int) + 1, 0, 0, A.e⟩ av j cv wr HTx.out List.length_replicate.symm Hcv.out (Hsv.out.mono (by decide) fun b hb _ => ⟨rfl, by omega⟩) Hat.out Hst.out).mono ?_
                  rintro e w9 ⟨rfl, hT9, ho9⟩
                  have hM9 : IMap w9 S (k + 1) _ := HMx.out.keep (ho9.block S HMx.out.lt (by omega))
                  have hb9 := Hbx.out.trans (ho9.below (Nat.le_trans hBC (Nat.le_trans hCS HTx.out.size)) fun b hb => by omega)
                  have hfin := Hend.out _ _ _ w9 HFx.out hT9 hM9 hb9
                  have Hfin := Lib.hid hfin
                  clear hT9 ho9 hM9 hb9 hfin
                  go_wp2_with fail
                  go_roundg (16 - (k + 1))
                  case measure => rw [HG.out]; have := Hfin.out.1; omega
                  case rel => exact ⟨k + 1, true, Lib.hid rfl, Hfin.out.1, by go_num, rfl, Lib.hid Hfin.out.2⟩
              · have hsd := f_shard HF.out H8.out (.inr Hkd.out.symm)
                rw [← HA.out] at hsd
                have HFx : RowKit.Hid (Co.FInv (Co.inT (Co.nextT T) ⟨0, List.replicate j 0, (k : Int) + 1, 0, 0, A.e⟩) ((k : Int) + 1) rf (Co.updH hd A.shard false)) := Lib.hid Hstep.out
                obtain ⟨wz, hup, hm5, ho5⟩ := IMap.drop HMr.out (t := 28) Try.underlying28 (k := A.shard) (by unfold i64ok; omega) 0
                rw [hdF_drop] at hm5
                have hm5 := hm5.mono (Nat.le_succ k)
                have HTx := Lib.hid (HTr.out.keep (ho5.below HTr.out.size fun b hb => by omega))
                have HMx := Lib.hid hm5
                have Hbx := Lib.hid (Hbr.out.trans (ho5.below (Nat.le_trans hBC (Nat.le_trans hCS HTr.out.size)) fun b hb => by omega))
                have hlt1 : q + 1 < wr.heap.size := cell_lt p0
                have hpz : wz.heap[q + 1]? = wr.heap[q + 1]? := ho5.block (q + 1) hlt1 (by omega)
                have y0 := (cell_keep (o := 0) hpz).trans p0
                have y1 := (cell_keep (o := 1) hpz).trans p1
                have y2 := (cell_keep (o := 2) hpz).trans p2
                have y3 := (cell_keep (o := 3) hpz).trans p3
                have y4 := (cell_keep (o := 4) hpz).trans p4
                have y5 := (cell_keep (o := 5) hpz).trans p5
                have y6 := (cell_keep (o := 6) hpz).trans p6
                have y7 := (cell_keep (o := 7) hpz).trans p7
                have hsvz : Sl EInt (fun k => S ≤ k) wz av (List.replicate j 0) := (own_slx Hsv.out ho5)
                have Hsvz := Lib.hid hsvz
                clear hm5 ho5 hpz hsvz Hstep
                go_wp2_with (first | (refine wpList_imap_delete rfl _ _ _ _ rfl S (.int .i64 A.shard) rfl rfl wz hup ?_))
                refine (b_CIn ⟨0, List.replicate j 0, (k : Int) + 1, 0, 0, A.e⟩ av j cv wz HTx.out List.length_replicate.symm Hcv.out Hsvz.out Hat.out Hst.out).mono ?_
                rintro e w9 ⟨rfl, hT9, ho9⟩
                have hM9 : IMap w9 S (k + 1) _ := HMx.out.keep (ho9.block S HMx.out.lt (by omega))
                have hb9 := Hbx.out.trans (ho9.below (Nat.le_trans hBC (Nat.le_trans hCS HTx.out.size)) fun b hb => by omega)
                have hfin := Hend.out _ _ _ w9 HFx.out hT9 hM9 hb9
                have Hfin := Lib.hid hfin
                clear hT9 ho9 hM9 hb9 hfin
                go_wp2_with fail
                go_roundg (16 - (k + 1))
                case measure => rw [HG.out]; have := Hfin.out.1; omega
                case rel => exact ⟨k + 1, rf, Lib.hid rfl, Hfin.out.1, by go_num, rfl, Lib.hid Hfin.out.2⟩
            · have hib : ((k : Int) == at_) = false := by simpa using hit
              clear hit
              rcases hkd5 with rfl | rfl | rfl | rfl | rfl
              · have HFx : RowKit.Hid (Co.FInv (Co.inT (Co.nextT T) ⟨0, List.replicate j 0, (k : Int) + 1, 0, 0, A.e⟩) ((k : Int) + 1) rf hd) := Lib.hid Hstep.out
                have HTx := HTr
                have HMx := Lib.hid (HMr.out.mono (Nat.le_succ k))
                have Hbx := Hbr
                clear Hstep
                go_wp2_with fail
                refine (b_CIn ⟨0, List.replicate j 0, (k : Int) + 1, 0, 0, A.e⟩ av j cv wr HTx.out List.length_replicate.symm Hcv.out (Hsv.out.mono (by decide) fun b hb _ => ⟨rfl, by omega⟩) Hat.out Hst.out).mono ?_
                rintro e w9 ⟨rfl, hT9, ho9⟩
                have hM9 : IMap w9 S (k + 1) _ := HMx.out.keep (ho9.block S HMx.out.lt (by omega))
                have hb9 := Hbx.out.trans (ho9.below (Nat.le_trans hBC (Nat.le_trans hCS HTx.out.size)) fun b hb => by omega)
                have hfin := Hend.out _ _ _ w9 HFx.out hT9 hM9 hb9
                have Hfin := Lib.hid hfin
                clear hT9 ho9 hM9 hb9 hfin
                go_wp2_with fail
                go_roundg (16 - (k + 1))
                case measure => rw [HG.out]; have := Hfin.out.1; omega
                case rel => exact ⟨k + 1, rf, Lib.hid rfl, Hfin.out.1, by go_num, rfl, Lib.hid Hfin.out.2⟩
              · have hrf := F4.out rfl
                subst hrf
                have HFx : RowKit.Hid (Co.FInv (Co.inT (Co.nextT T) ⟨0, List.replicate j 0, (k : Int) + 1, 0, 0, A.e⟩) ((k : Int) + 1) false hd) := Lib.hid Hstep.out
                have HTx := HTr
                have HMx := Lib.hid (HMr.out.mono (Nat.le_succ k))
                have Hbx := Hbr
                clear Hstep
                go_wp2_with fail
                refine (b_CIn ⟨0, List.replicate j 0, (k : Int) + 1, 0, 0, A.e⟩ av j cv wr HTx.out List.length_replicate.symm Hcv.out (Hsv.out.mono (by decide) fun b hb _ => ⟨rfl, by omega⟩) Hat.out Hst.out).mono ?_
                rintro e w9 ⟨rfl, hT9, ho9⟩
                have hM9 : IMap w9 S (k + 1) _ := HMx.out.keep (ho9.block S HMx.out.lt (by omega))
                have hb9 := Hbx.out.trans (ho9.below (Nat.le_trans hBC (Nat.le_trans hCS HTx.out.size)) fun b hb => by omega)
                have hfin := Hend.out _ _ _ w9 HFx.out hT9 hM9 hb9
                have Hfin := Lib.hid hfin
                clear hT9 ho9 hM9 hb9 hfin
                go_wp2_with fail
                go_roundg (16 - (k + 1))
                case measure => rw [HG.out]; have := Hfin.out.1; omega
                case rel => exact ⟨k + 1, false, Lib.hid rfl, Hfin.out.1, by go_num, rfl, Lib.hid Hfin.out.2⟩
              · have hsd := f_shard HF.out H8.out (.inl Hkd.out.symm)
                rw [← HA.out] at hsd
                have HFx : RowKit.Hid (Co.FInv (Co.inT (Co.nextT T) ⟨0, List.replicate j 0, (k : Int) + 1, 0, 0, A.e⟩) ((k : Int) + 1) rf (Co.updH hd A.shard true)) := Lib.hid Hstep.out
                obtain ⟨wz, hup, hm5, ho5⟩ := IMap.store HMr.out (t := 28) Try.underlying28 (by unfold maxLen; omega) (k := A.shard) (by unfold i64ok; omega) (.bool true)
                rw [hdF_put] at hm5
                have HTx := Lib.hid (HTr.out.keep (ho5.below HTr.out.size fun b hb => by omega))
                have HMx := Lib.hid hm5
                have Hbx := Lib.hid (Hbr.out.trans (ho5.below (Nat.le_trans hBC (Nat.le_trans hCS HTr.out.size)) fun b hb => by omega))
                have hlt1 : q + 1 < wr.heap.size := cell_lt p0
                have hpz : wz.heap[q + 1]? = wr.heap[q + 1]? := ho5.block (q + 1) hlt1 (by omega)
                have y0 := (cell_keep (o := 0) hpz).trans p0
                have y1 := (cell_keep (o := 1) hpz).trans p1
                have y2 := (cell_keep (o := 2) hpz).trans p2
                have y3 := (cell_keep (o := 3) hpz).trans p3
                have y4 := (cell_keep (o := 4) hpz).trans p4
                have y5 := (cell_keep (o := 5) hpz).trans p5
                have y6 := (cell_keep (o := 6) hpz).trans p6
                have y7 := (cell_keep (o := 7) hpz).trans p7
                have hsvz : Sl EInt (fun k => S ≤ k) wz av (List.replicate j 0) := (own_slx Hsv.out ho5)
                have Hsvz := Lib.hid hsvz
                clear hm5 ho5 hpz hsvz Hstep
                go_wp2_with fail
                refine (b_CIn ⟨0, List.replicate j 0, (k : Int) + 1, 0, 0, A.e⟩ av j cv wz HTx.out List.length_replicate.symm Hcv.out Hsvz.out Hat.out Hst.out).mono ?_
                rintro e w9 ⟨rfl, hT9, ho9⟩
                have hM9 : IMap w9 S (k + 1) _ := HMx.out.keep (ho9.block S HMx.out.lt (by omega))
                have hb9 := Hbx.out.trans (ho9.below (Nat.le_trans hBC (Nat.le_trans hCS HTx.out.size)) fun b hb => by omega)
                have hfin := Hend.out _ _ _ w9 HFx.out hT9 hM9 hb9
                have Hfin := Lib.hid hfin
                clear hT9 ho9 hM9 hb9 hfin
                go_wp2_with fail
                go_roundg (16 - (k + 1))
                case measure => rw [HG.out]; have := Hfin.out.1; omega
                case rel => exact ⟨k + 1, rf, Lib.hid rfl, Hfin.out.1, by go_num, rfl, Lib.hid Hfin.out.2⟩
              · cases rf
                · have HFx : RowKit.Hid (Co.FInv (Co.inT (Co.nextT T) ⟨0, List.replicate j 0, (k : Int) + 1, 0, 0, A.e⟩) ((k : Int) + 1) false hd) := Lib.hid Hstep.out
                  have HTx := HTr
                  have HMx := Lib.hid (HMr.out.mono (Nat.le_succ k))
                  have Hbx := Hbr
                  clear Hstep
                  go_wp2_with fail
                  refine (b_CIn ⟨0, List.replicate j 0, (k : Int) + 1, 0, 0, A.e⟩ av j cv wr HTx.out List.length_replicate.symm Hcv.out (Hsv.out.mono (by decide) fun b hb _ => ⟨rfl, by omega⟩) Hat.out Hst.out).mono ?_
                  rintro e w9 ⟨rfl, hT9, ho9⟩
                  have hM9 : IMap w9 S (k + 1) _ := HMx.out.keep (ho9.block S HMx.out.lt (by omega))
                  have hb9 := Hbx.out.trans (ho9.below (Nat.le_trans hBC (Nat.le_trans hCS HTx.out.size)) fun b hb => by omega)
                  have hfin := Hend.out _ _ _ w9 HFx.out hT9 hM9 hb9
                  have Hfin := Lib.hid hfin
                  clear hT9 ho9 hM9 hb9 hfin
                  go_wp2_with fail
                  go_roundg (16 - (k + 1))
                  case measure => rw [HG.out]; have := Hfin.out.1; omega
                  case rel => exact ⟨k + 1, false, Lib.hid rfl, Hfin.out.1, by go_num, rfl, Lib.hid Hfin.out.2⟩
                · have hec := F3.out rfl rfl
                  rw [hec] at q8
                  have Hec := Lib.hid hec
                  clear hec
                  have HFx : RowKit.Hid (Co.FInv (Co.inT (Co.nextT T) ⟨0, List.replicate j 0, (k : Int) + 1, 0, 0, A.e⟩) ((k : Int) + 1) true hd) := Lib.hid Hstep.out
                  have HTx := HTr
                  have HMx := Lib.hid (HMr.out.mono (Nat.le_succ k))
                  have Hbx := Hbr
                  clear Hstep
                  go_wp2_with fail
                  refine (b_CIn ⟨0, List.replicate j 0, (k : Int) + 1, 0, 0, A.e⟩ av j cv wr HTx.out List.length_replicate.symm Hcv.out (Hsv.out.mono (by decide) fun b hb _ => ⟨rfl, by omega⟩) Hat.out Hst.out).mono ?_
                  rintro e w9 ⟨rfl, hT9, ho9⟩
                  have hM9 : IMap w9 S (k + 1) _ := HMx.out.keep (ho9.block S HMx.out.lt (by omega))
                  have hb9 := Hbx.out.trans (ho9.below (Nat.le_trans hBC (Nat.le_trans hCS HTx.out.size)) fun b hb => by omega)
                  have hfin := Hend.out _ _ _ w9 HFx.out hT9 hM9 hb9
                  have Hfin := Lib.hid hfin
                  clear hT9 ho9 hM9 hb9 hfin
                  go_wp2_with fail
                  go_roundg (16 - (k + 1))
                  case measure => rw [HG.out]; have := Hfin.out.1; omega
                  case rel => exact ⟨k + 1, true, Lib.hid rfl, Hfin.out.1, by go_num, rfl, Lib.hid Hfin.out.2⟩
              · have hsd := f_shard HF.out H8.out (.inr Hkd.out.symm)
                rw [← HA.out] at hsd
                have HFx : RowKit.Hid (Co.FInv (Co.inT (Co.nextT T) ⟨0, List.replicate j 0, (k : Int) + 1, 0, 0, A.e⟩) ((k : Int) + 1) rf (Co.updH hd A.shard false)) := Lib.hid Hstep.out
                obtain ⟨wz, hup, hm5, ho5⟩ := IMap.drop HMr.out (t := 28) Try.underlying28 (k := A.shard) (by unfold i64ok; omega) 0
                rw [hdF_drop] at hm5
                have hm5 := hm5.mono (Nat.le_succ k)
                have HTx := Lib.hid (HTr.out.keep (ho5.below HTr.out.size fun b hb => by omega))
                have HMx := Lib.hid hm5
                have Hbx := Lib.hid (Hbr.out.trans (ho5.below (Nat.le_trans hBC (Nat.le_trans hCS HTr.out.size)) fun b hb => by omega))
                have hlt1 : q + 1 < wr.heap.size := cell_lt p0
                have hpz : wz.heap[q + 1]? = wr.heap[q + 1]? := ho5.block (q + 1) hlt1 (by omega)
                have y0 := (cell_keep (o := 0) hpz).trans p0
                have y1 := (cell_keep (o := 1) hpz).trans p1
                have y2 := (cell_keep (o := 2) hpz).trans p2
                have y3 := (cell_keep (o := 3) hpz).trans p3
                have y4 := (cell_keep (o := 4) hpz).trans p4
                have y5 := (cell_keep (o := 5) hpz).trans p5
                have y6 := (cell_keep (o := 6) hpz).trans p6
                have y7 := (cell_keep (o := 7) hpz).trans p7
                have hsvz : Sl EInt (fun k => S ≤ k) wz av (List.replicate j 0) := (own_slx Hsv.out ho5)
                have Hsvz := Lib.hid hsvz
                clear hm5 ho5 hpz hsvz Hstep
                go_wp2_with (first | (refine wpList_imap_delete rfl _ _ _ _ rfl S (.int .i64 A.shard) rfl rfl wz hup ?_))
                refine (b_CIn ⟨0, List.replicate j 0, (k : Int) + 1, 0, 0, A.e⟩ av j cv wz HTx.out List.length_replicate.symm Hcv.out Hsvz.out Hat.out Hst.out).mono ?_
                rintro e w9 ⟨rfl, hT9, ho9⟩
                have hM9 : IMap w9 S (k + 1) _ := HMx.out.keep (ho9.block S HMx.out.lt (by omega))
                have hb9 := Hbx.out.trans (ho9.below (Nat.le_trans hBC (Nat.le_trans hCS HTx.out.size)) fun b hb => by omega)
                have hfin := Hend.out _ _ _ w9 HFx.out hT9 hM9 hb9
                have Hfin := Lib.hid hfin
                clear hT9 ho9 hM9 hb9 hfin
                go_wp2_with fail
                go_roundg (16 - (k + 1))
                case measure => rw [HG.out]; have := Hfin.out.1; omega
                case rel => exact ⟨k + 1, rf, Lib.hid rfl, Hfin.out.1, by go_num, rfl, Lib.hid Hfin.out.2⟩
end Go.Proofs.Ytmmgnbdngpkfcaa

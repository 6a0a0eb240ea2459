
/-
  The writer of bits, as memory: how 'Put' writes.
-/
import Derived.Test.YtmmgnbdngpkfcaaMem
import Derived.Test.YtmmgnbdngpkfcaaApp2
import Derived.Test.YtmmgnbdngpkfcaaBts
import Derived.Test.YtmmgnbdngpkfcaaRef01
namespace Go.Proofs.Ytmmgnbdngpkfcaa
open Go.RowKit
set_option linter.unusedVariables false

/-- but for certain blocks, all that was there stays -/
structure Only (S : Nat → Prop) (w w' : World) : Prop where
  os : w'.os = w.os
  tape : w'.tape = w.tape
  output : w'.output = w.output
  size : w.heap.size ≤ w'.heap.size
  block : ∀ k, k < w.heap.size → ¬ S k → w'.heap[k]? = w.heap[k]?
theorem Only.refl (S : Nat → Prop) (w : World) : Only S w w := ⟨rfl, rfl, rfl, Nat.le_refl _, fun _ _ _ => rfl⟩
theorem Only.trans {S T : Nat → Prop} {w w1 w2 : World} (h : Only S w w1) (h2 : Only T w1 w2) (hT : ∀ k, k < w.heap.size → T k → S k) : Only S w w2 :=
  ⟨h2.os.trans h.os, h2.tape.trans h.tape, h2.output.trans h.output, Nat.le_trans h.size h2.size, fun k hk hn => (h2.block k (Nat.lt_of_lt_of_le hk h.size) fun ht => hn (hT k hk ht)).trans (h.block k hk hn)⟩
theorem Only.below {S : Nat → Prop} {w w' : World} {B : Nat} (h : Only S w w') (hB : B ≤ w.heap.size) (hS : ∀ k, S k → B ≤ k) : Below B w w' :=
  ⟨h.os, h.tape, h.output, h.size, fun k hk => h.block k (by omega) fun hs => by have := hS k hs; omega⟩
theorem Below.only {S : Nat → Prop} {w w' : World} (h : Below w.heap.size w w') : Only S w w' := ⟨h.os, h.tape, h.output, h.size, fun k hk _ => h.block k hk⟩
theorem Only.mono {S T : Nat → Prop} {w w' : World} (h : Only S w w') (hS : ∀ k, S k → T k) : Only T w w' := ⟨h.os, h.tape, h.output, h.size, fun k hk hn => h.block k hk fun hs => hn (hS k hs)⟩
theorem Only.setCell {S : Nat → Prop} {w w' : World} (h : Only S w w') {p : Addr} (hp : S p.block ∨ w.heap.size ≤ p.block) (u : Value) : Only S w (w'.setCell p u) :=
  ⟨h.os, h.tape, h.output, by simpa [World.setCell] using h.size, fun k hk hn => by
    rw [Below.heap_setCell _ _ _ _ (fun e => by subst e; rcases hp with hp | hp; exact hn hp; omega)]; exact h.block k hk hn⟩

/-- a writer of bits: its block, what it owns -/
def WrAt (w : World) (g : Nat) (v : Value) (l : Bts.Bits) : Prop :=
  w.heap[g]? = some (.cells #[v, .int .i64 l.length] 158 (0, 0)) ∧ Own EU8 5 (g + 1) w v (Bts.pack l)

/-- what a writer's call may turn -/
structure Wrote (g : Nat) (v : Value) (w : World) (v' : Value) (w' : World) : Prop where
  only : Only (fun k => k = g ∨ v.ownBlock = some k) w w'
  own : v'.ownBlock = v.ownBlock ∨ ∃ h, v'.ownBlock = some h ∧ w.heap.size ≤ h
theorem Wrote.refl (g : Nat) (v : Value) (w : World) : Wrote g v w v w := ⟨Only.refl _ _, .inl rfl⟩
theorem Wrote.trans {g : Nat} {v v1 v2 : Value} {w w1 w2 : World} (h : Wrote g v w v1 w1) (h2 : Wrote g v1 w1 v2 w2) : Wrote g v w v2 w2 := by
  refine ⟨h.only.trans h2.only fun k hk ht => ?_, ?_⟩
  · rcases ht with ht | ht
    · exact .inl ht
    · rcases h.own with e | ⟨b, e, hb⟩
      · exact .inr (by rw [← e]; exact ht)
      · rw [e] at ht; injection ht with ht; omega
  · rcases h2.own with e | ⟨b, e, hb⟩
    · rcases h.own with e2 | ⟨b, e2, hb⟩
      · exact .inl (e.trans e2)
      · exact .inr ⟨b, e.trans e2, hb⟩
    · exact .inr ⟨b, e, Nat.le_trans h.only.size hb⟩

/-- a writer's block, between two steps -/
def WrMid (w : World) (g : Nat) (v : Value) (l : Bts.Bits) (p : Bts.Bytes) : Prop :=
  w.heap[g]? = some (.cells #[v, .int .i64 l.length] 158 (0, 0)) ∧ Own EU8 5 (g + 1) w v p

theorem i64_and7 (n : Int) : bits .and .i64 n 7 = n % 8 := by
  have h : bits .and .i64 n 7 = IntKind.i64.wrap ((BitVec.ofInt 64 n &&& BitVec.ofInt 64 7).toNat : Int) := rfl
  rw [h]
  have : (BitVec.ofInt 64 n &&& BitVec.ofInt 64 7).toNat = (BitVec.ofInt 64 n).toNat % 8 := by
    rw [BitVec.toNat_and]
    exact Nat.and_two_pow_sub_one_eq_mod _ 3
  rw [this, BitVec.toNat_ofInt, IntKind.wrap_i64]
  omega
attribute [go_sem] i64_and7

/-- what is owned, while another block is written -/
theorem Own.except {te : TypeId} {base : Nat} {w : World} {v : Value} {l : List (BitVec 8)} {p : Addr} {x : Value} (h : Own EU8 te base w v l) (hne : ∀ h, v.ownBlock = some h → h ≠ p.block) : Own EU8 te base (w.setCell p x) v l := by
  rcases h with h | ⟨g, cap, cur, hv, hg, hh, h1, h2, h3, h4⟩
  · exact .inl h
  · have hgp : g ≠ p.block := hne g (by rw [hv]; rfl)
    exact .inr ⟨g, cap, cur, hv, hg, by rw [Below.heap_setCell _ _ _ _ hgp]; exact hh, h1, h2, h3, fun k y hk => h4 k y hk⟩

set_option maxRecDepth 4096 in
set_option maxHeartbeats 3200000 in
theorem bits_Put (g : Nat) (v : Value) (l : Bts.Bits) (x : BitVec 64) (n : Int) (w : World) (hw : WrAt w g v l) (hn : -9223372036854775808 ≤ n ∧ n ≤ 9223372036854775807) (hl : l.length ≤ 1099511627776) :
    Calls Try.prog 130 #[.pointer (some ⟨g, 0, none⟩), .int .u64 (bv x), .int .i64 n] w fun e w' => e = .returned (.tuple #[]) ∧ ∃ v', WrAt w' g v' (l ++ Bts.put x n) ∧ Wrote g v w v' w' := by
  obtain ⟨m, hm⟩ : ∃ m, m = Bts.clamp n := ⟨_, rfl⟩
  have hm64 : m ≤ 64 := by rw [hm]; exact Bts.clamp_le n
  unfold Bts.put
  rw [← hm]
  have Hm := Lib.hid hm
  clear hm
  go_enter Try.func130, Try.ntmps130
  go_upto_region 0 with fail
  go_cut [6] (fun s wx => s = .int .i64 ((m : Int) - 1) ∧ wx = w)
  case first =>
    have hmn := Hm.out
    unfold Bts.clamp at hmn
    by_cases h0 : n < 0
    · have e : m = 0 := by omega
      clear hmn
      subst e
      go_wp2_with fail
      all_goals (go_meet; exact ⟨rfl, rfl⟩)
    · by_cases h64 : 64 < n
      · have e : m = 64 := by omega
        clear hmn
        subst e
        go_wp2_with fail
        all_goals (go_meet; exact ⟨rfl, rfl⟩)
      · have e : n = (m : Int) := by omega
        clear hmn
        subst e
        go_wp2_with fail
        all_goals (go_meet; exact ⟨rfl, rfl⟩)
  obtain ⟨hs6, hwc⟩ := hcut
  subst hs6
  obtain ⟨wy, hwy⟩ : ∃ x, x = wc := ⟨_, rfl⟩
  subst hwy
  rw [hwc]
  clear hwc
  go_wp2_with fail
  go_loopw [6] (fun i wr => ∃ (k : Nat) (cur : Bts.Bits) (u : Value), i = .int .i64 ((k : Int) - 1) ∧ k ≤ m ∧ cur ++ Bts.low x k = l ++ Bts.low x m ∧ WrAt wr g u cur ∧ Wrote g v w u wr) (fun i _ => (intOf i + 1).toNat)
  case atStart => exact ⟨m, l, v, rfl, Nat.le_refl _, rfl, hw, Wrote.refl _ _ _⟩
  case round =>
    obtain ⟨k, cur, u, rfl, hk, hinv, hwr, hto⟩ := hrel
    have Hinv := Lib.hid hinv
    have hcl : cur.length + k = l.length + m := by
      have := congrArg List.length hinv
      simpa [Bts.low_len] using this
    clear hinv hw
    rcases Nat.eq_zero_or_pos k with rfl | hpos
    · have hfin : cur = l ++ Bts.low x m := by have := Hinv.out; simpa [Bts.low] using this
      go_wp2_with fail
      refine bodyPost_end (v := .tuple #[]) (by simp [results, Try.results130, go_sem]) rfl ?_
      exact ⟨rfl, u, by rw [← hfin]; exact hwr, hto⟩
    · obtain ⟨k, rfl⟩ : ∃ j, k = j + 1 := ⟨k - 1, by omega⟩
      have e1 : ((k + 1 : Nat) : Int) - 1 = (k : Int) := by omega
      rw [e1]
      have hsn := Bts.low_snoc x l cur k m Hinv.out
      have Hsn := Lib.hid hsn
      clear hsn Hinv
      obtain ⟨hh, ho⟩ := hwr
      have c0 : wr.cell? ⟨g, 0, none⟩ = some u := by simp [World.cell?, hh]
      have c1 : wr.cell? ⟨g, 1, none⟩ = some (.int .i64 cur.length) := by simp [World.cell?, hh]
      have cf : ∀ o, wr.frozen? ⟨g, o, none⟩ = false := fun o => by simp [World.frozen?, hh]
      have hk0 : (0 : Int) ≤ (k : Int) := by omega
      obtain ⟨p, hp⟩ : ∃ p, p = if cur.length % 8 = 0 then Bts.pack cur ++ [0#8] else Bts.pack cur := ⟨_, rfl⟩
      have Hp := Lib.hid hp
      clear hp
      go_upto_region 3 with fail
      go_cut [20] (fun s wx => s = .bool (decide (cur.length % 8 = 0)) ∧ wx = wr)
      case first =>
        by_cases h8 : cur.length % 8 = 0
        · have h8' : (cur.length : Int) % 8 = 0 := by omega
          go_wp2_with fail
          go_meet
          exact ⟨by simp [h8], rfl⟩
        · have h8' : ¬ ((cur.length : Int) % 8 = 0) := by omega
          go_wp2_with fail
          go_meet
          exact ⟨by rw [decide_eq_false h8]; simp; omega, rfl⟩
      obtain ⟨hs20, hwc⟩ := hcut
      subst hs20
      obtain ⟨wy, hwy⟩ : ∃ x, x = wc := ⟨_, rfl⟩
      subst hwy
      rw [hwc]
      clear hwc
      go_upto_if 20 with fail
      go_cut [] (fun wx => ∃ u2, WrMid wx g u2 cur p ∧ Wrote g u wr u2 wx)
      case first =>
        by_cases h8 : cur.length % 8 = 0
        · rw [decide_eq_true h8]
          have ho1 := ho.below (w' := wr.alloc (.cells #[.int .u8 (bv 0#8)] 5)) ((Below.refl _ _).alloc (Nat.le_refl _) _)
          have hgl := (Array.getElem?_eq_some_iff.1 hh).1
          have hlen : (Bts.pack cur).length = (cur.length + 7) / 8 := Bts.pack_len cur
          have hs1 : Sl EU8 (fun b => some b ≠ u.ownBlock) (wr.alloc (.cells #[.int .u8 (bv 0#8)] 5)) (some ⟨wr.heap.size, 0, none⟩) [0#8] :=
            sl_one (heap_alloc_new wr _) rfl ho.fresh
          have h0 : bv (0#8) = (0 : Int) := rfl
          rw [h0] at hs1 ho1
          clear h0
          obtain ⟨pl, hpl⟩ : ∃ pl, pl = (Bts.pack cur ++ [0#8]).length := ⟨_, rfl⟩
          have Hpl := Lib.hid hpl
          clear hpl
          go_wp2_with (first
            | (refine wpList_app EU8 (l2 := [0#8]) rfl rfl (by rfl) (by rfl) ti_bytes ho1 rfl hs1 (by unfold maxLen; simp; omega) (by simp; omega) (by simp; omega) ?_
               intro u2 w2 ho2 hg2 hv2 hb2
               obtain ⟨a2, c2, rfl, hc2, hm2, hr2, ho2'⟩ := ho2.shape pl Hpl.out
               have hgc : w2.heap[g]? = wr.heap[g]? := (hb2.block g (by omega)).trans (heap_alloc_old wr _ hgl)
               have d0 : w2.cell? ⟨g, 0, none⟩ = some u := (cell_keep hgc).trans c0
               have df : ∀ o, w2.frozen? ⟨g, o, none⟩ = false := fun o => by rw [show w2.frozen? ⟨g, o, none⟩ = wr.frozen? ⟨g, o, none⟩ by simp [World.frozen?, hgc]]; exact cf o))
          go_meet
          have hh3 := heap_set (show w2.heap[g]? = some (.cells #[u, .int .i64 cur.length] 158 (0, 0)) by rw [hgc]; exact hh) 0 (.slice a2 pl c2)
          have hne : ∀ h, (Value.slice a2 pl c2).ownBlock = some h → h ≠ g := fun h e => by have := (ho2'.lt h e).1; omega
          refine ⟨_, ⟨by simpa using hh3, ?_⟩, ?_, ?_⟩
          · rw [Hp.out, if_pos h8]
            exact ho2'.except hne
          · have h1 : Only (fun k => k = g ∨ u.ownBlock = some k) wr (wr.alloc (.cells #[.int .u8 0] 5)) := Below.only ((Below.refl _ _).alloc (Nat.le_refl _) _)
            have h2 : Only (fun k => u.ownBlock = some k) (wr.alloc (.cells #[.int .u8 0] 5)) w2 := ⟨hg2.os, hg2.tape, hg2.output, hg2.size, fun k hk hn => hg2.block k hk fun e => hn e.symm⟩
            exact (h1.trans h2 fun k _ e => .inr e).setCell (.inl (.inl rfl)) _
          · rcases hv2 with e | ⟨b, e, hb⟩
            · exact .inl e
            · exact .inr ⟨b, e, by simp at hb; omega⟩
        · rw [decide_eq_false h8]
          go_wp2_with fail
          go_meet
          exact ⟨u, ⟨hh, by rw [Hp.out, if_neg h8]; exact ho⟩, Wrote.refl _ _ _⟩
      obtain ⟨u2, ⟨hh2, ho2⟩, hto2⟩ := hcut
      obtain ⟨wx, hwx⟩ : ∃ x, x = wc := ⟨_, rfl⟩
      subst hwx
      have hpl : p.length = (cur.length + 8) / 8 := by
        rw [Hp.out]
        split
        · rw [List.length_append, Bts.pack_len]; simp; omega
        · rw [Bts.pack_len]; omega
      obtain ⟨a2, c2, rfl, hc2, hm2, hr2, ho2'⟩ := ho2.shape p.length rfl
      have hj : cur.length / 8 < p.length := by omega
      obtain ⟨q, rfl, hq, hqc, hqf⟩ := ho2'.at (cur.length / 8) hj
      have hps := Bts.pack_snoc cur (x.getLsbD k) p Hp.out hj
      have Hps := Lib.hid hps
      have Hpl := Lib.hid hpl
      have b0 : wx.cell? ⟨g, 0, none⟩ = some (.slice (some ⟨q, 0, none⟩) p.length c2) := by simp [World.cell?, hh2]
      have b1 : wx.cell? ⟨g, 1, none⟩ = some (.int .i64 cur.length) := by simp [World.cell?, hh2]
      have bf : ∀ o, wx.frozen? ⟨g, o, none⟩ = false := fun o => by simp [World.frozen?, hh2]
      clear hps hpl c0 c1 cf hh ho ho2
      have i0 : (0 : Int) ≤ (cur.length : Int) / 8 := by omega
      have i1 : (cur.length : Int) / 8 < (p.length : Int) := by omega
      have i2 : ((cur.length : Int) / 8).toNat = cur.length / 8 := by omega
      have i3 : (7 - (cur.length : Int) % 8).toNat = 7 - cur.length % 8 := by omega
      have i4 : (0 : Int) ≤ 7 - (cur.length : Int) % 8 := by omega
      have i5 : IntKind.i64.wrap (7 - (cur.length : Int) % 8) = 7 - (cur.length : Int) % 8 := IntWalk.i64_in _ (by omega)
      have hq2 : q ≠ g := by omega
      have hq3 : g ≠ q := by omega
      go_upto_region 5 with fail
      go_still_tail 25, (by kernel_rfl)
      obtain ⟨wd, hwd⟩ : ∃ wd, wd = wx.drew := ⟨_, rfl⟩
      have hdh : wd.heap = wx.heap := by rw [hwd]; rfl
      have hto3 : Wrote g u wr (.slice (some ⟨q, 0, none⟩) p.length c2) wd := ⟨by rw [hwd]; exact ⟨hto2.only.os, hto2.only.tape, hto2.only.output, hto2.only.size, hto2.only.block⟩, hto2.own⟩
      change wpList _ _ _ _ _ wx.drew
      rw [← hwd]
      have d1 : wd.cell? ⟨g, 1, none⟩ = some (.int .i64 cur.length) := by simp [World.cell?, hdh, hh2]
      have dq : wd.cell? ⟨q, cur.length / 8, none⟩ = some (.int .u8 (bv p[cur.length / 8])) := by rw [← hqc]; simp [World.cell?, hdh]
      have df : ∀ o, wd.frozen? ⟨g, o, none⟩ = false := fun o => by simp [World.frozen?, hdh, hh2]
      have dqf : wd.frozen? ⟨q, cur.length / 8, none⟩ = false := by rw [← hqf]; simp [World.frozen?, hdh]
      have hh4 : wd.heap[g]? = some (.cells #[.slice (some ⟨q, 0, none⟩) p.length c2, .int .i64 cur.length] 158 (0, 0)) := by rw [hdh]; exact hh2
      have ho4 : Own EU8 5 (g + 1) wd (.slice (some ⟨q, 0, none⟩) p.length c2) p := ho2'.keep fun k _ => by rw [hdh]
      clear hwd hto2 hqc hqf b0 b1 bf hh2 ho2' hr2
      go_wp2
      go_roundw
      case rel =>
        have hb : (BitVec.setWidth 8 (x >>> k) &&& 1#8) = Bts.bt (x.getLsbD k) := by
          unfold Bts.bt
          apply BitVec.eq_of_getLsbD_eq
          intro i hi
          rw [BitVec.getLsbD_and, BitVec.getLsbD_setWidth, BitVec.getLsbD_ushiftRight, BitVec.getLsbD_one]
          by_cases h0 : i = 0
          · subst h0; cases x.getLsbD k <;> simp
          · cases x.getLsbD k <;> simp [h0, BitVec.getLsbD_one]
        rw [hb]
        have hs := ho4.set (cur.length / 8) (p[cur.length / 8] ||| Bts.bt (x.getLsbD k) <<< (7 - cur.length % 8))
        rw [← Hps.out] at hs
        refine ⟨k, cur ++ [x.getLsbD k], .slice (some ⟨q, 0, none⟩) p.length c2, by first | rfl | go_num, by omega, Hsn.out, ⟨?_, ?_⟩, ?_⟩
        · have h1 : ∀ y, (wd.setCell ⟨q, cur.length / 8, none⟩ y).heap[g]? = wd.heap[g]? := fun y => Below.heap_setCell _ _ _ _ hq3
          have h2 := heap_set ((h1 (.int .u8 (bv (p[cur.length / 8] ||| Bts.bt (x.getLsbD k) <<< (7 - cur.length % 8))))).trans hh4) 1 (.int .i64 ((cur.length : Int) + 1))
          simpa using h2
        · exact hs.except fun h e => by simp [Value.ownBlock] at e; subst e; exact hq2
        · have h3 : Wrote g u wr (.slice (some ⟨q, 0, none⟩) p.length c2) ((wd.setCell ⟨q, cur.length / 8, none⟩ (.int .u8 (bv (p[cur.length / 8] ||| Bts.bt (x.getLsbD k) <<< (7 - cur.length % 8))))).setCell ⟨g, 1, none⟩ (.int .i64 ((cur.length : Int) + 1))) := by
            refine ⟨(hto3.only.setCell ?_ _).setCell (.inl (.inl rfl)) _, hto3.own⟩
            rcases hto3.own with e | ⟨b, e, hb⟩
            · exact .inl (.inr (by rw [← e]; rfl))
            · simp [Value.ownBlock] at e; subst e; exact .inr hb
          exact hto.trans h3
      case measure => simp [intOf]
end Go.Proofs.Ytmmgnbdngpkfcaa


/-
  A transaction under way, walked: an answer is taken.
-/
import Derived.Test.YtmmgnbdngpkfcaaCoX
namespace Go.Proofs.Ytmmgnbdngpkfcaa
open Go.RowKit
set_option linter.unusedVariables false

namespace Co
theorem mem_rdGo {sh at_ z : Int} : ∀ (l : List Op) (wr out : List Int), z ∈ rdGo sh at_ l wr out → z ∈ out ∨ ∃ o ∈ l, o.2.1 = z
  | [], wr, out, h => .inl h
  | o :: r, wr, out, h => by
    unfold rdGo at h
    split at h
    · rcases mem_rdGo r _ _ h with h | ⟨p, hp, e⟩
      · exact .inl h
      · exact .inr ⟨p, List.mem_cons_of_mem _ hp, e⟩
    · split at h
      · rcases mem_rdGo r _ _ h with h | ⟨p, hp, e⟩
        · rcases List.mem_append.1 h with h | h
          · exact .inl h
          · exact .inr ⟨o, List.mem_cons_self, (List.mem_singleton.1 h).symm⟩
        · exact .inr ⟨p, List.mem_cons_of_mem _ hp, e⟩
      · rcases mem_rdGo r _ _ h with h | ⟨p, hp, e⟩
        · exact .inl h
        · exact .inr ⟨p, List.mem_cons_of_mem _ hp, e⟩
theorem mem_reads {sh at_ z : Int} {l : List Op} (h : z ∈ reads sh l at_) : ∃ o ∈ l, o.2.1 = z := by
  rcases mem_rdGo l [] [] h with h | h
  · cases h
  · exact h
def updI (f : Int → Option Int) (k v : Int) : Int → Option Int := fun z => if z = k then some v else f z
theorem storeV_snoc : ∀ (ks vs : List Int) (f : Int → Option Int) (k v : Int), ks.length = vs.length → storeV f (ks ++ [k]) (vs ++ [v]) = updI (storeV f ks vs) k v
  | [], [], f, k, v, _ => rfl
  | [], _ :: _, f, k, v, h => by cases h
  | _ :: _, [], f, k, v, h => by cases h
  | a :: ks, b :: vs, f, k, v, h => by
    show storeV _ (ks ++ [k]) (vs ++ [v]) = updI (storeV _ ks vs) k v
    exact storeV_snoc ks vs _ k v (by simpa using h)
theorem storeV_take {ks vs : List Int} (f : Int → Option Int) {k : Nat} (hk : k < ks.length) (hl : ks.length = vs.length) : storeV f (ks.take (k + 1)) (vs.take (k + 1)) = updI (storeV f (ks.take k) (vs.take k)) ks[k] (vs[k]'(by omega)) := by
  rw [← storeV_snoc _ _ _ _ _ (by rw [List.length_take, List.length_take, hl]), List.take_append_getElem, List.take_append_getElem]
theorem storeV_keys : ∀ (ks vs : List Int) (f : Int → Option Int) (z x : Int), storeV f ks vs z = some x → z ∈ ks ∨ f z = some x
  | [], [], f, z, x, h => .inr h
  | [], _ :: _, f, z, x, h => .inr h
  | _ :: _, [], f, z, x, h => .inr h
  | a :: ks, b :: vs, f, z, x, h => by
    rcases storeV_keys ks vs _ z x h with h | h
    · exact .inl (List.mem_cons_of_mem _ h)
    · by_cases e : z = a
      · exact .inl (by rw [e]; exact List.mem_cons_self)
      · rw [if_neg e] at h; exact .inr h
end Co

/-- the values' map is written -/
theorem TxA.storeV {B g vm : Nat} {w w' : World} {ov : Value} {T : Co.Tx} (h : TxA B w g vm ov T) {k v : Int} (hk : 0 ≤ k ∧ k ≤ 15) (hvr : -9223372036854775808 ≤ v ∧ v ≤ 9223372036854775807) {n : Nat} (hm : IMap w' vm n (updM (fun z => (T.vals z).map (.int .i64)) k (some (.int .i64 v)))) (ho : Only (· = vm) w w') :
    TxA B w' g vm ov { T with vals := Co.updI T.vals k v } := by
  obtain ⟨a, c, h1, h2, h3, h4⟩ := h.ops
  have hf : updM (fun z => (T.vals z).map (.int .i64)) k (some (.int .i64 v)) = fun z => (Co.updI T.vals k v z).map (.int .i64) := by
    funext z
    unfold updM Co.updI
    by_cases e : z = k
    · simp [e]
    · simp [e]
  have hv : ∀ z x, Co.updI T.vals k v z = some x → (0 ≤ z ∧ z ≤ 15) ∧ (-9223372036854775808 ≤ x ∧ x ≤ 9223372036854775807) := fun z x hz => by
    unfold Co.updI at hz
    split at hz
    · rename_i e
      injection hz with hz
      rw [e, ← hz]
      exact ⟨hk, hvr⟩
    · exact h.right.vals z x hz
  rw [hf] at hm
  refine ⟨(ho.block g h.lt h.ne).trans h.row, ⟨a, c, h1, h2, h3, h4.mono (by decide) fun k hk hlt => ⟨ho.block k hlt hk.2, hk⟩⟩, hm.fit fun z hz => ?_, h.hg, h.hv, h.ne, ⟨h.right.ops, h.right.many, h.right.sh, h.right.at_, h.right.waited, hv⟩⟩
  obtain ⟨x, hx⟩ := Option.isSome_iff_exists.1 hz
  obtain ⟨y, hy, _⟩ := Option.map_eq_some_iff.1 hx
  have := hv z y hy
  omega

def ansRow (a : Co.An) (v : Value) : Array Value := #[.int .i64 a.err, v, .int .i64 a.at_, .int .i64 a.by_, .int .i64 a.home, .int .i64 a.e.t, .bool a.e.c, .int .i64 a.e.a]

set_option maxRecDepth 4096 in
set_option maxHeartbeats 6400000 in
theorem co_got {B g vm : Nat} {ov : Value} {T : Co.Tx} (a : Co.An) (av : Option Addr) (n c : Nat) (w : World) (h : TxA B w g vm ov T) (hn : n = a.vals.length) (hc : n ≤ c ∧ c ≤ maxLen) (hs : Sl EInt (fun k => k ≠ g ∧ k ≠ vm) w av a.vals) (hat : T.at_ ≤ 3) :
    Calls Try.prog 72 #[.pointer (some ⟨g, 0, none⟩), .agg (ansRow a (.slice av n c))] w fun e w' => e = .returned (.tuple #[]) ∧ TxA B w' g vm ov (Co.got T a) ∧ Only (fun k => k = g ∨ k = vm) w w' := by
  obtain ⟨w1, hw1⟩ : ∃ x, x = w.alloc (.cells #[.int .i64 a.err, .slice av n c, .int .i64 a.at_, .int .i64 a.by_, .int .i64 a.home, .int .i64 a.e.t, .bool a.e.c, .int .i64 a.e.a] 41) := ⟨_, rfl⟩
  have hh1 : w1.heap[w.heap.size]? = some (.cells #[.int .i64 a.err, .slice av n c, .int .i64 a.at_, .int .i64 a.by_, .int .i64 a.home, .int .i64 a.e.t, .bool a.e.c, .int .i64 a.e.a] 41 (0, 0)) := by rw [hw1]; exact heap_alloc_new w _
  have hb1 : Below w.heap.size w w1 := by rw [hw1]; exact alloc_below _ _
  obtain ⟨q, hq⟩ : ∃ q, q = w.heap.size := ⟨_, rfl⟩
  rw [← hq] at hh1
  have hz1 : w1.heap.size = q + 1 := by rw [hw1, hq]; simp
  have h1 := h.keep hb1
  have hgq : g ≠ q := by have := h.lt; omega
  have hvq : vm ≠ q := by have := h.map.lt; omega
  have ho1 : Only (fun k => k = g ∨ k = vm) w w1 := Below.only hb1
  have hs1 : Sl EInt (fun k => k ≠ g ∧ k ≠ vm) w1 av a.vals := hs.below (by decide) hb1
  have HC : RowKit.Hid (Calls Try.prog 68 #[.pointer (some ⟨g, 0, none⟩), .int .i64 T.at_] w1 fun e w' => ∃ v, e = .returned v ∧ Own EInt 3 w1.heap.size w' v (Co.reads T.sh T.ops T.at_) ∧ (Co.reads T.sh T.ops T.at_).length ≤ 12 ∧ Below w1.heap.size w1 w') :=
    Lib.hid (co_reads T.at_ w1.heap.size w1 rfl h1)
  have c10 := h1.c10
  have H1 := Lib.hid h1
  have Hh1 := Lib.hid hh1
  have Ho1 := Lib.hid ho1
  have Hs1 := Lib.hid hs1
  have Hn := Lib.hid hn
  have hc' := hc
  unfold maxLen at hc'
  clear h h1 hh1 ho1 hs hs1 hn hb1
  unfold ansRow
  go_enter Try.func72, Try.ntmps72
  go_upto_region 1 with fail
  rw [← hw1, ← hq]
  have Hq := Lib.hid hq
  clear hw1 hq
  go_wp2_with fail
  refine HC.out.mono ?_
  rintro e w2 ⟨kv, rfl, ho2, hl2, hb2⟩
  obtain ⟨ks, hks⟩ : ∃ ks, ks = Co.reads T.sh T.ops T.at_ := ⟨_, rfl⟩
  rw [← hks] at ho2 hl2
  obtain ⟨ak, ck, rfl, hck, hmk, hrk, hok⟩ := ho2.shape _ rfl
  obtain ⟨nk, hnk⟩ : ∃ n, n = ks.length := ⟨_, rfl⟩
  rw [← hnk] at hck hl2
  have h2 := H1.out.keep hb2
  have hh2 := (hb2.block q (by omega)).trans Hh1.out
  have ho2' : Only (fun k => k = g ∨ k = vm) w w2 := Ho1.out.trans (T := fun k => k = g ∨ k = vm) (Below.only hb2) fun _ _ h => h
  have hs2 : Sl EInt (fun k => k ≠ g ∧ k ≠ vm) w2 av a.vals := Hs1.out.below (by decide) hb2
  have hz2 : q + 1 ≤ w2.heap.size := by rw [← hz1]; exact hb2.size
  have q0 : w2.cell? ⟨q, 0, none⟩ = some (.int .i64 a.err) := by simp [World.cell?, hh2]
  have q1 : w2.cell? ⟨q, 1, none⟩ = some (.slice av n c) := by simp [World.cell?, hh2]
  have q3 : w2.cell? ⟨q, 3, none⟩ = some (.int .i64 a.by_) := by simp [World.cell?, hh2]
  have q4 : w2.cell? ⟨q, 4, none⟩ = some (.int .i64 a.home) := by simp [World.cell?, hh2]
  have H2 := Lib.hid h2
  have Hh2 := Lib.hid hh2
  have Ho2 := Lib.hid ho2'
  have Hs2 := Lib.hid hs2
  have Hok := Lib.hid hok
  have Hks := Lib.hid hks
  have Hnk := Lib.hid hnk
  clear h2 hh2 ho2' hs2 hok hks hnk ho2 hb2 hrk c10 HC
  by_cases hlock : a.err = 60
  · have c11 := H2.out.c11
    have c12 := H2.out.c12
    have c4 := H2.out.c4
    have c5 := H2.out.c5
    have c13 := H2.out.c13
    have c14 := H2.out.c14
    have c15 := H2.out.c15
    have c16 := H2.out.c16
    have hfr := H2.out.fr
    obtain ⟨pt, hpt⟩ : ∃ x, x = T.pat := ⟨_, rfl⟩
    obtain ⟨wd, hwd⟩ : ∃ x, x = T.waited := ⟨_, rfl⟩
    rw [← hpt] at c4
    rw [← hwd] at c12
    have hg : Co.got T a = if pt ≤ wd then { T with wait := false, stage := 2, by_ := ⟨a.by_, false, 0⟩, home := a.home } else { T with wait := true } := by
      unfold Co.got
      rw [if_pos hlock, hpt, hwd]
    have Hg := Lib.hid hg
    rw [hlock] at q0
    clear hg hpt hwd hlock
    by_cases hle : pt ≤ wd
    · go_wp2_with fail
      go_region
      go_wp2_with fail
      go_region
      go_wp2_with fail
      have hT := ((((H2.out.st11 true).st11 false).st5 2).st13 ⟨a.by_, false, 0⟩).st16 a.home
      unfold setEnd at hT
      refine bodyPost_end (v := .tuple #[]) (by simp [results, Try.results72, go_sem]) rfl ?_
      refine ⟨rfl, ?_, ?_⟩
      · rw [Hg.out, if_pos hle]
        exact (hT.keep (Below.refl _ _).drew).keep (Below.refl _ _).drew
      · exact (((((((Ho2.out.setCell (p := ⟨g, 11, none⟩) (.inl (.inl rfl)) _).setCell (p := ⟨g, 11, none⟩) (.inl (.inl rfl)) _).setCell (p := ⟨g, 5, none⟩) (.inl (.inl rfl)) _).setCell (p := ⟨g, 13, none⟩) (.inl (.inl rfl)) _).setCell (p := ⟨g, 14, none⟩) (.inl (.inl rfl)) _).setCell (p := ⟨g, 15, none⟩) (.inl (.inl rfl)) _).setCell (p := ⟨g, 16, none⟩) (.inl (.inl rfl)) _).drewL.drewL
    · go_wp2_with fail
      go_region
      go_wp2_with fail
      refine bodyPost_end (v := .tuple #[]) (by simp [results, Try.results72, go_sem]) rfl ?_
      refine ⟨rfl, ?_, ?_⟩
      · rw [Hg.out, if_neg (by omega)]
        exact (H2.out.st11 true).keep (Below.refl _ _).drew
      · exact (Ho2.out.setCell (p := ⟨g, 11, none⟩) (.inl (.inl rfl)) _).drewL
  · have hl60 : (a.err == 60) = false := by simpa using hlock
    by_cases hbad : a.err ≠ 0 ∨ a.vals.length ≠ (Co.reads T.sh T.ops T.at_).length
    · have hg : Co.got T a = { T with res := 3, stage := 8 } := by
        unfold Co.got
        rw [if_neg hlock, if_pos hbad]
      have Hg := Lib.hid hg
      rw [← Hn.out, ← Hks.out, ← Hnk.out] at hbad
      have c18 := H2.out.c18
      have c5 := H2.out.c5
      have hfr := H2.out.fr
      clear hg hlock
      rw [← Hnk.out]
      go_upto_region 13 with fail
      go_cut [74] from 41 to 92 (fun u wx => u = .bool true ∧ wx = w2)
      case first =>
        by_cases h0 : a.err = 0
        · have hnn : n ≠ nk := by
            rcases hbad with h | h
            · exact absurd h0 h
            · exact h
          have hni : ((n : Int) == (nk : Int)) = false := by
            simp; omega
          rw [h0] at q0
          clear h0 hbad
          have hnb : ((n : Int) != (nk : Int)) = true := by simp; omega
          have Hnb := Lib.hid hnb
          clear hnb
          go_wp2_with fail
          go_meet
          exact ⟨by rw [Hnb.out], rfl⟩
        · have h0b : (a.err == 0) = false := by simpa using h0
          go_wp2_with fail
          go_meet
          exact ⟨rfl, rfl⟩
      obtain ⟨wy, hwy⟩ : ∃ x, x = wc := ⟨_, rfl⟩
      subst hwy
      obtain ⟨hu, hwd⟩ := hcut
      subst hu
      subst hwd
      clear hbad hl60
      go_wp2_with fail
      refine bodyPost_end (v := .tuple #[]) (by simp [results, Try.results72, go_sem]) rfl ?_
      refine ⟨rfl, ?_, ?_⟩
      · rw [Hg.out]
        exact (H2.out.st18 3).st5 8
      · exact (Ho2.out.setCell (p := ⟨g, 18, none⟩) (.inl (.inl rfl)) _).setCell (p := ⟨g, 5, none⟩) (.inl (.inl rfl)) _
    · have h0 : a.err = 0 := by
        by_cases h : a.err = 0
        · exact h
        · exact absurd (.inl h) hbad
      have hll : a.vals.length = (Co.reads T.sh T.ops T.at_).length := by
        by_cases h : a.vals.length = (Co.reads T.sh T.ops T.at_).length
        · exact h
        · exact absurd (.inr h) hbad
      have hg : Co.got T a = Co.goR { T with vals := Co.storeV T.vals ks a.vals, waited := 0 } (T.at_ + 1) := by
        unfold Co.got
        rw [if_neg hlock, if_neg hbad, ← Hks.out]
      have Hg := Lib.hid hg
      have hnn : n = nk := by rw [Hn.out, Hnk.out, Hks.out]; exact hll
      subst hnn
      rw [h0] at q0
      rw [← Hnk.out]
      clear hg hlock hbad hl60 hll h0 hmk
      go_wp2_with fail
      have hst0 : TxA B w2 g vm ov { T with vals := Co.storeV T.vals (ks.take 0) (a.vals.take 0) } := by
        rw [List.take_zero, List.take_zero]
        exact H2.out
      have Hst0 := Lib.hid hst0
      clear hst0
      go_loopg [15] n (fun gn i wr => ∃ k : Nat, RowKit.Hid (gn = n - k) ∧ k ≤ n ∧ i = .int .i64 k ∧ RowKit.Hid (TxA B wr g vm ov { T with vals := Co.storeV T.vals (ks.take k) (a.vals.take k) }) ∧ RowKit.Hid (Only (fun k => k = vm) w2 wr))
      case atStart => exact ⟨0, Lib.hid rfl, Nat.zero_le _, rfl, Hst0, Lib.hid (Only.refl _ _)⟩
      case round =>
        clear Hst0 q0 q1 q3 q4
        obtain ⟨k, hgn, hk, rfl, hT, hO⟩ := hrel
        have hzr : q + 1 ≤ wr.heap.size := Nat.le_trans hz2 hO.out.size
        have hhq : wr.heap[q]? = _ := (hO.out.block q (by omega) (Ne.symm hvq)).trans Hh2.out
        have q1 : wr.cell? ⟨q, 1, none⟩ = some (.slice av n c) := by simp [World.cell?, hhq]
        have c17 := hT.out.c17
        clear hhq
        by_cases hlt : k < n
        · have hki : (k : Int) < (n : Int) := by omega
          have hkl : k < ks.length := by rw [← Hnk.out]; exact hlt
          have hkv : k < a.vals.length := by rw [← Hn.out]; exact hlt
          have hok := OwnI.stay Hok.out fun g' hg' => hO.out.block g' (Hok.out.lt g' hg').2 (by have := (Hok.out.lt g' hg').1; have := H1.out.map.lt; omega)
          obtain ⟨ak', ck', he, _, _, hrk, _⟩ := hok.shape _ rfl
          injection he with he1 he2 he3
          subst he1
          subst he3
          obtain ⟨b1, o1, rfl, p1, _, _⟩ := SlI.at hrk.2 k hkl
          have hsv : Sl EInt (fun k => k ≠ g ∧ k ≠ vm) wr av a.vals := Hs2.out.mono (by decide) fun k hk hlt => ⟨hO.out.block k hlt hk.2, hk⟩
          obtain ⟨b2, o2, rfl, p2, hv1, hv2⟩ := SlI.at hsv k hkv
          obtain ⟨x, hx⟩ : ∃ x, x = ks[k] := ⟨_, rfl⟩
          obtain ⟨y, hy⟩ : ∃ y, y = a.vals[k] := ⟨_, rfl⟩
          rw [← hx] at p1
          rw [← hy] at p2
          have hxk : 0 ≤ x ∧ x ≤ 15 := by
            have hm : x ∈ Co.reads T.sh T.ops T.at_ := by rw [← Hks.out, hx]; exact List.getElem_mem _
            obtain ⟨o, ho, e⟩ := Co.mem_reads hm
            rw [← e]; exact H2.out.right.ops o ho
          have hTd := hT.out.keep (w' := wr.drew) (Below.refl _ _).drew
          obtain ⟨w5, hup, hm5, ho5⟩ := IMap.store hTd.map (t := 129) Try.underlying129 (by unfold maxLen; decide) (k := x) (by unfold i64ok; omega) (.int .i64 y)
          have hT5 := hTd.storeV hxk (by rw [hy]; exact ⟨hv1, hv2⟩) hm5 ho5
          have hO5 : Only (fun k => k = vm) w2 w5 := (hO.out.drewL).trans ho5 fun _ _ h => h
          have hnext : Co.updI (Co.storeV T.vals (ks.take k) (a.vals.take k)) x y = Co.storeV T.vals (ks.take (k + 1)) (a.vals.take (k + 1)) := by rw [hx, hy, Co.storeV_take T.vals hkl (by rw [← Hnk.out, ← Hn.out])]
          have HT5 := Lib.hid hT5
          have HO5 := Lib.hid hO5
          have Hnx := Lib.hid hnext
          clear hok hrk hsv hx hy hTd hm5 ho5 hT5 hO5 hnext hT hO
          go_wp2_with fail
          go_region
          go_wp2_with fail
          go_roundg (n - (k + 1))
          case measure => rw [hgn.out]; omega
          case rel => exact ⟨k + 1, Lib.hid rfl, by omega, by go_num, Lib.hid (by rw [← Hnx.out]; exact HT5.out), HO5⟩
        · have hki : ¬ ((k : Int) < (n : Int)) := by omega
          have hT' : TxA B wr g vm ov { T with vals := Co.storeV T.vals ks a.vals } := by
            have := hT.out
            rw [List.take_of_length_le (by rw [← Hnk.out]; omega), List.take_of_length_le (by rw [← Hn.out]; omega)] at this
            exact this
          have c12 := hT'.c12
          have c10 : wr.cell? ⟨g, 10, none⟩ = some (.int .i64 T.at_) := hT'.c10
          have f12 := hT'.fr 12
          have hT6 : TxA B (wr.setCell ⟨g, 12, none⟩ (.int .i64 0)) g vm ov { T with vals := Co.storeV T.vals ks a.vals, waited := 0 } := hT'.st12 0 (by decide)
          have hO6 : Only (fun k => k = g ∨ k = vm) w (wr.setCell ⟨g, 12, none⟩ (.int .i64 0)) := (Ho2.out.trans hO.out fun k _ h => .inr h).setCell (p := ⟨g, 12, none⟩) (.inl (.inl rfl)) _
          have hat0 := H2.out.right.at_
          have hadd : IntKind.i64.wrap (T.at_ + 1) = T.at_ + 1 := IntWalk.i64_in _ (by omega)
          have HT6 := Lib.hid hT6
          have HO6 := Lib.hid hO6
          clear hT hO hT' hT6 hO6 q1 c17
          go_wp2_with fail
          refine (co_goR (T.at_ + 1) _ HT6.out (by omega)).mono ?_
          rintro e w7 ⟨rfl, h7, ho7⟩
          have H7 := Lib.hid h7
          have Ho7 := Lib.hid ho7
          clear h7 ho7
          go_wp2_with fail
          refine bodyPost_end (v := .tuple #[]) (by simp [results, Try.results72, go_sem]) rfl ?_
          exact ⟨rfl, by rw [Hg.out]; exact H7.out, HO6.out.trans Ho7.out fun k _ h => .inl h⟩
end Go.Proofs.Ytmmgnbdngpkfcaa

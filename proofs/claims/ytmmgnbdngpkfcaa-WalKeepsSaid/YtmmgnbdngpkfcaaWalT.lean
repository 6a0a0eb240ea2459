
/-
  What a log comes to over a whole law, while the power stays: plain laws.
  A tape that is laid by the page, and turned: plain laws; the statement's own lay.
-/
import Derived.Test.YtmmgnbdngpkfcaaWalO
import Derived.Test.YtmmgnbdngpkfcaaFrameTurn
import Derived.Test.YtmmgnbdngpkfcaaBtsRefText
namespace Go.Proofs.Ytmmgnbdngpkfcaa.Wl
open Go.Proofs.Ytmmgnbdngpkfcaa Go.Proofs.Ytmmgnbdngpkfcaa.Bts Go.Proofs.Ytmmgnbdngpkfcaa.Frm
set_option linter.unusedVariables false

theorem lay_same (D : Dk.Dsk) (L : Lg) : (lay D L).2.1.state = L.state ∧ (lay D L).2.1.notes = L.notes ∧ L.turn ≤ (lay D L).2.1.turn := by
  unfold lay
  split
  · exact ⟨rfl, rfl, Nat.le_refl _⟩
  · split
    · exact ⟨rfl, rfl, Nat.le_refl _⟩
    · split
      · exact ⟨rfl, rfl, Nat.le_refl _⟩
      · exact ⟨rfl, rfl, Nat.le_succ _⟩
theorem Ok.of_same {L L' : Lg} (h : Ok L') (h1 : L'.state = L.state) (h2 : L'.notes = L.notes) (h3 : L.turn ≤ L'.turn) : Ok L :=
  ⟨Nat.le_trans h3 h.turn, by rw [← h1]; exact h.state, by rw [← h2]; exact h.note, by rw [← h2]; exact h.all⟩
/-- what is opened can be laid: so could what was found -/
theorem Ok.of_open {D D' : Dk.Dsk} {L : Lg} {e : Int} (h : openL D = (D', some L, e)) (hok : Ok L) : Ok (picks D).1 := by
  unfold openL at h
  split at h
  · simp at h
  · split at h
    · split at h
      · simp at h
      · simp only [Prod.mk.injEq, Option.some.injEq] at h
        obtain ⟨h1, h2, h3⟩ := lay_same D (picks D).1
        rw [h.2.1] at h1 h2 h3
        exact hok.of_same h1 h2 h3
    · simp only [Prod.mk.injEq, Option.some.injEq] at h
      rw [h.2.1]; exact hok
theorem encs_le {ns : List Byt} {k : Nat} (h : ∀ n ∈ ns, n.length ≤ k) : (encs (nfs ns)).length ≤ ns.length * (12 + k) := by
  induction ns with
  | nil => simp [nfs, encs]
  | cons n ns ih =>
    have h1 := ih fun x hx => h x (by simp [hx])
    have h2 := h n (by simp)
    have e : encs (nfs (n :: ns)) = enc 2 n ++ encs (nfs ns) := by simp [nfs, encs]
    rw [e, List.length_append, enc_len, List.length_cons, Nat.add_mul]
    omega
theorem Std.tape_le {D : Dk.Dsk} {L : Lg} (h : Std D L) : (D.t (L.turn % 2)).b.length ≤ 46 + L.state.length + (encs (nfs L.notes)).length := by
  obtain ⟨m, hm, hs, hb⟩ := h.here
  rw [hb, tapeOf_len]
  have := hdata_len L.turn m L.state
  simp only [List.length_nil]
  omega
theorem layB_le (L : Lg) : (layB L).length ≤ 46 + L.state.length + (encs (nfs L.notes)).length := by
  rw [layB_tape, tapeOf_len]
  have := hdata_len (L.turn + 1) L.notes.length L.state
  simp only [List.length_nil]
  omega
theorem ok_of {L : Lg} (ht : L.turn ≤ 1000000) (hs : L.state.length ≤ 500) (hn : ∀ n ∈ L.notes, n.length ≤ 500) (hl : L.notes.length ≤ 1000) : Ok L := by
  refine ⟨by omega, by omega, fun n h => Nat.le_trans (hn n h) (by decide), ?_⟩
  have := encs_le hn
  have : L.notes.length * (12 + 500) ≤ 1000 * (12 + 500) := Nat.mul_le_mul_right _ hl
  omega
theorem ok_one' : Ok ⟨1, [], [], false⟩ := ok_of (by decide) (by decide) (fun n hn => by cases hn) (by decide)
/-- junk behind the notes -/
theorem torn_any {D D1 D2 : Dk.Dsk} {L : Lg} (h : Std D L) (hok : Ok L) (ht : L.turn = 1) (r : Byt) (hr : r.length ≤ 11) (hroom : ((layB L).length : Int) ≤ D.room) (hroom2 : ((D.t 1).b.length : Int) + r.length ≤ D.room)
    (h1 : Dk.app D 1 r = (D1, 0)) (h2 : Dk.flush D1 1 = (D2, 0)) :
    ∃ D3 t, openL D2 = (D3, some ⟨t, L.state, L.notes, false⟩, 0) ∧ Std D3 ⟨t, L.state, L.notes, false⟩ ∧ D3.room = D.room ∧ 0 ≤ D3.acts - D.acts ∧ D3.acts ≤ D.acts + 5 ∧ (t = 1 ∨ t = 2) := by
  obtain ⟨E1, e1, a1, a2, a3, a4, a5⟩ := app_calm h.calm 1 (by decide) r (by simpa using hroom2)
  rw [h1] at e1
  injection e1 with e1
  subst e1
  obtain ⟨E2, e2, b1, b2, b3, b4, b5⟩ := flush_calm a1 1 (by decide)
  rw [h2] at e2
  injection e2 with e2
  subst e2
  have a4' : (D1.t 1).b = (D.t 1).b ++ r := a4
  have hb : (D2.t (L.turn % 2)).b = (D.t (L.turn % 2)).b ++ r := by rw [ht]; show (D2.t 1).b = _; rw [b4, a4']
  have ho : (D2.t ((L.turn + 1) % 2)).b = (D.t ((L.turn + 1) % 2)).b := by rw [ht, b4]; exact congrArg Dk.Tp.b (a5 0 (by decide))
  by_cases h0 : r = []
  · subst h0
    rw [List.append_nil] at hb
    have hs2 : Std D2 L := by
      refine ⟨b1, h.live, h.turn, ?_, ?_⟩
      · rw [hb]; exact h.here
      · rw [ho]; exact h.there
    have := open_std hs2 hok
    have he : (⟨1, L.state, L.notes, false⟩ : Lg) = L := by rw [← ht]; exact lg_eta h.live
    exact ⟨D2, 1, by rw [he]; exact this, by rw [he]; exact hs2, by rw [b2, a2], by omega, by omega, .inl rfl⟩
  · obtain ⟨D', g1, g2, g3, g4⟩ := h.torn hok r D2 (torn_short hr) h0 b1 hb ho (by rw [b2, a2]; exact hroom)
    have he : ({ L with turn := L.turn + 1 } : Lg) = ⟨2, L.state, L.notes, false⟩ := by rw [ht, h.live]
    rw [he] at g1 g2
    exact ⟨D', 2, g1, g2, by rw [g3, b2, a2], by omega, by omega, .inr rfl⟩
end Go.Proofs.Ytmmgnbdngpkfcaa.Wl

namespace Go.Proofs.Ytmmgnbdngpkfcaa
open Go.RowKit
set_option linter.unusedVariables false
theorem b_Open' {B : Nat} {gd : Nat} {D D' : Dk.Dsk} {L : Wl.Lg} (w : World) (h : DkB B w gd D) (ha : 0 ≤ D.acts ∧ D.acts ≤ 8000000000000000000) (hL : Wl.Ok L) (hR : Wl.openL D = (D', some L, 0)) :
    Calls Try.prog 32 #[.pointer (some ⟨gd, 0, none⟩)] w fun e w' => ∃ gl, e = .returned (.tuple #[.pointer (some ⟨gl, 0, none⟩), .int .i64 0]) ∧ LgB B w' gl gd D' L ∧ Below B w w' :=
  b_Open w h ha (Wl.Ok.of_open hR hL) hR
theorem b_dApp {B : Nat} {gd : Nat} {D D' : Dk.Dsk} {er t : Int} (a : Option Addr) (n c : Nat) (b : List (BitVec 8)) (w0 w : World) (h : DkB B w0 gd D) (hb : Below w0.heap.size w0 w) (ha : 0 ≤ D.acts ∧ D.acts ≤ 8000000000000000000) (hn : n = b.length) (hnl : n ≤ 140737488355328) (hs : Sl EU8 (fun k => k < B ∨ w0.heap.size ≤ k) w a b) (hR : Dk.app D t b = (D', er)) :
    Calls Try.prog 30 #[.pointer (some ⟨gd, 0, none⟩), .int .i64 t, .slice a n c] w fun e w' => e = .returned (.int .i64 er) ∧ DkB B w' gd D' ∧ Below B w w' := by
  have hsz := h.size
  obtain ⟨F, h1, h2, h3⟩ := h
  refine (disk_Append gd D t a n c b w (h1.keep hb) h2 ⟨ha.1, by omega⟩ hn (hs.mono (by decide) fun k hk _ => ⟨rfl, fun hf => ?_⟩) (by omega)).mono ?_
  · have := h3 k hf
    have := h1.flt k hf
    omega
  · rw [hR]
    rintro e w' ⟨rfl, F', g1, g2⟩
    refine ⟨rfl, ⟨F', g1, by have := Dk.ok_app h2 t b; rw [hR] at this; exact this, fun k hk => ?_⟩, g2.only.below (Nat.le_trans hsz hb.size) h3⟩
    rcases g2.foot k hk with h4 | h4
    · exact h3 k h4
    · have := hb.size; omega
theorem b_dFlush {B : Nat} {gd : Nat} {D D' : Dk.Dsk} {er t : Int} (w : World) (h : DkB B w gd D) (ha : 0 ≤ D.acts ∧ D.acts ≤ 8000000000000000000) (hR : Dk.flush D t = (D', er)) :
    Calls Try.prog 31 #[.pointer (some ⟨gd, 0, none⟩), .int .i64 t] w fun e w' => e = .returned (.int .i64 er) ∧ DkB B w' gd D' ∧ Below B w w' := by
  have hsz := h.size
  obtain ⟨F, h1, h2, h3⟩ := h
  refine (disk_Flush gd D t w h1 h2 ⟨ha.1, by omega⟩).mono ?_
  rw [hR]
  rintro e w' ⟨rfl, g1, g2⟩
  exact ⟨rfl, ⟨F, g1, by have := Dk.ok_flush h2 t; rw [hR] at this; exact this, h3⟩, g2.below hsz h3⟩
end Go.Proofs.Ytmmgnbdngpkfcaa

namespace Go.Proofs.Ytmmgnbdngpkfcaa
open Go.RowKit
set_option linter.unusedVariables false
theorem reads_byts : Reads Try.prog 50 (ESlice EBytes (by decide)) (bulkL (bulkL (fun _ => 1))) := reads_slice (by decide) Try.underlying50 (by kernel_rfl) reads_bytes
theorem low_u8 {B : Nat} {w : World} {a : Option Addr} {l : List (BitVec 8)} (hs : Sl EU8 (fun _ => True) w a l) (hB : w.heap.size = B) : Sl EU8 (fun k => k < B) w a l := by
  intro k x hx
  obtain ⟨b, o, e, _, cs, hr, hc⟩ := hs k x hx
  refine ⟨b, o, e, ?_, cs, hr, hc⟩
  obtain rfl : cs = [.int .u8 (bv x)] := hr
  rw [← hB]; exact cell_lt (hc 0 _ rfl)
theorem low_byts {B : Nat} {w : World} {a : Option Addr} {l : List (List (BitVec 8))} (hs : Sl EBytes (fun _ => True) w a l) (hB : w.heap.size = B) : Sl EBytes (fun k => k < B) w a l := by
  intro k x hx
  obtain ⟨b, o, e, _, cs, hr, hc⟩ := hs k x hx
  obtain ⟨a', c', rfl, h1, h2, h3⟩ := hr
  exact ⟨b, o, e, by rw [← hB]; exact cell_lt (hc 0 _ rfl), _, ⟨a', c', rfl, h1, h2, low_u8 h3 hB⟩, hc⟩
theorem byts_at {ok : Nat → Prop} {w : World} {a : Option Addr} {l : List (List (BitVec 8))} (h : Sl EBytes ok w a l) (k : Nat) (hk : k < l.length) :
    ∃ b o a' c', a = some ⟨b, o, none⟩ ∧ ok b ∧ w.cell? ⟨b, o + k, none⟩ = some (.slice a' l[k].length c') ∧ l[k].length ≤ c' ∧ c' ≤ maxLen ∧ Sl EU8 ok w a' l[k] := by
  obtain ⟨b, o, rfl, hb, cs, ⟨a', c', rfl, h1, h2, h3⟩, hc⟩ := h k l[k] (List.getElem?_eq_getElem hk)
  refine ⟨b, o, a', c', rfl, hb, ?_, h1, h2, h3⟩
  have := hc 0 _ rfl
  simpa [EBytes, ESlice] using this
theorem take_snoc' {α : Type} (l : List α) (k : Nat) (hk : k < l.length) : l.take (k + 1) = l.take k ++ [l[k]] := by
  rw [List.take_add_one, List.getElem?_eq_getElem hk]; rfl
theorem keep_low {α : Type} {E : Enc α} {B : Nat} {w w' : World} {a : Option Addr} {l : List α} (hE : 0 < E.sz) (hs : Sl E (fun k => k < B) w a l) (hb : Below B w w') : Sl E (fun k => k < B) w' a l :=
  hs.mono hE fun k hk _ => ⟨hb.block k hk, hk⟩
theorem low_or {α : Type} {E : Enc α} {B B1 N : Nat} {w w' : World} {a : Option Addr} {l : List α} (hE : 0 < E.sz) (hs : Sl E (fun k => k < B) w a l) (hB1 : B ≤ B1) (hb : Below B w w') : Sl E (fun k => k < B1 ∨ N ≤ k) w' a l :=
  hs.mono hE fun k hk _ => ⟨hb.block k hk, .inl (Nat.lt_of_lt_of_le hk hB1)⟩
theorem low_ne {α : Type} {E : Enc α} {B : Nat} {w w' : World} {a : Option Addr} {l : List α} (hE : 0 < E.sz) (hs : Sl E (fun k => k < B) w a l) (hb : Below B w w') (v : Value) (hv : ∀ x, v.ownBlock = some x → B ≤ x) : Sl E (fun b => some b ≠ v.ownBlock) w' a l :=
  hs.mono hE fun k hk _ => ⟨hb.block k hk, fun e => by have := hv k e.symm; omega⟩
section
variable {P : Program} {w : World} {ops : Array Oper} {rest : List Oper} {o : Oper} {a : Act} {Q : Exit → Act → World → Prop}
/-- append under a guard that is decided -/
theorem wpList_appG {α : Type} (E : Enc α) {t te : TypeId} {bytes base : Nat} {s x : Operand} {v : Value} {l l2 : List α} {ad : Option Addr} {m c : Nat}
    (hgd : Region.wanted o (yielded ops a.tmps) = true) (ho : o.op = .call { callee := .builtin .append, args := #[s, x], argTypes := #[t, t] }) (hs : a.eval s = v) (hx : a.eval x = .slice ad m c)
    (ti : ElemInfo P t te E.sz bytes) (hown : Own E te base w v l) (hm : m = l2.length) (hsl : Sl E (fun b => some b ≠ v.ownBlock) w ad l2)
    (h63 : l.length + l2.length ≤ maxLen) (hbytes : (l.length + l2.length) * bytes ≤ 140737488355328) (hbase : base ≤ w.heap.size)
    (h : ∀ v' w', Own E te base w' v' (l ++ l2) → w.grownBy w' v.ownBlock → (v'.ownBlock = v.ownBlock ∨ ∃ g, v'.ownBlock = some g ∧ w.heap.size ≤ g) → Below base w w' → wpList P ops Q rest (a.put o.dst v') w') : wpList P ops Q (o :: rest) a w :=
  BigFrame.wpList_want hgd fun K hK => step_app E ho hs hx ti hown hm hsl h63 hbytes hbase fun v' w' h1 h2 h3 h4 => hK _ _ (h v' w' h1 h2 h3 h4)
end
/-- one text in a block of its own, to be appended -/
theorem byts_box {B N n c2 : Nat} {te t2 : TypeId} {w6 : World} {a2 : Option Addr} {mo : List (BitVec 8)} {l : List (List (BitVec 8))} {v6 : Value} (hn : n = mo.length) (hc : n ≤ c2) (hm : c2 ≤ maxLen) (hs : Sl EU8 (fun k => k < B) w6 a2 mo) (ho : Own EBytes te N w6 v6 l) (hB : B ≤ N) (hN : N ≤ w6.heap.size) :
    Own EBytes te N (w6.alloc (.cells #[.slice a2 n c2] t2)) v6 l ∧ Sl EBytes (fun b => some b ≠ v6.ownBlock) (w6.alloc (.cells #[.slice a2 n c2] t2)) (some ⟨w6.heap.size, 0, none⟩) [mo] ∧ Below N w6 (w6.alloc (.cells #[.slice a2 n c2] t2)) := by
  subst hn
  have hb : Below N w6 (w6.alloc (.cells #[.slice a2 mo.length c2] t2)) := (alloc_below w6 _).mono hN
  refine ⟨ho.below (alloc_below _ _), sl_one (heap_alloc_new w6 _) ⟨a2, c2, rfl, hc, hm, ?_⟩ ho.fresh, hb⟩
  exact low_ne (by decide) hs (hb.mono hB) v6 fun x hx => Nat.le_trans hB (ho.lt x hx).1
theorem b_Read {B : Nat} {gd : Nat} {D : Dk.Dsk} {t : Int} {b : List (BitVec 8)} (w : World) (h : DkB B w gd D) (hR : Dk.read D t = (b, 0)) :
    Calls Try.prog 27 #[.pointer (some ⟨gd, 0, none⟩), .int .i64 t] w fun e w' => ∃ v, e = .returned (.tuple #[v, .int .i64 0]) ∧ Own EU8 5 w.heap.size w' v b ∧ DkB B w' gd D ∧ Below w.heap.size w w' := by
  have h0 := h
  obtain ⟨F, h1, h2, h3⟩ := h
  refine (disk_Read gd D t w.heap.size w rfl h1 h2).mono ?_
  rw [hR]
  rintro e w' ⟨v, rfl, ho, hb⟩
  exact ⟨v, rfl, ho, h0.keep hb, hb⟩
end Go.Proofs.Ytmmgnbdngpkfcaa

namespace Go.Proofs.Ytmmgnbdngpkfcaa.Wl
open Go.Proofs.Ytmmgnbdngpkfcaa Go.Proofs.Ytmmgnbdngpkfcaa.Bts Go.Proofs.Ytmmgnbdngpkfcaa.Frm
set_option linter.unusedVariables false

def fsOf (t m : Nat) (st : Byt) (ns : List Byt) : List (Int × Byt) := (1, hdata t m st) :: nfs ns
theorem fsOf_len (t m : Nat) (st : Byt) (ns : List Byt) : (fsOf t m st ns).length = ns.length + 1 := by simp [fsOf, nfs_len]
theorem tapeOf_fs (t m : Nat) (st : Byt) (ns : List Byt) (r : Byt) : tapeOf t m st ns r = encs (fsOf t m st ns) ++ r := by
  unfold tapeOf fsOf; rw [encs_cons, List.append_assoc]
theorem fsOf_fine {t m : Nat} {st : Byt} {ns : List Byt} (h : (hdata t m st).length ≤ 65536) (hn : ∀ n ∈ ns, n.length ≤ 65536) : ∀ x ∈ fsOf t m st ns, Fine x := by
  intro x hx
  rcases List.mem_cons.1 hx with rfl | hx
  · exact ⟨(by decide : (0 : Int) ≤ 1 ∧ (1 : Int) ≤ 255), h⟩
  · exact nfs_fine hn x hx
theorem off_step (fs : List (Int × Byt)) (k : Nat) : off fs k ≤ off fs (k + 1) := by
  by_cases hk : k < fs.length
  · rw [off_succ hk]; omega
  · rw [off_past (by omega), off_past (by omega)]; exact Nat.le_refl _
theorem off_mono (fs : List (Int × Byt)) (k n : Nat) : off fs k ≤ off fs (k + n) := by
  induction n with
  | zero => exact Nat.le_refl _
  | succ n ih => exact Nat.le_trans ih (off_step fs _)
theorem off_find (fs : List (Int × Byt)) (at_ : Nat) : ∀ n, at_ < off fs n → ∃ k, k < n ∧ off fs k ≤ at_ ∧ at_ < off fs (k + 1)
  | 0, h => by rw [off_zero] at h; omega
  | n + 1, h => by
    by_cases h1 : at_ < off fs n
    · obtain ⟨k, h2, h3⟩ := off_find fs at_ n h1
      exact ⟨k, by omega, h3⟩
    · exact ⟨n, by omega, by omega, h⟩
/-- a byte that is turned: some whole frames, and what is none -/
theorem set_turned (fs : List (Int × Byt)) (hf : ∀ x ∈ fs, Fine x) (at_ : Nat) (v : BitVec 8) (hlt : at_ < (encs fs).length) (hne : (encs fs)[at_] ≠ v) :
    ∃ k r, k < fs.length ∧ (encs fs).set at_ v = encs (fs.take k) ++ r ∧ Torn r ∧ r ≠ [] ∧ ∀ j, off fs (j + 1) ≤ at_ ↔ j < k := by
  obtain ⟨k, hk, h1, h2⟩ := off_find fs at_ fs.length (by rw [off_all]; exact hlt)
  have hag : ∀ i, i ≠ at_ → ((encs fs).set at_ v)[i]? = (encs fs)[i]? := fun i hi => List.getElem?_set_ne (by omega)
  obtain ⟨er, he, hs⟩ := scan_turned fs hf k hk ((encs fs).set at_ v) (by simp) at_ h1 h2 (fun i hi => hag i (by omega)) (fun _ i hi => hag i hi) (by
    intro e
    have e1 : ((encs fs).set at_ v)[at_]? = (encs fs)[at_]? := by rw [e]
    rw [List.getElem?_set_self hlt, List.getElem?_eq_getElem hlt] at e1
    injection e1 with e1
    exact hne e1.symm)
  have ht := scan_tells _ ((encs fs).set at_ v) (Nat.le_refl _)
  rw [hs] at ht
  have e0 : (encs fs).set at_ v = encs (fs.take k) ++ ((encs fs).set at_ v).drop (off fs k) := by
    rw [ht.1, List.take_append_drop]
  have hfk : ∀ x ∈ fs.take k, Fine x := fun x hx => hf x (List.mem_of_mem_take hx)
  have e2 := scan_encs (fs.take k) (((encs fs).set at_ v).drop (off fs k)) hfk
  rw [← e0, hs] at e2
  injection e2 with e3 e4 e5
  have e6 : (scan (((encs fs).set at_ v).drop (off fs k))).fs = [] := by
    have := congrArg List.length e3
    rw [List.length_append] at this
    exact List.eq_nil_of_length_eq_zero (by omega)
  refine ⟨k, ((encs fs).set at_ v).drop (off fs k), hk, e0, ?_, ?_, fun j => ⟨fun h => ?_, fun h => ?_⟩⟩
  · by_cases h0 : (dec (((encs fs).set at_ v).drop (off fs k))).err = 0
    · exfalso
      by_cases hl : (((encs fs).set at_ v).drop (off fs k)).length = 0
      · rw [List.eq_nil_of_length_eq_zero hl] at e5
        exact he e5
      · rw [scan_ok (by omega) h0] at e6
        cases e6
    · exact .inr h0
  · intro h
    rw [h] at e5
    exact he e5
  · by_cases hjk : j < k
    · exact hjk
    · have := off_mono fs (k + 1) (j - k)
      rw [show k + 1 + (j - k) = j + 1 by omega] at this
      omega
  · have := off_mono fs (j + 1) (k - (j + 1))
    rw [show j + 1 + (k - (j + 1)) = k by omega] at this
    omega
/-- the tape that was turned has a beginning of the notes, or none at all -/
theorem load_turned {t m : Nat} {st : Byt} {ns : List Byt} {k : Nat} {r : Byt} (ht : 1 ≤ t ∧ t ≤ 1099511627776) (hm : m ≤ 1099511627776) (hs : (hdata t m st).length ≤ 65536) (hn : ∀ n ∈ ns, n.length ≤ 65536) (hr : Torn r) (hk : k ≤ ns.length) :
    (k = 0 → load (encs ((fsOf t m st ns).take k) ++ r) = none) ∧ (∀ j, k = j + 1 → encs ((fsOf t m st ns).take k) ++ r = tapeOf t m st (ns.take j) r ∧
      load (encs ((fsOf t m st ns).take k) ++ r) = if j < m then none else some ⟨t, st, ns.take j, 12 + (hdata t m st).length + (encs (nfs (ns.take j))).length⟩) := by
  refine ⟨fun h => ?_, fun j h => ?_⟩
  · subst h
    rcases hr with rfl | hr
    · rfl
    · exact load_bad hr
  · subst h
    have e1 : encs ((fsOf t m st ns).take (j + 1)) ++ r = tapeOf t m st (ns.take j) r := by
      unfold fsOf tapeOf nfs
      rw [List.take_succ_cons, encs_cons, List.map_take, List.append_assoc]
    refine ⟨e1, ?_⟩
    rw [e1, load_tape t m st (ns.take j) r ht hm hs (fun n h => hn n (List.mem_of_mem_take h)) hr, List.length_take, Nat.min_eq_left (by omega)]

theorem encs_big {ns : List Byt} (h : ∀ n ∈ ns, n.length ≤ 65536) (hl : ns.length ≤ 1000) : (encs (nfs ns)).length ≤ 65548000 := by
  have h1 := encs_le h
  have h2 : ns.length * (12 + 65536) ≤ 1000 * (12 + 65536) := Nat.mul_le_mul_right (12 + 65536) hl
  exact Nat.le_trans h1 (Nat.le_trans h2 (by decide))
/-- the even tape counts -/
theorem open_even {D : Dk.Dsk} (hc : Calm D) {a : Nat} {sa : Byt} (ha : 1 ≤ a ∧ a ≤ 1000000) (he : a % 2 = 0) (hs : (hdata a 0 sa).length ≤ 65536) (h0 : (D.t 0).b = tapeOf a 0 sa [] []) (h1 : ∀ x, load (D.t 1).b = some x → ¬ (a < x.turn)) :
    openL D = (D, some ⟨a, sa, [], false⟩, 0) := by
  have hl := load_tape a 0 sa [] [] ⟨ha.1, by omega⟩ (by decide) hs (fun n hn => by cases hn) (.inl rfl)
  rw [if_neg (Nat.not_lt_zero _)] at hl
  have e0 : pick 0 (D.t 0).b (⟨0, [], [], false⟩, false) = (⟨a, sa, [], false⟩, false) := by
    unfold pick
    rw [h0, hl]
    simp only
    rw [if_pos ⟨by omega, he⟩, tapeOf_len]
    simp
  have e2 : picks D = (⟨a, sa, [], false⟩, false) := by
    unfold picks
    rw [e0]
    unfold pick
    cases hx : load (D.t 1).b with
    | none => rfl
    | some x =>
      simp only
      rw [if_neg fun h => h1 x hx h.1]
  unfold openL
  rw [if_neg (by rw [hc.down]; decide), e2, if_neg]
  rintro (h | h)
  · simp only at h; omega
  · cases h
/-- the odd tape counts -/
theorem open_odd {D : Dk.Dsk} (hc : Calm D) {a b m : Nat} {sa sb : Byt} {ns : List Byt} {r : Byt} (ha : 1 ≤ a) (hb : b % 2 = 1) (hab : a < b) (hok : Ok ⟨b, sb, ns, false⟩) (hm : m ≤ ns.length) (hsa : (hdata a 0 sa).length ≤ 65536) (hs : (hdata b m sb).length ≤ 65536)
    (h0 : (D.t 0).b = tapeOf a 0 sa [] []) (h1 : (D.t 1).b = tapeOf b m sb ns r) (hr : Torn r) (hroom : ((layB ⟨b, sb, ns, false⟩).length : Int) ≤ D.room) :
    ∃ D' t, openL D = (D', some ⟨t, sb, ns, false⟩, 0) ∧ Std D' ⟨t, sb, ns, false⟩ ∧ D'.room = D.room ∧ (D.acts ≤ D'.acts ∧ D'.acts ≤ D.acts + 3) ∧ ((r = [] ∧ t = b) ∨ (r ≠ [] ∧ t = b + 1)) := by
  have hbt := hok.turn
  simp only at hbt
  have hl := load_tape a 0 sa [] [] ⟨ha, by omega⟩ (by decide) hsa (fun n hn => by cases hn) (.inl rfl)
  rw [if_neg (Nat.not_lt_zero _)] at hl
  have hth : (D.t ((b + 1) % 2)).b = tapeOf a 0 sa [] [] := by rw [show (b + 1) % 2 = 0 by omega]; exact h0
  have hE : Std (Dk.setT D 1 { D.t 1 with b := tapeOf b m sb ns [] }) ⟨b, sb, ns, false⟩ := by
    refine ⟨hc.setT _ _, rfl, by show 1 ≤ b; omega, ⟨m, hm, hs, ?_⟩, .inr ⟨by show 2 ≤ b; omega, ?_, ?_⟩⟩
    · show ((Dk.setT D 1 { D.t 1 with b := tapeOf b m sb ns [] }).t (b % 2)).b = _
      rw [hb]
      simp [Dk.setT, Dk.upd_same]
    · show 0 < ((Dk.setT D 1 { D.t 1 with b := tapeOf b m sb ns [] }).t ((b + 1) % 2)).b.length
      rw [show (b + 1) % 2 = 0 by omega]
      simp only [Dk.setT, Dk.upd_other _ _ _ _ (by decide : (0 : Nat) ≠ 1)]
      rw [h0, tapeOf_len]; omega
    · show ∀ x, load ((Dk.setT D 1 { D.t 1 with b := tapeOf b m sb ns [] }).t ((b + 1) % 2)).b = some x → x.turn < b
      rw [show (b + 1) % 2 = 0 by omega]
      simp only [Dk.setT, Dk.upd_other _ _ _ _ (by decide : (0 : Nat) ≠ 1)]
      rw [h0, hl]
      intro x hx
      injection hx with hx
      subst hx
      exact hab
  by_cases hr0 : r = []
  · subst hr0
    have hD : Std D ⟨b, sb, ns, false⟩ := by
      refine ⟨hc, rfl, hE.turn, ⟨m, hm, hs, ?_⟩, ?_⟩
      · show (D.t (b % 2)).b = _
        rw [hb]; exact h1
      · refine .inr ⟨by show 2 ≤ b; omega, ?_, ?_⟩
        · show 0 < (D.t ((b + 1) % 2)).b.length
          rw [hth, tapeOf_len]; omega
        · show ∀ x, load (D.t ((b + 1) % 2)).b = some x → x.turn < b
          rw [hth, hl]
          intro x hx
          injection hx with hx
          subst hx
          exact hab
    exact ⟨D, b, open_std hD hok, hD, rfl, ⟨Int.le_refl _, by omega⟩, .inl ⟨rfl, rfl⟩⟩
  · obtain ⟨D', e1, e2, e3, e4⟩ := hE.torn hok r D hr hr0 hc (by
      show (D.t (b % 2)).b = ((Dk.setT D 1 { D.t 1 with b := tapeOf b m sb ns [] }).t (b % 2)).b ++ r
      rw [hb, h1]
      simp only [Dk.setT, Dk.upd_same]
      unfold tapeOf; simp) (by
      show (D.t ((b + 1) % 2)).b = ((Dk.setT D 1 { D.t 1 with b := tapeOf b m sb ns [] }).t ((b + 1) % 2)).b
      rw [show (b + 1) % 2 = 0 by omega]
      simp only [Dk.setT, Dk.upd_other _ _ _ _ (by decide : (0 : Nat) ≠ 1)]) hroom
    exact ⟨D', b + 1, e1, e2, e3, ⟨by omega, by omega⟩, .inr ⟨hr0, rfl⟩⟩
end Go.Proofs.Ytmmgnbdngpkfcaa.Wl

namespace Go.Proofs.Ytmmgnbdngpkfcaa
open Go.RowKit
set_option linter.unusedVariables false

set_option maxHeartbeats 400000 in
theorem law17_four (B : Nat) (x : BitVec 64) (w : World) (hB : w.heap.size = B) :
    Calls Try.prog 112 #[.int .u64 (bv x)] w fun e w' => ∃ a c, e = .returned (.slice a 4 c) ∧ RB w' a 4 (Frm.q4 x) ∧ Own EU8 5 B w' (.slice a 4 c) (Frm.q4 x) ∧ Below B w w' := by
  subst hB
  go_enter Try.func112, Try.ntmps112
  go_wp2
  go_ret
  refine ⟨_, _, rfl, ⟨rfl, sl_cells (heap_alloc_new w _) rfl trivial⟩, .inr ⟨w.heap.size, 4, _, rfl, Nat.le_refl _, heap_alloc_new w _, Nat.le_refl _, by unfold maxLen; omega, rfl, ?_⟩, (Below.refl _ _).alloc (Nat.le_refl _) _⟩
  intro k y hy
  refine ⟨[.int .u8 (bv y)], rfl, fun j u hj => ?_⟩
  have hj0 : j = 0 := by have := (List.getElem?_eq_some_iff.1 hj).1; simp at this; exact this
  subst hj0
  simp at hj; subst hj
  have hk : k < 4 := (List.getElem?_eq_some_iff.1 hy).1
  have : k = 0 ∨ k = 1 ∨ k = 2 ∨ k = 3 := by omega
  rcases this with rfl | rfl | rfl | rfl <;> (simp [Frm.q4] at hy; subst hy; simp [EU8])

set_option maxHeartbeats 1600000 in
theorem law17_text (B : Nat) (k : Int) (a : Option Addr) (n c : Nat) (d : List (BitVec 8)) (w : World) (hB : w.heap.size = B) (hk : 0 ≤ k ∧ k ≤ 255) (hn : n ≤ 65536) (hr : RB w a n d) :
    Calls Try.prog 74 #[.int .i64 k, .slice a n c] w fun e w' => ∃ v, e = .returned v ∧ Own EU8 5 B w' v (Frm.enc k d) ∧ Below B w w' := by
  have hn' : ¬ (65536 : Int) < (n : Int) := by omega
  have Hh := Lib.hid (Frm.hd_64 k n hk hn)
  have HB := Lib.hid hB
  clear hB
  go_enter Try.func74, Try.ntmps74
  go_wp2_with fail
  refine (law17_four B _ _ HB.out).mono ?_
  rintro e w1 ⟨a1, n1, rfl, r1, ho1, hb1⟩
  rw [Hh.out, Frm.q4_be] at r1 ho1
  have hs1 : B ≤ w1.heap.size := by have := hb1.size; rw [HB.out] at this; exact this
  go_wp2_with fail
  refine (ref_Sum _ _ _ (Frm.enc1 k n) _ r1 (by unfold maxLen; omega)).mono ?_
  rintro e w' ⟨rfl, rfl⟩
  go_wp2_with fail
  refine (law17_four w1.heap.size _ _ rfl).mono ?_
  rintro e w2 ⟨a2, n2, rfl, r2, ho2, hb2⟩
  rw [Frm.q4_be] at r2 ho2
  have ho1b : Own EU8 5 B w2 (.slice a1 4 n1) (Frm.enc1 k n) := ho1.below hb2
  have hsrc : Sl EU8 (fun b => some b ≠ (Value.slice a1 4 n1).ownBlock) w2 a2 (Frm.be (Crc.sum (Frm.enc1 k n))) := ho2.slB.mono (by decide) fun q hq _ => ⟨rfl, fun e => by have := (ho1.lt _ e.symm).2; omega⟩
  go_wp2_with (refine wpList_app (l2 := Frm.be (Crc.sum (Frm.enc1 k n))) (m := 4) EU8 rfl rfl rfl rfl ti_bytes ho1b rfl hsrc ?_ ?_ ?_ ?_)
  · simp [Frm.enc1, Frm.be, maxLen]
  · simp [Frm.enc1, Frm.be]
  · have := hb2.size; omega
  intro v3 w3 ho3 hg3 hv3 hb3
  obtain ⟨a3, n3, rfl, _, _, r3, ho3'⟩ := ho3.shape 8 rfl
  have hbw3 : Below B w w3 := (hb1.trans (hb2.mono hs1)).trans hb3
  have rd : RB w3 a n d := hr.below (by rw [HB.out]; exact hbw3)
  have hs3 : B ≤ w3.heap.size := by have := hbw3.size; rw [HB.out] at this; exact this
  have hm : n ≤ maxLen := by unfold maxLen; omega
  have hdn : n = d.length := hr.1
  have Hdn := Lib.hid hdn
  clear ho3 hdn
  have hsum := Lib.hid (Crc.sum_app (Frm.enc2 k n) d)
  have hl2 : (Frm.enc2 k n).length = 8 := rfl
  have hl2d : 8 + n = (Frm.enc2 k n ++ d).length := by rw [List.length_append, ← Hdn.out, hl2]
  have Hl2 := Lib.hid hl2
  have Hl2d := Lib.hid hl2d
  have Hr3 : Hid (RB w3 a3 8 (Frm.enc2 k n)) := Lib.hid r3
  have Ho3 : Hid (Own EU8 5 B w3 (.slice a3 8 n3) (Frm.enc2 k n)) := Lib.hid ho3'
  clear hl2 hl2d r3 ho3' ho1 ho1b ho2 hsrc r1 r2 hg3 hv3
  go_wp2_with fail
  refine (ref_Copy_at w3.heap.size _ _ _ (Frm.enc2 k n) _ rfl Hr3.out (by omega)).mono ?_
  rintro e w4 ⟨v4, rfl, ho4, hb4⟩
  have hsd4 : Sl EU8 (fun b => some b ≠ v4.ownBlock) w4 a d := hr.2.foreign (by decide) (by rw [HB.out]; exact hbw3.trans (hb4.mono hs3)) ho4 (by rw [HB.out]; exact hs3)
  go_wp2_with (refine wpList_app (l2 := d) (m := n) EU8 rfl rfl rfl rfl ti_bytes ho4 Hdn.out hsd4 ?_ ?_ ?_ ?_)
  · rw [Hl2.out, ← Hdn.out]; unfold maxLen; omega
  · rw [Hl2.out, ← Hdn.out]; omega
  · exact hb4.size
  intro v5 w5 ho5 hg5 hv5 hb5
  obtain ⟨a5, n5, rfl, _, _, r5, _⟩ := ho5.shape (8 + n) Hl2d.out
  have hz5 : w3.heap.size ≤ w5.heap.size := Nat.le_trans hb4.size hb5.size
  clear ho5 hg5 hv5 hsd4 ho4
  go_wp2_with fail
  refine (ref_Sum _ _ _ (Frm.enc2 k n ++ d) _ r5 (by unfold maxLen; omega)).mono ?_
  rintro e w' ⟨rfl, rfl⟩
  clear r5
  go_wp2_with fail
  refine (law17_four w5.heap.size _ _ rfl).mono ?_
  rintro e w6 ⟨a6, n6, rfl, r6, ho6, hb6⟩
  rw [Frm.q4_be] at ho6
  have hb36 : Below w3.heap.size w3 w6 := (hb4.trans hb5).trans (hb6.mono hz5)
  have ho36 := Ho3.out.below hb36
  have hs6 : Sl EU8 (fun b => some b ≠ (Value.slice a3 8 n3).ownBlock) w6 a6 (Frm.be (Crc.sum (Frm.enc2 k n ++ d))) := ho6.slB.mono (by decide) fun q hq _ => ⟨rfl, fun e => by have := (Ho3.out.lt _ e.symm).2; omega⟩
  go_wp2_with (refine wpList_app (l2 := Frm.be (Crc.sum (Frm.enc2 k n ++ d))) (m := 4) EU8 rfl rfl rfl rfl ti_bytes ho36 rfl hs6 ?_ ?_ ?_ ?_)
  · simp [Frm.enc2, Frm.enc1, Frm.be, maxLen]
  · simp [Frm.enc2, Frm.enc1, Frm.be]
  · have := hb36.size; omega
  intro v7 w7 ho7 hg7 hv7 hb7
  have ho7' : Own EU8 5 B w7 v7 (Frm.enc3 k d) := by
    rw [hsum.out] at ho7
    unfold Frm.enc3; rw [← Hdn.out]; exact ho7
  have hbw7 := hbw3.trans ((hb36.mono hs3).trans hb7)
  have hsd : Sl EU8 (fun b => some b ≠ v7.ownBlock) w7 a d := hr.2.foreign (by decide) (by rw [HB.out]; exact hbw7) ho7' (by rw [HB.out]; exact Nat.le_refl _)
  have hs7 : B ≤ w7.heap.size := by have := hbw7.size; rw [HB.out] at this; exact this
  clear ho7 hs6 ho6 ho36 r6 hg7 hv7
  go_wp2_with (refine wpList_app (l2 := d) (m := n) EU8 rfl rfl rfl rfl ti_bytes ho7' Hdn.out hsd ?_ ?_ ?_ ?_)
  · rw [Frm.enc3_len, ← Hdn.out]; unfold maxLen; omega
  · rw [Frm.enc3_len, ← Hdn.out]; omega
  · exact hs7
  · intro v' w' ho' hg hv hb'
    go_wp2_with fail
    go_ret
    exact ⟨_, rfl, ho', hbw7.trans hb'⟩

set_option maxRecDepth 100000 in
set_option maxHeartbeats 1600000 in
theorem law17_front (B : Nat) (t : BitVec 64) (m : Nat) (w : World) (hB : w.heap.size = B) (hm : m ≤ 1000000) :
    Calls Try.prog 28 #[.int .u64 (bv t), .int .i64 m] w fun e w' => ∃ v, e = .returned v ∧ Own EU8 5 B w' v (Wl.front t (BitVec.ofNat 64 m)) ∧ Below B w w' := by
  have hm64 : IntKind.u64.wrap (m : Int) = bv (BitVec.ofNat 64 m) := by
    rw [wrap64u]
    congr 1
  have Hm := Lib.hid hm64
  have HB := Lib.hid hB
  have l1 := Wl.num_len_le t
  have l2 := Wl.num_len_le (BitVec.ofNat 64 m)
  clear hB
  go_enter Try.func28, Try.ntmps28
  go_wp2_with fail
  refine (ref_Num t B w HB.out).mono ?_
  rintro e w1 ⟨v1, rfl, ho1, hb1⟩
  have hs1 : B ≤ w1.heap.size := by have := hb1.size; rw [HB.out] at this; exact this
  go_wp2_with fail
  refine (ref_Num (BitVec.ofNat 64 m) w1.heap.size w1 rfl).mono ?_
  rintro e w2 ⟨v2, rfl, ho2, hb2⟩
  obtain ⟨n2, hn2⟩ : ∃ n, n = (Bts.asB (Bts.num (BitVec.ofNat 64 m))).length := ⟨_, rfl⟩
  obtain ⟨a2, c2, rfl, _, _, r2, ho2'⟩ := ho2.shape n2 hn2
  have ho12 := ho1.below hb2
  have hsl : Sl EU8 (fun b => some b ≠ v1.ownBlock) w2 a2 (Bts.asB (Bts.num (BitVec.ofNat 64 m))) := ho2'.slB.mono (by decide) fun q hq _ => ⟨rfl, fun e => by have := (ho1.lt _ e.symm).2; omega⟩
  have k1 : (Bts.asB (Bts.num t)).length ≤ 129 := by rw [Bts.asB_len]; exact l1
  have k2 : (Bts.asB (Bts.num (BitVec.ofNat 64 m))).length ≤ 129 := by rw [Bts.asB_len]; exact l2
  have Hk1 := Lib.hid k1
  have Hk2 := Lib.hid k2
  have Hn2 := Lib.hid hn2
  clear k1 k2 l1 l2 ho1 ho2 ho2' r2 hn2
  go_wp2_with (refine wpList_app (l2 := Bts.asB (Bts.num (BitVec.ofNat 64 m))) (m := n2) EU8 rfl rfl rfl rfl ti_bytes ho12 Hn2.out hsl ?_ ?_ ?_ ?_)
  · have := Hk1.out; have := Hk2.out; unfold maxLen; omega
  · have := Hk1.out; have := Hk2.out; omega
  · exact Nat.le_trans hs1 hb2.size
  intro v3 w3 ho3 hg3 hv3 hb3
  have hb13 : Below B w w3 := (hb1.trans (hb2.mono hs1)).trans hb3
  rw [← Bts.asB_app] at ho3
  obtain ⟨n3, hn3⟩ : ∃ n, n = (Bts.asB (Bts.num t ++ Bts.num (BitVec.ofNat 64 m))).length := ⟨_, rfl⟩
  obtain ⟨a3, c3, rfl, _, _, r3, _⟩ := ho3.shape n3 hn3
  have hn3l : n3 ≤ 300 := by
    have := Hk1.out; have := Hk2.out
    rw [hn3, Bts.asB_app, List.length_append]; omega
  have hs3 : B ≤ w3.heap.size := by have := hb13.size; rw [HB.out] at this; exact this
  clear hn3 ho3 hsl ho12 hg3 hv3
  go_wp2_with fail
  refine (ref_Bytes _ _ _ (Bts.num t ++ Bts.num (BitVec.ofNat 64 m)) w3.heap.size w3 rfl r3 (by omega)).mono ?_
  rintro e w4 ⟨v4, rfl, ho4, hb4⟩
  go_wp2_with fail
  go_ret
  exact ⟨_, rfl, ho4.base hs3, hb13.trans (hb4.mono hs3)⟩

set_option maxRecDepth 100000 in
set_option maxHeartbeats 1600000 in
theorem law17_lay {B gd : Nat} {D D1 D2 : Dk.Dsk} (t : Int) (turn : Nat) (m : Nat) (a1 : Option Addr) (n1 c1 : Nat) (st : List (BitVec 8)) (a2 : Option Addr) (n2 c2 : Nat) (ns : List (List (BitVec 8))) (w : World) (h : DkB B w gd D) (ha : 0 ≤ D.acts ∧ D.acts ≤ 4000000000000000000) (hm : m ≤ 1000000) (hst : n1 ≤ 60000) (hs : RB w a1 n1 st) (hn2 : n2 ≤ 1000) (hns : RS EBytes w a2 n2 ns) (hnl : ∀ n ∈ ns, n.length ≤ 65536)
    (h1 : Dk.app D t (Wl.tapeOf turn m st ns []) = (D1, 0)) (h2 : Dk.flush D1 t = (D2, 0)) (ha1 : 0 ≤ D1.acts ∧ D1.acts ≤ 8000000000000000000) :
    Calls Try.prog 26 #[.pointer (some ⟨gd, 0, none⟩), .int .i64 t, .int .u64 (bv (BitVec.ofNat 64 turn)), .int .i64 m, .slice a1 n1 c1, .slice a2 n2 c2] w fun e w' => e = .returned (.bool true) ∧ DkB B w' gd D2 ∧ Below B w w' := by
  obtain ⟨N, hN⟩ : ∃ N, N = w.heap.size := ⟨_, rfl⟩
  have HN := Lib.hid hN.symm
  have hBN : B ≤ N := by rw [hN]; exact h.size
  obtain ⟨f, hf⟩ : ∃ f, f = Wl.front (BitVec.ofNat 64 turn) (BitVec.ofNat 64 m) := ⟨_, rfl⟩
  obtain ⟨nf, hnf⟩ : ∃ n, n = f.length := ⟨_, rfl⟩
  have hfl : nf ≤ 33 := by rw [hnf, hf]; exact Wl.front_len _ _
  have hhd : Wl.hdata turn m st = BitVec.ofNat 8 nf :: (f ++ st) := by rw [hnf, hf]; rfl
  have hu8 : IntKind.u8.wrap (nf : Int) = bv (BitVec.ofNat 8 nf) := by
    rw [wrap8]; congr 1
  have Hhd := Lib.hid hhd
  have Hf := Lib.hid hf
  have Hnf := Lib.hid hnf
  have Hs := Lib.hid hs
  have Hns := Lib.hid hns
  have H1 := Lib.hid h1
  have H2 := Lib.hid h2
  have Hnl := Lib.hid hnl
  clear hN hf hnf hhd hs hns h1 h2 hnl
  go_enter Try.func26, Try.ntmps26
  go_wp2_with fail
  refine (law17_front N (BitVec.ofNat 64 turn) m w HN.out hm).mono ?_
  rw [← Hf.out]
  rintro e w1 ⟨v1, rfl, ho1, hb1⟩
  obtain ⟨a3, c3, rfl, _, _, r3, ho1'⟩ := ho1.shape nf Hnf.out
  have hs1 : N ≤ w1.heap.size := by have := hb1.size; rw [HN.out] at this; exact this
  obtain ⟨w2, hw2⟩ : ∃ x, x = w1.alloc (.cells #[.int .u8 (bv (BitVec.ofNat 8 nf))] 5) := ⟨_, rfl⟩
  have hb12 : Below w1.heap.size w1 w2 := by rw [hw2]; exact alloc_below _ _
  have ho2 : Own EU8 5 w1.heap.size w2 (.slice (some ⟨w1.heap.size, 0, none⟩) 1 1) [BitVec.ofNat 8 nf] := by rw [hw2]; exact own_u8 _ _ _
  have hsl2 : Sl EU8 (fun b => some b ≠ (Value.slice (some ⟨w1.heap.size, 0, none⟩) 1 1).ownBlock) w2 a3 f := ho1'.slB.mono (by decide) fun q hq hlt => ⟨hb12.block q hlt, by simp [Value.ownBlock]; omega⟩
  have hst1 : n1 = st.length := Hs.out.1
  have hhl : (Wl.hdata turn m st).length = 1 + nf + n1 := by rw [Hhd.out, List.length_cons, List.length_append, ← Hnf.out, ← hst1]; omega
  obtain ⟨hd, hhde⟩ : ∃ x, x = Wl.hdata turn m st := ⟨_, rfl⟩
  have Hhe := Lib.hid hhde
  rw [← hhde] at hhl Hhd
  have Hst1 := Lib.hid hst1
  have Hhl := Lib.hid hhl
  have hslow := low_u8 Hs.out.2 HN.out
  have hnlow := low_byts Hns.out.2 HN.out
  have Hnlow := Lib.hid hnlow
  have Hn2 : Hid (n2 = ns.length) := Lib.hid Hns.out.1
  have hf40 : (Frm.encs (Wl.nfs ns)).length ≤ 65548000 := Wl.encs_big Hnl.out (by rw [← Hn2.out]; exact hn2)
  have Hf40 := Lib.hid hf40
  clear ho1 r3 hst1 hhl hhde hnlow hf40
  go_wp2_with (first
    | (at_builtin
       rw [← hw2]
       refine wpList_app EU8 (l2 := f) (m := nf) rfl rfl (by rfl) (by rfl) ti_bytes ho2 Hnf.out hsl2 (by rw [List.length_singleton, ← Hnf.out]; unfold maxLen; omega) (by rw [List.length_singleton, ← Hnf.out]; omega) hb12.size ?_
       intro v6 w6 ho6 hg6 hv6 hb6
       clear hw2
       have hbw6 : Below N w w6 := hb1.trans ((hb12.trans hb6).mono hs1)
       have hs6 := low_ne (by decide) hslow hbw6 v6 (fun x hx => Nat.le_trans hs1 (ho6.lt x hx).1))
    | (at_builtin
       refine wpList_app EU8 (l2 := st) (m := n1) rfl rfl (by rfl) (by rfl) ti_bytes ho6 Hst1.out hs6 (by rw [List.length_append, List.length_singleton, ← Hnf.out, ← Hst1.out]; unfold maxLen; omega) (by rw [List.length_append, List.length_singleton, ← Hnf.out, ← Hst1.out]; omega) (Nat.le_trans hb12.size hb6.size) ?_
       intro v7 w7 ho7 hg7 hv7 hb7
       have ho7 : Own EU8 5 w1.heap.size w7 v7 hd := by rw [Hhd.out]; simpa using ho7
       have hbw7 : Below N w w7 := hb1.trans (((hb12.trans hb6).trans hb7).mono hs1)
       obtain ⟨nh, hnh⟩ : ∃ n, n = hd.length := ⟨_, rfl⟩
       obtain ⟨a7, c7, rfl, hc7, hm7, hr7, ho7'⟩ := ho7.shape nh hnh
       have hnhl : nh ≤ 65536 := by rw [hnh, Hhl.out]; omega
       clear hnh ho7 ho7' ho6 hs6 hg6 hv6 hg7 hv7))
  refine (law17_text w7.heap.size 1 _ _ _ hd _ rfl (by decide) hnhl hr7).mono ?_
  rintro e w8 ⟨v8, rfl, ho8, hb8⟩
  have hN7 : N ≤ w7.heap.size := by have := hbw7.size; rw [HN.out] at this; exact this
  have hbw8 := hbw7.trans (hb8.mono hN7)
  have ho8 := ho8.base hN7
  clear hr7 hb8 hb7 hb6 hbw7 hbw6 hsl2 ho2 hb12 hb1
  go_wp2_with fail
  go_loopw [14, 31] (fun v i wr => ∃ k : Nat, k ≤ n2 ∧ i = .int .i64 k ∧ Own EU8 5 N wr v (Frm.enc 1 hd ++ Frm.encs (Wl.nfs (ns.take k))) ∧ Below N w wr) (fun _ i _ => n2 - (intOf i).toNat)
  case atStart => exact ⟨0, Nat.zero_le _, rfl, by simpa [Wl.nfs, Frm.encs] using ho8, hbw8⟩
  case round =>
    clear ho8 hbw8
    obtain ⟨k, hk, rfl, ho, hb⟩ := hrel
    obtain ⟨nb, hnb⟩ : ∃ n, n = (Frm.enc 1 hd ++ Frm.encs (Wl.nfs (ns.take k))).length := ⟨_, rfl⟩
    have hnb2 : nb ≤ 65613600 := by
      have e1 : (Frm.encs (Wl.nfs (ns.take k))).length ≤ (Frm.encs (Wl.nfs ns)).length := by
        have : Frm.encs (Wl.nfs ns) = Frm.encs (Wl.nfs (ns.take k)) ++ Frm.encs (Wl.nfs (ns.drop k)) := by rw [← Frm.encs_app, ← Wl.nfs_app, List.take_append_drop]
        rw [this, List.length_append]; omega
      have := Hf40.out
      have := Hhl.out
      rw [hnb, List.length_append, Frm.enc_len]; omega
    have hNr : N ≤ wr.heap.size := by have := hb.size; rw [HN.out] at this; exact this
    obtain ⟨a9, c9, rfl, hc9, hm9, _, ho9⟩ := ho.shape nb hnb
    have Hnb := Lib.hid hnb
    clear ho hnb
    by_cases hlt : k < n2
    · have hki : (k : Int) < (n2 : Int) := by omega
      have hkn : k < ns.length := by rw [← Hn2.out]; exact hlt
      obtain ⟨b6, o6, a7, c7, rfl, -, p1, p2, p3, p4⟩ := byts_at (keep_low (by decide) Hnlow.out hb) k hkn
      obtain ⟨d, hd6⟩ : ∃ x, x = ns[k] := ⟨_, rfl⟩
      have htk : Frm.encs (Wl.nfs (ns.take (k + 1))) = Frm.encs (Wl.nfs (ns.take k)) ++ Frm.enc 2 d := by
        rw [take_snoc' ns k hkn, ← hd6, Wl.nfs_app, Frm.encs_app]; simp [Wl.nfs, Frm.encs]
      have hdl : d.length ≤ 65536 := by rw [hd6]; exact Hnl.out _ (List.getElem_mem hkn)
      rw [← hd6] at p1 p2 p4
      obtain ⟨nd, hnd⟩ : ∃ n, n = d.length := ⟨_, rfl⟩
      rw [← hnd] at p1 p2 hdl
      unfold maxLen at p3
      have p5 : RB wr a7 nd d := ⟨hnd, p4.any (by decide)⟩
      have Htk := Lib.hid htk
      have Hnd := Lib.hid hnd
      have P5 := Lib.hid p5
      clear hd6 hnd htk p4 p5 hkn
      go_wp2_with fail
      refine (law17_text wr.heap.size 2 _ _ _ d wr rfl (by decide) hdl P5.out).mono ?_
      rintro e w5 ⟨v5, rfl, ho5, hb5⟩
      obtain ⟨n5, hn5⟩ : ∃ n, n = (Frm.enc 2 d).length := ⟨_, rfl⟩
      obtain ⟨a5, c5, rfl, _, _, _, ho5'⟩ := ho5.shape n5 hn5
      have hn5l : n5 ≤ 65548 := by rw [hn5, Frm.enc_len, ← Hnd.out]; omega
      have ho95 := ho9.below hb5
      have hs5 : Sl EU8 (fun b => some b ≠ (Value.slice a9 nb c9).ownBlock) w5 a5 (Frm.enc 2 d) := ho5'.slB.mono (by decide) fun q hq _ => ⟨rfl, fun e => by have := (ho9.lt _ e.symm).2; omega⟩
      have Hn5 := Lib.hid hn5
      clear hn5 ho5 ho5'
      go_wp2_with (first
        | (at_builtin
           refine wpList_app EU8 (l2 := Frm.enc 2 d) (m := n5) rfl rfl (by rfl) (by rfl) ti_bytes ho95 Hn5.out hs5 (by rw [← Hnb.out, ← Hn5.out]; unfold maxLen; omega) (by rw [← Hnb.out, ← Hn5.out]; omega) (Nat.le_trans hNr hb5.size) ?_
           intro v6 w6 ho6 hg6 hv6 hb6
           clear hs5 ho95 hg6 hv6))
      refine ⟨⟨k + 1, by omega, by go_num, ?_, hb.trans ((hb5.mono hNr).trans hb6)⟩, by simp [intOf]; omega⟩
      rw [Htk.out, ← List.append_assoc]; exact ho6
    · obtain rfl : k = n2 := by omega
      have hfull : ns.take k = ns := by rw [List.take_of_length_le (by rw [← Hn2.out]; exact Nat.le_refl _)]
      have htp : Frm.enc 1 hd ++ Frm.encs (Wl.nfs (ns.take k)) = Wl.tapeOf turn m st ns [] := by
        rw [hfull, Hhe.out]; unfold Wl.tapeOf; rw [List.append_nil]
      rw [htp] at ho9 Hnb
      have hs9 : Sl EU8 (fun q => q < B ∨ w.heap.size ≤ q) wr a9 (Wl.tapeOf turn m st ns []) := ho9.slB.mono (by decide) fun q hq _ => ⟨rfl, .inr (by rw [HN.out]; exact hq)⟩
      have hbx : Below w.heap.size w wr := by rw [HN.out]; exact hb
      have hend : Below B w wr := hb.mono hBN
      clear hfull htp ho9 hlt
      go_wp2_with fail
      refine (b_dApp a9 nb c9 _ w wr h hbx (by omega) Hnb.out (by omega) hs9 H1.out).mono ?_
      rintro e w5 ⟨rfl, h5, hb5⟩
      have hb5 := hend.trans hb5
      clear hs9 hbx hend
      go_wp2_with fail
      refine (b_dFlush w5 h5 ha1 H2.out).mono ?_
      rintro e w6 ⟨rfl, h6, hb6⟩
      have hb6 := hb5.trans hb6
      clear h5 hb5
      go_wp2_with fail
      go_ret
      exact ⟨rfl, h6, hb6⟩
end Go.Proofs.Ytmmgnbdngpkfcaa

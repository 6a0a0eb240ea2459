
/-
  What a log comes to over a whole law, while the power stays: plain laws.
-/
import Derived.Test.YtmmgnbdngpkfcaaWalO
namespace Go.Proofs.Ytmmgnbdngpkfcaa.Wl
open Go.Proofs.Ytmmgnbdngpkfcaa Go.Proofs.Ytmmgnbdngpkfcaa.Bts Go.Proofs.Ytmmgnbdngpkfcaa.Frm
set_option linter.unusedVariables false

theorem lay_same (D : Dk.Dsk) (L : Lg) : (lay D L).2.1.state = L.state ∧ (lay D L).2.1.notes = L.notes ∧ L.turn ≤ (lay D L).2.1.turn := by
  unfold lay
  split
  · exact ⟨rfl, rfl, Nat.le_refl _⟩
  · split
    · exact ⟨rfl, rfl, Nat.le_refl _⟩
    · split
      · exact ⟨rfl, rfl, Nat.le_refl _⟩
      · exact ⟨rfl, rfl, Nat.le_succ _⟩
theorem Ok.of_same {L L' : Lg} (h : Ok L') (h1 : L'.state = L.state) (h2 : L'.notes = L.notes) (h3 : L.turn ≤ L'.turn) : Ok L :=
  ⟨Nat.le_trans h3 h.turn, by rw [← h1]; exact h.state, by rw [← h2]; exact h.note, by rw [← h2]; exact h.all⟩
/-- what is opened can be laid: so could what was found -/
theorem Ok.of_open {D D' : Dk.Dsk} {L : Lg} {e : Int} (h : openL D = (D', some L, e)) (hok : Ok L) : Ok (picks D).1 := by
  unfold openL at h
  split at h
  · simp at h
  · split at h
    · split at h
      · simp at h
      · simp only [Prod.mk.injEq, Option.some.injEq] at h
        obtain ⟨h1, h2, h3⟩ := lay_same D (picks D).1
        rw [h.2.1] at h1 h2 h3
        exact hok.of_same h1 h2 h3
    · simp only [Prod.mk.injEq, Option.some.injEq] at h
      rw [h.2.1]; exact hok
theorem encs_le {ns : List Byt} {k : Nat} (h : ∀ n ∈ ns, n.length ≤ k) : (encs (nfs ns)).length ≤ ns.length * (12 + k) := by
  induction ns with
  | nil => simp [nfs, encs]
  | cons n ns ih =>
    have h1 := ih fun x hx => h x (by simp [hx])
    have h2 := h n (by simp)
    have e : encs (nfs (n :: ns)) = enc 2 n ++ encs (nfs ns) := by simp [nfs, encs]
    rw [e, List.length_append, enc_len, List.length_cons, Nat.add_mul]
    omega
theorem Std.tape_le {D : Dk.Dsk} {L : Lg} (h : Std D L) : (D.t (L.turn % 2)).b.length ≤ 46 + L.state.length + (encs (nfs L.notes)).length := by
  obtain ⟨m, hm, hs, hb⟩ := h.here
  rw [hb, tapeOf_len]
  have := hdata_len L.turn m L.state
  simp only [List.length_nil]
  omega
theorem layB_le (L : Lg) : (layB L).length ≤ 46 + L.state.length + (encs (nfs L.notes)).length := by
  rw [layB_tape, tapeOf_len]
  have := hdata_len (L.turn + 1) L.notes.length L.state
  simp only [List.length_nil]
  omega
theorem ok_of {L : Lg} (ht : L.turn ≤ 1000000) (hs : L.state.length ≤ 500) (hn : ∀ n ∈ L.notes, n.length ≤ 500) (hl : L.notes.length ≤ 1000) : Ok L := by
  refine ⟨by omega, by omega, fun n h => Nat.le_trans (hn n h) (by decide), ?_⟩
  have := encs_le hn
  have : L.notes.length * (12 + 500) ≤ 1000 * (12 + 500) := Nat.mul_le_mul_right _ hl
  omega
theorem ok_one' : Ok ⟨1, [], [], false⟩ := ok_of (by decide) (by decide) (fun n hn => by cases hn) (by decide)
/-- junk behind the notes -/
theorem torn_any {D D1 D2 : Dk.Dsk} {L : Lg} (h : Std D L) (hok : Ok L) (ht : L.turn = 1) (r : Byt) (hr : r.length ≤ 11) (hroom : ((layB L).length : Int) ≤ D.room) (hroom2 : ((D.t 1).b.length : Int) + r.length ≤ D.room)
    (h1 : Dk.app D 1 r = (D1, 0)) (h2 : Dk.flush D1 1 = (D2, 0)) :
    ∃ D3 t, openL D2 = (D3, some ⟨t, L.state, L.notes, false⟩, 0) ∧ Std D3 ⟨t, L.state, L.notes, false⟩ ∧ D3.room = D.room ∧ 0 ≤ D3.acts - D.acts ∧ D3.acts ≤ D.acts + 5 ∧ (t = 1 ∨ t = 2) := by
  obtain ⟨E1, e1, a1, a2, a3, a4, a5⟩ := app_calm h.calm 1 (by decide) r (by simpa using hroom2)
  rw [h1] at e1
  injection e1 with e1
  subst e1
  obtain ⟨E2, e2, b1, b2, b3, b4, b5⟩ := flush_calm a1 1 (by decide)
  rw [h2] at e2
  injection e2 with e2
  subst e2
  have a4' : (D1.t 1).b = (D.t 1).b ++ r := a4
  have hb : (D2.t (L.turn % 2)).b = (D.t (L.turn % 2)).b ++ r := by rw [ht]; show (D2.t 1).b = _; rw [b4, a4']
  have ho : (D2.t ((L.turn + 1) % 2)).b = (D.t ((L.turn + 1) % 2)).b := by rw [ht, b4]; exact congrArg Dk.Tp.b (a5 0 (by decide))
  by_cases h0 : r = []
  · subst h0
    rw [List.append_nil] at hb
    have hs2 : Std D2 L := by
      refine ⟨b1, h.live, h.turn, ?_, ?_⟩
      · rw [hb]; exact h.here
      · rw [ho]; exact h.there
    have := open_std hs2 hok
    have he : (⟨1, L.state, L.notes, false⟩ : Lg) = L := by rw [← ht]; exact lg_eta h.live
    exact ⟨D2, 1, by rw [he]; exact this, by rw [he]; exact hs2, by rw [b2, a2], by omega, by omega, .inl rfl⟩
  · obtain ⟨D', g1, g2, g3, g4⟩ := h.torn hok r D2 (torn_short hr) h0 b1 hb ho (by rw [b2, a2]; exact hroom)
    have he : ({ L with turn := L.turn + 1 } : Lg) = ⟨2, L.state, L.notes, false⟩ := by rw [ht, h.live]
    rw [he] at g1 g2
    exact ⟨D', 2, g1, g2, by rw [g3, b2, a2], by omega, by omega, .inr rfl⟩
end Go.Proofs.Ytmmgnbdngpkfcaa.Wl

namespace Go.Proofs.Ytmmgnbdngpkfcaa
open Go.RowKit
set_option linter.unusedVariables false
theorem b_Open' {B : Nat} {gd : Nat} {D D' : Dk.Dsk} {L : Wl.Lg} (w : World) (h : DkB B w gd D) (ha : 0 ≤ D.acts ∧ D.acts ≤ 8000000000000000000) (hL : Wl.Ok L) (hR : Wl.openL D = (D', some L, 0)) :
    Calls Try.prog 32 #[.pointer (some ⟨gd, 0, none⟩)] w fun e w' => ∃ gl, e = .returned (.tuple #[.pointer (some ⟨gl, 0, none⟩), .int .i64 0]) ∧ LgB B w' gl gd D' L ∧ Below B w w' :=
  b_Open w h ha (Wl.Ok.of_open hR hL) hR
theorem b_dApp {B : Nat} {gd : Nat} {D D' : Dk.Dsk} {er t : Int} (a : Option Addr) (n c : Nat) (b : List (BitVec 8)) (w0 w : World) (h : DkB B w0 gd D) (hb : Below w0.heap.size w0 w) (ha : 0 ≤ D.acts ∧ D.acts ≤ 8000000000000000000) (hn : n = b.length) (hnl : n ≤ 140737488355328) (hs : Sl EU8 (fun k => k < B ∨ w0.heap.size ≤ k) w a b) (hR : Dk.app D t b = (D', er)) :
    Calls Try.prog 30 #[.pointer (some ⟨gd, 0, none⟩), .int .i64 t, .slice a n c] w fun e w' => e = .returned (.int .i64 er) ∧ DkB B w' gd D' ∧ Below B w w' := by
  have hsz := h.size
  obtain ⟨F, h1, h2, h3⟩ := h
  refine (disk_Append gd D t a n c b w (h1.keep hb) h2 ⟨ha.1, by omega⟩ hn (hs.mono (by decide) fun k hk _ => ⟨rfl, fun hf => ?_⟩) (by omega)).mono ?_
  · have := h3 k hf
    have := h1.flt k hf
    omega
  · rw [hR]
    rintro e w' ⟨rfl, F', g1, g2⟩
    refine ⟨rfl, ⟨F', g1, by have := Dk.ok_app h2 t b; rw [hR] at this; exact this, fun k hk => ?_⟩, g2.only.below (Nat.le_trans hsz hb.size) h3⟩
    rcases g2.foot k hk with h4 | h4
    · exact h3 k h4
    · have := hb.size; omega
theorem b_dFlush {B : Nat} {gd : Nat} {D D' : Dk.Dsk} {er t : Int} (w : World) (h : DkB B w gd D) (ha : 0 ≤ D.acts ∧ D.acts ≤ 8000000000000000000) (hR : Dk.flush D t = (D', er)) :
    Calls Try.prog 31 #[.pointer (some ⟨gd, 0, none⟩), .int .i64 t] w fun e w' => e = .returned (.int .i64 er) ∧ DkB B w' gd D' ∧ Below B w w' := by
  have hsz := h.size
  obtain ⟨F, h1, h2, h3⟩ := h
  refine (disk_Flush gd D t w h1 h2 ⟨ha.1, by omega⟩).mono ?_
  rw [hR]
  rintro e w' ⟨rfl, g1, g2⟩
  exact ⟨rfl, ⟨F, g1, by have := Dk.ok_flush h2 t; rw [hR] at this; exact this, h3⟩, g2.below hsz h3⟩
end Go.Proofs.Ytmmgnbdngpkfcaa

namespace Go.Proofs.Ytmmgnbdngpkfcaa
open Go.RowKit
set_option linter.unusedVariables false
theorem reads_byts : Reads Try.prog 50 (ESlice EBytes (by decide)) (bulkL (bulkL (fun _ => 1))) := reads_slice (by decide) Try.underlying50 (by kernel_rfl) reads_bytes
theorem low_u8 {B : Nat} {w : World} {a : Option Addr} {l : List (BitVec 8)} (hs : Sl EU8 (fun _ => True) w a l) (hB : w.heap.size = B) : Sl EU8 (fun k => k < B) w a l := by
  intro k x hx
  obtain ⟨b, o, e, _, cs, hr, hc⟩ := hs k x hx
  refine ⟨b, o, e, ?_, cs, hr, hc⟩
  obtain rfl : cs = [.int .u8 (bv x)] := hr
  rw [← hB]; exact cell_lt (hc 0 _ rfl)
theorem low_byts {B : Nat} {w : World} {a : Option Addr} {l : List (List (BitVec 8))} (hs : Sl EBytes (fun _ => True) w a l) (hB : w.heap.size = B) : Sl EBytes (fun k => k < B) w a l := by
  intro k x hx
  obtain ⟨b, o, e, _, cs, hr, hc⟩ := hs k x hx
  obtain ⟨a', c', rfl, h1, h2, h3⟩ := hr
  exact ⟨b, o, e, by rw [← hB]; exact cell_lt (hc 0 _ rfl), _, ⟨a', c', rfl, h1, h2, low_u8 h3 hB⟩, hc⟩
theorem byts_at {ok : Nat → Prop} {w : World} {a : Option Addr} {l : List (List (BitVec 8))} (h : Sl EBytes ok w a l) (k : Nat) (hk : k < l.length) :
    ∃ b o a' c', a = some ⟨b, o, none⟩ ∧ ok b ∧ w.cell? ⟨b, o + k, none⟩ = some (.slice a' l[k].length c') ∧ l[k].length ≤ c' ∧ c' ≤ maxLen ∧ Sl EU8 ok w a' l[k] := by
  obtain ⟨b, o, rfl, hb, cs, ⟨a', c', rfl, h1, h2, h3⟩, hc⟩ := h k l[k] (List.getElem?_eq_getElem hk)
  refine ⟨b, o, a', c', rfl, hb, ?_, h1, h2, h3⟩
  have := hc 0 _ rfl
  simpa [EBytes, ESlice] using this
theorem take_snoc' {α : Type} (l : List α) (k : Nat) (hk : k < l.length) : l.take (k + 1) = l.take k ++ [l[k]] := by
  rw [List.take_add_one, List.getElem?_eq_getElem hk]; rfl
theorem keep_low {α : Type} {E : Enc α} {B : Nat} {w w' : World} {a : Option Addr} {l : List α} (hE : 0 < E.sz) (hs : Sl E (fun k => k < B) w a l) (hb : Below B w w') : Sl E (fun k => k < B) w' a l :=
  hs.mono hE fun k hk _ => ⟨hb.block k hk, hk⟩
theorem low_or {α : Type} {E : Enc α} {B B1 N : Nat} {w w' : World} {a : Option Addr} {l : List α} (hE : 0 < E.sz) (hs : Sl E (fun k => k < B) w a l) (hB1 : B ≤ B1) (hb : Below B w w') : Sl E (fun k => k < B1 ∨ N ≤ k) w' a l :=
  hs.mono hE fun k hk _ => ⟨hb.block k hk, .inl (Nat.lt_of_lt_of_le hk hB1)⟩
theorem low_ne {α : Type} {E : Enc α} {B : Nat} {w w' : World} {a : Option Addr} {l : List α} (hE : 0 < E.sz) (hs : Sl E (fun k => k < B) w a l) (hb : Below B w w') (v : Value) (hv : ∀ x, v.ownBlock = some x → B ≤ x) : Sl E (fun b => some b ≠ v.ownBlock) w' a l :=
  hs.mono hE fun k hk _ => ⟨hb.block k hk, fun e => by have := hv k e.symm; omega⟩
section
variable {P : Program} {w : World} {ops : Array Oper} {rest : List Oper} {o : Oper} {a : Act} {Q : Exit → Act → World → Prop}
/-- append under a guard that is decided -/
theorem wpList_appG {α : Type} (E : Enc α) {t te : TypeId} {bytes base : Nat} {s x : Operand} {v : Value} {l l2 : List α} {ad : Option Addr} {m c : Nat}
    (hgd : Region.wanted o (yielded ops a.tmps) = true) (ho : o.op = .call { callee := .builtin .append, args := #[s, x], argTypes := #[t, t] }) (hs : a.eval s = v) (hx : a.eval x = .slice ad m c)
    (ti : ElemInfo P t te E.sz bytes) (hown : Own E te base w v l) (hm : m = l2.length) (hsl : Sl E (fun b => some b ≠ v.ownBlock) w ad l2)
    (h63 : l.length + l2.length ≤ maxLen) (hbytes : (l.length + l2.length) * bytes ≤ 140737488355328) (hbase : base ≤ w.heap.size)
    (h : ∀ v' w', Own E te base w' v' (l ++ l2) → w.grownBy w' v.ownBlock → (v'.ownBlock = v.ownBlock ∨ ∃ g, v'.ownBlock = some g ∧ w.heap.size ≤ g) → Below base w w' → wpList P ops Q rest (a.put o.dst v') w') : wpList P ops Q (o :: rest) a w :=
  BigFrame.wpList_want hgd fun K hK => step_app E ho hs hx ti hown hm hsl h63 hbytes hbase fun v' w' h1 h2 h3 h4 => hK _ _ (h v' w' h1 h2 h3 h4)
end
/-- one text in a block of its own, to be appended -/
theorem byts_box {B N n c2 : Nat} {te t2 : TypeId} {w6 : World} {a2 : Option Addr} {mo : List (BitVec 8)} {l : List (List (BitVec 8))} {v6 : Value} (hn : n = mo.length) (hc : n ≤ c2) (hm : c2 ≤ maxLen) (hs : Sl EU8 (fun k => k < B) w6 a2 mo) (ho : Own EBytes te N w6 v6 l) (hB : B ≤ N) (hN : N ≤ w6.heap.size) :
    Own EBytes te N (w6.alloc (.cells #[.slice a2 n c2] t2)) v6 l ∧ Sl EBytes (fun b => some b ≠ v6.ownBlock) (w6.alloc (.cells #[.slice a2 n c2] t2)) (some ⟨w6.heap.size, 0, none⟩) [mo] ∧ Below N w6 (w6.alloc (.cells #[.slice a2 n c2] t2)) := by
  subst hn
  have hb : Below N w6 (w6.alloc (.cells #[.slice a2 mo.length c2] t2)) := (alloc_below w6 _).mono hN
  refine ⟨ho.below (alloc_below _ _), sl_one (heap_alloc_new w6 _) ⟨a2, c2, rfl, hc, hm, ?_⟩ ho.fresh, hb⟩
  exact low_ne (by decide) hs (hb.mono hB) v6 fun x hx => Nat.le_trans hB (ho.lt x hx).1
theorem b_Read {B : Nat} {gd : Nat} {D : Dk.Dsk} {t : Int} {b : List (BitVec 8)} (w : World) (h : DkB B w gd D) (hR : Dk.read D t = (b, 0)) :
    Calls Try.prog 27 #[.pointer (some ⟨gd, 0, none⟩), .int .i64 t] w fun e w' => ∃ v, e = .returned (.tuple #[v, .int .i64 0]) ∧ Own EU8 5 w.heap.size w' v b ∧ DkB B w' gd D ∧ Below w.heap.size w w' := by
  have h0 := h
  obtain ⟨F, h1, h2, h3⟩ := h
  refine (disk_Read gd D t w.heap.size w rfl h1 h2).mono ?_
  rw [hR]
  rintro e w' ⟨v, rfl, ho, hb⟩
  exact ⟨v, rfl, ho, h0.keep hb, hb⟩
end Go.Proofs.Ytmmgnbdngpkfcaa

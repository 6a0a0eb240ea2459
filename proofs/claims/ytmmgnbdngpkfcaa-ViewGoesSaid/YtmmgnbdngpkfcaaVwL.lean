/-
  A member's memory: its row, its maps, what it is about to give out.
-/
import Derived.Test.YtmmgnbdngpkfcaaVwM
namespace Go.Proofs.Ytmmgnbdngpkfcaa
open Go.RowKit
set_option linter.unusedVariables false

def msgRow (m : Vw.Msg) (lv dv : Value) : List Value := [.int .i64 m.kind, .int .i64 m.frm, .int .i64 m.to_, .int .i64 m.shard, .int .i64 m.view, .int .i64 m.normal, .int .i64 m.at_, .int .i64 m.commit, .int .i64 m.id, .int .i64 m.err, lv, dv]
def EMsg : Enc Vw.Msg where
  sz := 12
  rep ok w cs m := ∃ la lc da dc, cs = msgRow m (.slice la m.list.length lc) (.slice da m.data.length dc) ∧ (m.list.length ≤ lc ∧ lc ≤ maxLen) ∧ Sl EBytes ok w la m.list ∧ (m.data.length ≤ dc ∧ dc ≤ maxLen) ∧ Sl EU8 ok w da m.data
  len h := by obtain ⟨_, _, _, _, rfl, _⟩ := h; rfl
  one h := by
    obtain ⟨_, _, _, _, rfl, _⟩ := h
    intro u hu
    simp only [msgRow, List.mem_cons, List.not_mem_nil, or_false] at hu
    rcases hu with rfl | rfl | rfl | rfl | rfl | rfl | rfl | rfl | rfl | rfl | rfl | rfl <;> rfl
  mono h hk := by
    obtain ⟨la, lc, da, dc, e, h1, h2, h3, h4⟩ := h
    exact ⟨la, lc, da, dc, e, h1, h2.mono (by decide) hk, h3, h4.mono (by decide) hk⟩
def recRow (r : Vw.Rc) (dv : Value) : List Value := [.int .i64 r.kind, .int .i64 r.a, .int .i64 r.b, dv]
def ERec : Enc Vw.Rc where
  sz := 4
  rep ok w cs r := ∃ da dc, cs = recRow r (.slice da r.data.length dc) ∧ (r.data.length ≤ dc ∧ dc ≤ maxLen) ∧ Sl EU8 ok w da r.data
  len h := by obtain ⟨_, _, rfl, _⟩ := h; rfl
  one h := by
    obtain ⟨_, _, rfl, _⟩ := h
    intro u hu
    simp only [recRow, List.mem_cons, List.not_mem_nil, or_false] at hu
    rcases hu with rfl | rfl | rfl | rfl <;> rfl
  mono h hk := by
    obtain ⟨da, dc, e, h1, h2⟩ := h
    exact ⟨da, dc, e, h1, h2.mono (by decide) hk⟩
theorem ti_recs : ElemInfo Try.prog 96 98 ERec.sz 48 := ElemInfo.mk' (z := .agg #[.int .i64 0, .int .i64 0, .int .i64 0, .slice none 0 0]) Try.underlying96 (by kernel_rfl) rfl (by decide)
theorem ti_mails : ElemInfo Try.prog 83 89 EMsg.sz 128 := ElemInfo.mk' (z := .agg #[.int .i64 0, .int .i64 0, .int .i64 0, .int .i64 0, .int .i64 0, .int .i64 0, .int .i64 0, .int .i64 0, .int .i64 0, .int .i64 0, .slice none 0 0, .slice none 0 0]) Try.underlying83 (by kernel_rfl) rfl (by decide)
theorem ti_texts : ElemInfo Try.prog 50 49 EBytes.sz 24 := ElemInfo.mk' (z := .slice none 0 0) Try.underlying50 (by kernel_rfl) rfl (by decide)

/-- what a map says of a message -/
def MsgO (ok : Nat → Prop) (w : World) : Option Value → Option Vw.Msg → Prop
  | none, none => True
  | some v, some m => ∃ cs, v = .agg cs.toArray ∧ EMsg.rep ok w cs m
  | _, _ => False
theorem MsgO.mono {ok ok' : Nat → Prop} {w w' : World} {v : Option Value} {m : Option Vw.Msg} (h : MsgO ok w v m) (hk : ∀ k, ok k → k < w.heap.size → w'.heap[k]? = w.heap[k]? ∧ ok' k) : MsgO ok' w' v m := by
  cases v <;> cases m <;> simp only [MsgO] at h ⊢
  obtain ⟨cs, e, hr⟩ := h
  exact ⟨cs, e, EMsg.mono hr hk⟩
theorem MsgO.some {ok : Nat → Prop} {w : World} {v : Option Value} {m : Option Vw.Msg} (h : MsgO ok w v m) : v.isSome = m.isSome := by
  cases v <;> cases m <;> simp only [MsgO] at h ⊢ <;> rfl

/-- where a member's parts lie -/
structure Lo where
  la : Option Addr
  lc : Nat
  hb : Nat
  bb : Nat
  db : Nat
  rv : Value
  mv : Value
  dv : Value
def coreRow (c : Vw.Core) (L : Lo) : Array Value :=
  #[.int .i64 c.me, .int .i64 c.n, .int .i64 c.shard, .int .i64 c.pat, .int .i64 0, .int .i64 c.keep.view, .int .i64 c.keep.normal, .slice L.la c.keep.log.length L.lc, .bool c.ch, .int .i64 c.commit, .int .i64 c.idle, .map (some L.hb), .map (some L.bb), .map (some L.db), L.rv, L.mv, L.dv]
namespace Vw
def Small (l : List Bs) : Prop := l.length ≤ 2000 ∧ ∀ b ∈ l, b.length ≤ 4000
structure Right (c : Core) : Prop where
  n : 1 ≤ c.n ∧ c.n ≤ 7
  me : 1 ≤ c.me ∧ c.me ≤ c.n
  pat : 1 ≤ c.pat ∧ c.pat ≤ 1000000000000
  view : 0 ≤ c.keep.view ∧ c.keep.view ≤ 1099511627776
  log : Small c.keep.log
  commit : c.commit ≤ 2000
  idle : 0 ≤ c.idle ∧ c.idle ≤ 1000000000000
  begun : ∀ z, c.begun z = true → 1 ≤ z ∧ z ≤ c.n
  dos : ∀ z m, c.dos z = some m → (1 ≤ z ∧ z ≤ c.n) ∧ Small m.list
  has : ∀ z, 0 ≤ c.has z ∧ c.has z ≤ 2000
end Vw
structure VwP (M : Col) (w : World) (c : Vw.Core) (L : Lo) : Prop where
  dom : ∀ k, M k ≠ 0 → k < w.heap.size
  lc : c.keep.log.length ≤ L.lc ∧ L.lc ≤ maxLen
  log : Sl EBytes (Im M) w L.la c.keep.log
  hc : M L.hb = 2
  has : ∃ f, IMap w L.hb 8 f ∧ (∀ z, (f z).getD (.int .i64 0) = .int .i64 (c.has z)) ∧ ∀ z, (f z).isSome = true → 0 ≤ z ∧ z < 8
  bc : M L.bb = 3
  begun : IMap w L.bb 8 (fun z => if c.begun z = true then some (.bool true) else none)
  dc : M L.db = 4
  dos : ∃ f, IMap w L.db 8 f ∧ ∀ z, MsgO (Im M) w (f z) (c.dos z)
  recs : OwnV M 5 ERec 98 w L.rv c.recs
  msgs : OwnV M 6 EMsg 89 w L.mv c.msgs
  done : OwnV M 7 EBytes 49 w L.dv c.done
structure VwL (M : Col) (w : World) (g : Nat) (c : Vw.Core) (L : Lo) : Prop where
  row : w.heap[g]? = some (.cells (coreRow c L) 164 (0, 0))
  gc : M g = 1
  p : VwP M w c L
  right : Vw.Right c
def VwAt (M : Col) (w : World) (g : Nat) (c : Vw.Core) : Prop := ∃ L, VwL M w g c L
section
variable {M M1 : Col} {w w1 : World} {g : Nat} {c c' : Vw.Core} {L L' : Lo}
theorem VwL.lt (h : VwL M w g c L) : g < w.heap.size := (Array.getElem?_eq_some_iff.1 h.row).1
theorem VwL.cell (h : VwL M w g c L) (k : Nat) {v : Value} (hv : (coreRow c L)[k]? = some v) : w.cell? ⟨g, k, none⟩ = some v := by simp [World.cell?, h.row, hv]
theorem VwL.fz (h : VwL M w g c L) (o : Nat) : w.frozen? ⟨g, o, none⟩ = false := by simp [World.frozen?, h.row]
theorem map_turn {i j b n : Nat} {f : Int → Option Value} (h : IMap w b n f) (hc : M b = i) (t : Turn j M w M1 w1) (hij : i ≠ j) : IMap w1 b n f ∧ M1 b = i :=
  ⟨h.keep (t.block h.lt (by rw [hc]; exact hij)), (t.old b h.lt).trans hc⟩
theorem Sl.turn {α : Type} {j : Nat} {E : Enc α} {a : Option Addr} {l : List α} (hs : 0 < E.sz) (h : Sl E (Im M) w a l) (t : Turn j M w M1 w1) (hj : 1 ≤ j ∧ j ≤ 7) : Sl E (Im M1) w1 a l := h.fr hs (t.fr hj)
theorem MsgO.turn {j : Nat} {v : Option Value} {m : Option Vw.Msg} (h : MsgO (Im M) w v m) (t : Turn j M w M1 w1) (hj : 1 ≤ j ∧ j ≤ 7) : MsgO (Im M1) w1 v m :=
  h.mono fun k ho hk => ⟨(t.fr hj).block hk ho, (t.fr hj).zero hk ho⟩
theorem turn_dom {j : Nat} (hd : ∀ k, M k ≠ 0 → k < w.heap.size) (t : Turn j M w M1 w1) : ∀ k, M1 k ≠ 0 → k < w1.heap.size := fun k hk => by
  rcases Nat.lt_or_ge k w.heap.size with h | h
  · exact Nat.lt_of_lt_of_le h t.only.size
  · exact t.dom k h hk
/-- a turn of the row alone leaves all parts -/
theorem VwP.turn1 (h : VwP M w c L) (t : Turn 1 M w M1 w1) : VwP M1 w1 c L := by
  obtain ⟨f, h1, h2, h3⟩ := h.has
  obtain ⟨fd, d1, d2⟩ := h.dos
  exact ⟨turn_dom h.dom t, h.lc, h.log.turn (by decide) t (by decide), (map_turn h1 h.hc t (by decide)).2, ⟨f, (map_turn h1 h.hc t (by decide)).1, h2, h3⟩, (map_turn h.begun h.bc t (by decide)).2, (map_turn h.begun h.bc t (by decide)).1,
    (map_turn d1 h.dc t (by decide)).2, ⟨fd, (map_turn d1 h.dc t (by decide)).1, fun z => (d2 z).turn t (by decide)⟩, h.recs.turn t (by decide) (by decide), h.msgs.turn t (by decide) (by decide), h.done.turn t (by decide) (by decide)⟩
/-- the row is written anew; what its parts hold is told of the new world -/
theorem VwL.put (h : VwL M w g c L) (ho : Only (· = g) w w1) (hr : w1.heap[g]? = some (.cells (coreRow c' L') 164 (0, 0))) (hp : VwP M w c' L') (hR : Vw.Right c') : VwL M w1 g c' L' ∧ Fr M w M w1 := by
  have t : Turn 1 M w M w1 := Turn.of_only h.p.dom ho fun k hk => by rw [hk]; exact h.gc
  exact ⟨⟨hr, h.gc, hp.turn1 t, hR⟩, t.fr (by decide)⟩
/-- another world, what was there stays -/
theorem VwL.below (h : VwL M w g c L) (hb : Below w.heap.size w w1) : VwL M w1 g c L := by
  have t : Turn 1 M w M w1 := Turn.of_below h.p.dom hb
  exact ⟨(hb.block g h.lt).trans h.row, h.gc, h.p.turn1 t, h.right⟩
theorem VwP.turn5 {v : Value} {l : List Vw.Rc} (h : VwP M w c L) (t : Turn 5 M w M1 w1) (hn : OwnV M1 5 ERec 98 w1 v l) : VwP M1 w1 { c with recs := l } { L with rv := v } := by
  obtain ⟨f, h1, h2, h3⟩ := h.has
  obtain ⟨fd, d1, d2⟩ := h.dos
  exact ⟨turn_dom h.dom t, h.lc, h.log.turn (by decide) t (by decide), (map_turn h1 h.hc t (by decide)).2, ⟨f, (map_turn h1 h.hc t (by decide)).1, h2, h3⟩, (map_turn h.begun h.bc t (by decide)).2, (map_turn h.begun h.bc t (by decide)).1,
    (map_turn d1 h.dc t (by decide)).2, ⟨fd, (map_turn d1 h.dc t (by decide)).1, fun z => (d2 z).turn t (by decide)⟩, hn, h.msgs.turn t (by decide) (by decide), h.done.turn t (by decide) (by decide)⟩
theorem VwP.turn6 {v : Value} {l : List Vw.Msg} (h : VwP M w c L) (t : Turn 6 M w M1 w1) (hn : OwnV M1 6 EMsg 89 w1 v l) : VwP M1 w1 { c with msgs := l } { L with mv := v } := by
  obtain ⟨f, h1, h2, h3⟩ := h.has
  obtain ⟨fd, d1, d2⟩ := h.dos
  exact ⟨turn_dom h.dom t, h.lc, h.log.turn (by decide) t (by decide), (map_turn h1 h.hc t (by decide)).2, ⟨f, (map_turn h1 h.hc t (by decide)).1, h2, h3⟩, (map_turn h.begun h.bc t (by decide)).2, (map_turn h.begun h.bc t (by decide)).1,
    (map_turn d1 h.dc t (by decide)).2, ⟨fd, (map_turn d1 h.dc t (by decide)).1, fun z => (d2 z).turn t (by decide)⟩, h.recs.turn t (by decide) (by decide), hn, h.done.turn t (by decide) (by decide)⟩
theorem VwP.turn7 {v : Value} {l : List Vw.Bs} (h : VwP M w c L) (t : Turn 7 M w M1 w1) (hn : OwnV M1 7 EBytes 49 w1 v l) : VwP M1 w1 { c with done := l } { L with dv := v } := by
  obtain ⟨f, h1, h2, h3⟩ := h.has
  obtain ⟨fd, d1, d2⟩ := h.dos
  exact ⟨turn_dom h.dom t, h.lc, h.log.turn (by decide) t (by decide), (map_turn h1 h.hc t (by decide)).2, ⟨f, (map_turn h1 h.hc t (by decide)).1, h2, h3⟩, (map_turn h.begun h.bc t (by decide)).2, (map_turn h.begun h.bc t (by decide)).1,
    (map_turn d1 h.dc t (by decide)).2, ⟨fd, (map_turn d1 h.dc t (by decide)).1, fun z => (d2 z).turn t (by decide)⟩, h.recs.turn t (by decide) (by decide), h.msgs.turn t (by decide) (by decide), hn⟩
/-- an entry of 'has' -/
theorem VwP.turn2 {hf : Int → Int} (h : VwP M w c L) (t : Turn 2 M w M w1) (hn : ∃ f, IMap w1 L.hb 8 f ∧ (∀ z, (f z).getD (.int .i64 0) = .int .i64 (hf z)) ∧ ∀ z, (f z).isSome = true → 0 ≤ z ∧ z < 8) : VwP M w1 { c with has := hf } L := by
  obtain ⟨f, h1, h2, h3⟩ := h.has
  obtain ⟨fd, d1, d2⟩ := h.dos
  exact ⟨turn_dom h.dom t, h.lc, h.log.turn (by decide) t (by decide), h.hc, hn, (map_turn h.begun h.bc t (by decide)).2, (map_turn h.begun h.bc t (by decide)).1,
    (map_turn d1 h.dc t (by decide)).2, ⟨fd, (map_turn d1 h.dc t (by decide)).1, fun z => (d2 z).turn t (by decide)⟩, h.recs.turn t (by decide) (by decide), h.msgs.turn t (by decide) (by decide), h.done.turn t (by decide) (by decide)⟩
theorem VwP.turn3 {bf : Int → Bool} (h : VwP M w c L) (t : Turn 3 M w M w1) (hn : IMap w1 L.bb 8 (fun z => if bf z = true then some (.bool true) else none)) : VwP M w1 { c with begun := bf } L := by
  obtain ⟨f, h1, h2, h3⟩ := h.has
  obtain ⟨fd, d1, d2⟩ := h.dos
  exact ⟨turn_dom h.dom t, h.lc, h.log.turn (by decide) t (by decide), (map_turn h1 h.hc t (by decide)).2, ⟨f, (map_turn h1 h.hc t (by decide)).1, h2, h3⟩, h.bc, hn,
    (map_turn d1 h.dc t (by decide)).2, ⟨fd, (map_turn d1 h.dc t (by decide)).1, fun z => (d2 z).turn t (by decide)⟩, h.recs.turn t (by decide) (by decide), h.msgs.turn t (by decide) (by decide), h.done.turn t (by decide) (by decide)⟩
theorem VwP.turn4 {df : Int → Option Vw.Msg} (h : VwP M w c L) (t : Turn 4 M w M w1) (hn : ∃ f, IMap w1 L.db 8 f ∧ ∀ z, MsgO (Im M) w1 (f z) (df z)) : VwP M w1 { c with dos := df } L := by
  obtain ⟨f, h1, h2, h3⟩ := h.has
  exact ⟨turn_dom h.dom t, h.lc, h.log.turn (by decide) t (by decide), (map_turn h1 h.hc t (by decide)).2, ⟨f, (map_turn h1 h.hc t (by decide)).1, h2, h3⟩, (map_turn h.begun h.bc t (by decide)).2, (map_turn h.begun h.bc t (by decide)).1,
    h.dc, hn, h.recs.turn t (by decide) (by decide), h.msgs.turn t (by decide) (by decide), h.done.turn t (by decide) (by decide)⟩
/-- a block that is somebody else's for a while -/
def updC (M : Col) (q i : Nat) : Col := fun k => if k = q then i else M k
theorem updC_same (M : Col) (q i : Nat) : updC M q i q = i := if_pos rfl
theorem updC_other (M : Col) {q k : Nat} (i : Nat) (h : k ≠ q) : updC M q i k = M k := if_neg h
theorem VwL.box (h : VwL M w g c L) (o : Obj) : VwL (updC M w.heap.size 9) (w.alloc o) g c L ∧ Fr M w (updC M w.heap.size 9) (w.alloc o) := by
  have hb : Below w.heap.size w (w.alloc o) := (Below.refl _ _).alloc (Nat.le_refl _) _
  have hold : ∀ k, k < w.heap.size → updC M w.heap.size 9 k = M k := fun k hk => updC_other M 9 (by omega)
  have f : Fr M w (updC M w.heap.size 9) (w.alloc o) := ⟨Go.Proofs.Ytmmgnbdngpkfcaa.Below.only hb, fun k hk _ => hold k hk⟩
  have own : ∀ {α : Type} {i : Nat} {E : Enc α} {te : TypeId} {v : Value} {l : List α}, OwnV M i E te w v l → OwnV (updC M w.heap.size 9) i E te (w.alloc o) v l := by
    intro α i E te v l h
    rcases h with h | ⟨g, cap, cur, hv, hg, hh, h1, h2, h3, h4⟩
    · exact .inl h
    · have hgz := (Array.getElem?_eq_some_iff.1 hh).1
      refine .inr ⟨g, cap, cur, hv, (hold g hgz).trans hg, (hb.block g hgz).trans hh, h1, h2, h3, fun k x hx => ?_⟩
      obtain ⟨cs, hr, hc⟩ := h4 k x hx
      exact ⟨cs, E.mono hr fun b hb' hlt => ⟨f.block hlt hb', f.zero hlt hb'⟩, hc⟩
  obtain ⟨f1, h1, h2, h3⟩ := h.p.has
  obtain ⟨fd, d1, d2⟩ := h.p.dos
  have km : ∀ {b n : Nat} {f : Int → Option Value}, IMap w b n f → IMap (w.alloc o) b n f := fun hm => hm.keep (hb.block _ hm.lt)
  refine ⟨⟨(hb.block g h.lt).trans h.row, (hold g h.lt).trans h.gc, ⟨fun k hk => ?_, h.p.lc, h.p.log.fr (by decide) f, (hold _ h1.lt).trans h.p.hc, ⟨f1, km h1, h2, h3⟩, (hold _ h.p.begun.lt).trans h.p.bc, km h.p.begun, (hold _ d1.lt).trans h.p.dc,
    ⟨fd, km d1, fun z => (d2 z).mono fun k hk hlt => ⟨f.block hlt hk, f.zero hlt hk⟩⟩, own h.p.recs, own h.p.msgs, own h.p.done⟩, h.right⟩, f⟩
  by_cases hq : k = w.heap.size
  · simp; omega
  · rw [updC_other M 9 hq] at hk
    have := h.p.dom k hk
    simp; omega
theorem VwL.unbox {q : Nat} (h : VwL M w g c L) (hq : M q = 9) (ho : Only (· = q) w w1) : VwL (updC M q 0) w1 g c L := by
  have hne : ∀ {k i : Nat}, M k = i → i ≠ 9 → k ≠ q := fun hk hi e => by subst e; omega
  have hold : ∀ {k i : Nat}, M k = i → i ≠ 9 → updC M q 0 k = i := fun hk hi => (updC_other M 0 (hne hk hi)).trans hk
  have hblk : ∀ {k i : Nat}, M k = i → i ≠ 9 → k < w.heap.size → w1.heap[k]? = w.heap[k]? := fun hk hi hlt => ho.block _ hlt (hne hk hi)
  have him : ∀ k, Im M k → k < w.heap.size → w1.heap[k]? = w.heap[k]? ∧ Im (updC M q 0) k := fun k hk hlt => ⟨hblk hk (by decide) hlt, hold hk (by decide)⟩
  have own : ∀ {α : Type} {i : Nat} {E : Enc α} {te : TypeId} {v : Value} {l : List α}, i ≠ 9 → OwnV M i E te w v l → OwnV (updC M q 0) i E te w1 v l := by
    intro α i E te v l hi h
    rcases h with h | ⟨g, cap, cur, hv, hg, hh, h1, h2, h3, h4⟩
    · exact .inl h
    · have hgz := (Array.getElem?_eq_some_iff.1 hh).1
      refine .inr ⟨g, cap, cur, hv, hold hg hi, (hblk hg hi hgz).trans hh, h1, h2, h3, fun k x hx => ?_⟩
      obtain ⟨cs, hr, hc⟩ := h4 k x hx
      exact ⟨cs, E.mono hr him, hc⟩
  obtain ⟨f1, h1, h2, h3⟩ := h.p.has
  obtain ⟨fd, d1, d2⟩ := h.p.dos
  refine ⟨(hblk h.gc (by decide) h.lt).trans h.row, hold h.gc (by decide), ⟨fun k hk => ?_, h.p.lc, h.p.log.mono (by decide) him, hold h.p.hc (by decide), ⟨f1, h1.keep (hblk h.p.hc (by decide) h1.lt), h2, h3⟩, hold h.p.bc (by decide), h.p.begun.keep (hblk h.p.bc (by decide) h.p.begun.lt), hold h.p.dc (by decide),
    ⟨fd, d1.keep (hblk h.p.dc (by decide) d1.lt), fun z => (d2 z).mono him⟩, own (by decide) h.p.recs, own (by decide) h.p.msgs, own (by decide) h.p.done⟩, h.right⟩
  by_cases e : k = q
  · subst e; rw [updC_same] at hk; exact absurd rfl hk
  · rw [updC_other M 0 e] at hk
    exact Nat.lt_of_lt_of_le (h.p.dom k hk) ho.size
/-- three maps made anew, behind one another -/
theorem VwP.maps {hf : Int → Int} {bf : Int → Bool} (h : VwP M w c L) (hb : Below w.heap.size w w1) {p q r : Nat} (hp : w.heap.size ≤ p ∧ p < w1.heap.size) (hq : w.heap.size ≤ q ∧ q < w1.heap.size) (hr : w.heap.size ≤ r ∧ r < w1.heap.size) (hpq : p ≠ q) (hpr : p ≠ r) (hqr : q ≠ r)
    (m2 : IMap w1 p 8 fun _ => none) (m3 : IMap w1 q 8 (fun z => if bf z = true then some (.bool true) else none)) (m4 : IMap w1 r 8 fun _ => none) :
    ∃ M1, VwP M1 w1 { c with has := fun _ => 0, begun := bf, dos := fun _ => none } { L with hb := p, bb := q, db := r } ∧ Fr M w M1 w1 ∧ ∀ k, k < w.heap.size → M1 k = M k := by
  obtain ⟨M1, hM1⟩ : ∃ M1 : Col, M1 = fun k => if k = p then 2 else if k = q then 3 else if k = r then 4 else M k := ⟨_, rfl⟩
  have hold : ∀ k, k < w.heap.size → M1 k = M k := fun k hk => by
    rw [hM1]; simp only
    rw [if_neg (by omega), if_neg (by omega), if_neg (by omega)]
  have f : Fr M w M1 w1 := ⟨⟨hb.os, hb.tape, hb.output, hb.size, fun k hk _ => hb.block k hk⟩, fun k hk _ => hold k hk⟩
  have own : ∀ {α : Type} {i : Nat} {E : Enc α} {te : TypeId} {v : Value} {l : List α}, OwnV M i E te w v l → OwnV M1 i E te w1 v l := by
    intro α i E te v l h
    rcases h with h | ⟨g, cap, cur, hv, hg, hh, h1, h2, h3, h4⟩
    · exact .inl h
    · have hgz := (Array.getElem?_eq_some_iff.1 hh).1
      refine .inr ⟨g, cap, cur, hv, (hold g hgz).trans hg, (hb.block g hgz).trans hh, h1, h2, h3, fun k x hx => ?_⟩
      obtain ⟨cs, hr, hc⟩ := h4 k x hx
      exact ⟨cs, E.mono hr fun b hb' hlt => ⟨f.block hlt hb', f.zero hlt hb'⟩, hc⟩
  refine ⟨M1, ⟨fun k hk => ?_, h.lc, h.log.fr (by decide) f, by rw [hM1]; simp, ⟨_, m2, fun z => rfl, fun z hz => by cases hz⟩, by rw [hM1]; simp [Ne.symm hpq], m3, by rw [hM1]; simp [Ne.symm hpr, Ne.symm hqr], ⟨_, m4, fun z => trivial⟩, own h.recs, own h.msgs, own h.done⟩, f, hold⟩
  rw [hM1] at hk
  simp only at hk
  by_cases h1 : k = p
  · omega
  · rw [if_neg h1] at hk
    by_cases h2 : k = q
    · omega
    · rw [if_neg h2] at hk
      by_cases h3 : k = r
      · omega
      · rw [if_neg h3] at hk
        have := h.dom k hk
        have := hb.size
        omega
end
end Go.Proofs.Ytmmgnbdngpkfcaa

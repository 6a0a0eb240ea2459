
/-
  A transaction under way, walked: which shards are concerned, the first one of them, where its end is decided.
-/
import Derived.Test.YtmmgnbdngpkfcaaCoR
namespace Go.Proofs.Ytmmgnbdngpkfcaa
open Go.RowKit
set_option linter.unusedVariables false

theorem nonempty_len {α : Type} (l : List α) : (!l.isEmpty) = decide (0 < l.length) := by cases l <;> simp

set_option maxRecDepth 4096 in
set_option maxHeartbeats 1600000 in
theorem co_concerned {B g vm : Nat} {ov : Value} {T : Co.Tx} (at_ : Int) (E : Nat) (w : World) (hE : E = w.heap.size) (h : TxA B w g vm ov T) :
    Calls Try.prog 107 #[.pointer (some ⟨g, 0, none⟩), .int .i64 at_] w fun e w' => e = .returned (.bool (Co.conc T.sh T.ops T.ser at_)) ∧ Below E w w' := by
  have H := Lib.hid h
  have HE := Lib.hid hE
  clear h hE
  obtain ⟨bb, hbb⟩ : ∃ b, b = Co.conc T.sh T.ops T.ser at_ := ⟨_, rfl⟩
  rw [← hbb]
  unfold Co.conc at hbb
  rw [nonempty_len, nonempty_len] at hbb
  have Hbb := Lib.hid hbb
  clear hbb
  go_enter Try.func107, Try.ntmps107
  go_wp2_with fail
  refine (co_writes at_ E w HE.out H.out).mono ?_
  rintro e w1 ⟨v, rfl, ho, hl, hb⟩
  obtain ⟨lw, hlw⟩ : ∃ n, n = (Co.writes T.sh T.ops at_).length := ⟨_, rfl⟩
  obtain ⟨a1, c1, rfl, _, _, _, _⟩ := ho.shape lw hlw
  have hbb := Hbb.out
  rw [← hlw] at hbb
  have h1 := H.out.keep (by rw [← HE.out]; exact hb)
  have c2 := h1.c2
  have hz : E ≤ w1.heap.size := by rw [HE.out]; exact hb.size
  have H1 := Lib.hid h1
  have Hb := Lib.hid hb
  have Hbb2 := Lib.hid hbb
  clear ho hl hlw h1 hb hbb Hbb
  by_cases hp : 0 < lw
  · have hpi : (0 : Int) < (lw : Int) := by omega
    have hr := Hbb2.out
    rw [decide_eq_true hp, Bool.true_or] at hr
    subst hr
    go_wp2_with fail
    go_ret
    exact ⟨rfl, Hb.out⟩
  · have h0 : lw = 0 := by omega
    subst h0
    have hr := Hbb2.out
    rw [decide_eq_false hp, Bool.false_or] at hr
    have Hr := Lib.hid hr
    clear hr hp Hbb2
    obtain ⟨sr, hsr⟩ : ∃ b, b = T.ser := ⟨_, rfl⟩
    rw [← hsr] at c2
    have hr := Hr.out
    rw [← hsr] at hr
    have Hr2 := Lib.hid hr
    clear hr hsr Hr
    cases sr
    · have hr := Hr2.out
      rw [Bool.false_and] at hr
      subst hr
      go_wp2_with fail
      go_ret
      exact ⟨rfl, Hb.out⟩
    · have hr := Hr2.out
      rw [Bool.true_and] at hr
      have Hr := Lib.hid hr
      clear hr Hr2
      go_wp2_with fail
      refine (co_reads at_ w1.heap.size w1 rfl H1.out).mono ?_
      rintro e w2 ⟨v, rfl, ho, hl, hb2⟩
      obtain ⟨lr, hlr⟩ : ∃ n, n = (Co.reads T.sh T.ops at_).length := ⟨_, rfl⟩
      obtain ⟨a2, c2_, rfl, _, _, _, _⟩ := ho.shape lr hlr
      have hr := Hr.out
      rw [← hlr] at hr
      have Hbw := Lib.hid (Hb.out.trans (hb2.mono hz))
      have Hr3 := Lib.hid hr
      clear ho hl hlr hb2 hr Hr
      by_cases hp : 0 < lr
      · have hpi : (0 : Int) < (lr : Int) := by omega
        have hr := Hr3.out
        rw [decide_eq_true hp] at hr
        subst hr
        go_wp2_with fail
        go_ret
        exact ⟨rfl, Hbw.out⟩
      · have h0 : lr = 0 := by omega
        subst h0
        have hr := Hr3.out
        rw [decide_eq_false hp] at hr
        subst hr
        go_wp2_with fail
        go_ret
        exact ⟨rfl, Hbw.out⟩

def hasRd (T : Co.Tx) (a : Int) : Bool := !(Co.reads T.sh T.ops a).isEmpty
theorem co_g1 {B g vm b3 : Nat} {ov : Value} {T : Co.Tx} (at_ : Int) (E : Nat) (w : World) (hE : E = w.heap.size) (h : TxA B w g vm ov T) (hb3 : w.cell? ⟨b3, 0, none⟩ = some (.pointer (some ⟨g, 0, none⟩))) :
    Calls Try.prog 110 #[.int .i64 at_, .pointer (some ⟨b3, 0, none⟩)] w fun e w' => e = .returned (.bool (hasRd T at_)) ∧ Below E w w' := by
  have H := Lib.hid h
  have HE := Lib.hid hE
  clear h hE
  obtain ⟨bb, hbb⟩ : ∃ b, b = hasRd T at_ := ⟨_, rfl⟩
  rw [← hbb]
  unfold hasRd at hbb
  rw [nonempty_len] at hbb
  have Hr := Lib.hid hbb
  clear hbb
  go_enter Try.func110, Try.ntmps110
  go_wp2_with fail
  refine (co_reads at_ E w HE.out H.out).mono ?_
  rintro e w2 ⟨v, rfl, ho, hl, hb2⟩
  obtain ⟨lr, hlr⟩ : ∃ n, n = (Co.reads T.sh T.ops at_).length := ⟨_, rfl⟩
  obtain ⟨a2, c2_, rfl, _, _, _, _⟩ := ho.shape lr hlr
  have hr := Hr.out
  rw [← hlr] at hr
  have Hbw := Lib.hid hb2
  have Hr3 := Lib.hid hr
  clear ho hl hlr hb2 hr Hr
  by_cases hp : 0 < lr
  · have hpi : (0 : Int) < (lr : Int) := by omega
    have hr := Hr3.out
    rw [decide_eq_true hp] at hr
    subst hr
    go_wp2_with fail
    go_ret
    exact ⟨rfl, Hbw.out⟩
  · have h0 : lr = 0 := by omega
    subst h0
    have hr := Hr3.out
    rw [decide_eq_false hp] at hr
    subst hr
    go_wp2_with fail
    go_ret
    exact ⟨rfl, Hbw.out⟩


set_option maxRecDepth 4096 in
set_option maxHeartbeats 1600000 in
theorem co_firstC {B g vm : Nat} {ov : Value} {T : Co.Tx} (at_ : Int) (E : Nat) (w : World) (hE : E = w.heap.size) (h : TxA B w g vm ov T) (hat : 0 ≤ at_ ∧ at_ ≤ 5) :
    Calls Try.prog 106 #[.pointer (some ⟨g, 0, none⟩), .int .i64 at_, .func (.func 107) #[.pointer (some ⟨g, 0, none⟩)] #[]] w fun e w' => e = .returned (.int .i64 (Co.first (Co.conc T.sh T.ops T.ser) T.sh at_)) ∧ Below E w w' := by
  have H := Lib.hid h
  have HE := Lib.hid hE
  have hsh := h.right.sh
  skip
  clear h hE
  obtain ⟨res, hres⟩ : ∃ r, r = Co.first (Co.conc T.sh T.ops T.ser) T.sh at_ := ⟨_, rfl⟩
  rw [← hres]
  have Hres := Lib.hid hres
  clear hres
  go_enter Try.func106, Try.ntmps106
  go_wp2_with fail
  go_loopg [1] (T.sh - at_).toNat (fun gn i wr => ∃ x : Int, RowKit.Hid (gn = (T.sh - x).toNat) ∧ i = .int .i64 x ∧ 0 ≤ x ∧ x ≤ 5 ∧ RowKit.Hid (Co.first (Co.conc T.sh T.ops T.ser) T.sh x = res) ∧ Below E w wr)
  case atStart => exact ⟨at_, Lib.hid rfl, rfl, hat.1, hat.2, Lib.hid Hres.out.symm, Below.refl _ _⟩
  case round =>
    obtain ⟨x, hgn, rfl, hx0, hx5, hf, hb⟩ := hrel
    have h1 := H.out.keep (by rw [← HE.out]; exact hb)
    have c3 := h1.c3
    have hz : E ≤ wr.heap.size := by rw [HE.out]; exact hb.size
    have H1 := Lib.hid h1
    have Hb := Lib.hid hb
    skip
    clear h1 hb
    obtain ⟨s, hs⟩ : ∃ s, s = T.sh := ⟨_, rfl⟩
    rw [← hs] at c3 hsh
    have Hs := Lib.hid hs
    clear hs
    by_cases hlt : x < s
    · obtain ⟨pv, hpv⟩ : ∃ b, b = (Co.conc T.sh T.ops T.ser) x := ⟨_, rfl⟩
      have Hpv := Lib.hid hpv
      clear hpv
      go_wp2_with fail
      refine (co_concerned x wr.heap.size wr rfl H1.out).mono ?_
      rintro e w2 ⟨hev, hb2⟩
      have hpv := Hpv.out
      try simp only at hpv hev
      rw [← hpv] at hev
      subst hev
      have Hb2 := Lib.hid (Hb.out.trans (hb2.mono hz))
      clear hb2 hpv
      cases pv
      · go_wp2_with fail
        go_roundg (T.sh - (x + 1)).toNat
        case measure => rw [hgn.out, ← Hs.out]; omega
        case rel => exact ⟨x + 1, Lib.hid rfl, by go_num, by omega, by omega, Lib.hid (by rw [← hf.out, Co.first_step (by rw [← Hs.out]; exact hlt) Hpv.out.symm]), Hb2.out⟩
      · have hr := hf.out
        rw [Co.first_hit Hpv.out.symm] at hr
        subst hr
        go_wp2_with fail
        go_ret
        exact ⟨rfl, Hb2.out⟩
    · have hr := hf.out
      rw [Co.first_end (by rw [← Hs.out]; omega)] at hr
      subst hr
      go_wp2_with fail
      go_ret
      exact ⟨rfl, Hb.out⟩


set_option maxRecDepth 4096 in
set_option maxHeartbeats 1600000 in
theorem co_firstR {B g vm b3 : Nat} {ov : Value} {T : Co.Tx} (at_ : Int) (E : Nat) (w : World) (hE : E = w.heap.size) (h : TxA B w g vm ov T) (hat : 0 ≤ at_ ∧ at_ ≤ 5) (hb3 : w.cell? ⟨b3, 0, none⟩ = some (.pointer (some ⟨g, 0, none⟩))) :
    Calls Try.prog 106 #[.pointer (some ⟨g, 0, none⟩), .int .i64 at_, .func (.func 110) #[] #[.pointer (some ⟨b3, 0, none⟩)]] w fun e w' => e = .returned (.int .i64 (Co.first (hasRd T) T.sh at_)) ∧ Below E w w' := by
  have H := Lib.hid h
  have HE := Lib.hid hE
  have hsh := h.right.sh
  have Hb3 := Lib.hid hb3
  clear h hE hb3
  obtain ⟨res, hres⟩ : ∃ r, r = Co.first (hasRd T) T.sh at_ := ⟨_, rfl⟩
  rw [← hres]
  have Hres := Lib.hid hres
  clear hres
  go_enter Try.func106, Try.ntmps106
  go_wp2_with fail
  go_loopg [1] (T.sh - at_).toNat (fun gn i wr => ∃ x : Int, RowKit.Hid (gn = (T.sh - x).toNat) ∧ i = .int .i64 x ∧ 0 ≤ x ∧ x ≤ 5 ∧ RowKit.Hid (Co.first (hasRd T) T.sh x = res) ∧ Below E w wr)
  case atStart => exact ⟨at_, Lib.hid rfl, rfl, hat.1, hat.2, Lib.hid Hres.out.symm, Below.refl _ _⟩
  case round =>
    obtain ⟨x, hgn, rfl, hx0, hx5, hf, hb⟩ := hrel
    have h1 := H.out.keep (by rw [← HE.out]; exact hb)
    have c3 := h1.c3
    have hz : E ≤ wr.heap.size := by rw [HE.out]; exact hb.size
    have H1 := Lib.hid h1
    have Hb := Lib.hid hb
    have Hk3 := Lib.hid (cell_thru Hb3.out (by rw [← HE.out]; exact hb))
    clear h1 hb
    obtain ⟨s, hs⟩ : ∃ s, s = T.sh := ⟨_, rfl⟩
    rw [← hs] at c3 hsh
    have Hs := Lib.hid hs
    clear hs
    by_cases hlt : x < s
    · obtain ⟨pv, hpv⟩ : ∃ b, b = (hasRd T) x := ⟨_, rfl⟩
      have Hpv := Lib.hid hpv
      clear hpv
      go_wp2_with fail
      refine (co_g1 x wr.heap.size wr rfl H1.out Hk3.out).mono ?_
      rintro e w2 ⟨hev, hb2⟩
      have hpv := Hpv.out
      try simp only at hpv hev
      rw [← hpv] at hev
      subst hev
      have Hb2 := Lib.hid (Hb.out.trans (hb2.mono hz))
      clear hb2 hpv
      cases pv
      · go_wp2_with fail
        go_roundg (T.sh - (x + 1)).toNat
        case measure => rw [hgn.out, ← Hs.out]; omega
        case rel => exact ⟨x + 1, Lib.hid rfl, by go_num, by omega, by omega, Lib.hid (by rw [← hf.out, Co.first_step (by rw [← Hs.out]; exact hlt) Hpv.out.symm]), Hb2.out⟩
      · have hr := hf.out
        rw [Co.first_hit Hpv.out.symm] at hr
        subst hr
        go_wp2_with fail
        go_ret
        exact ⟨rfl, Hb2.out⟩
    · have hr := hf.out
      rw [Co.first_end (by rw [← Hs.out]; omega)] at hr
      subst hr
      go_wp2_with fail
      go_ret
      exact ⟨rfl, Hb.out⟩


theorem co_where {B g vm : Nat} {ov : Value} {T : Co.Tx} (E : Nat) (w : World) (hE : E = w.heap.size) (h : TxA B w g vm ov T) :
    Calls Try.prog 69 #[.pointer (some ⟨g, 0, none⟩)] w fun e w' => e = .returned (.int .i64 T.where_) ∧ Below E w w' := by
  have H := Lib.hid h
  have HE := Lib.hid hE
  clear h hE
  obtain ⟨r, hr⟩ : ∃ r, r = T.where_ := ⟨_, rfl⟩
  rw [← hr]
  have Hr := Lib.hid hr
  clear hr
  go_enter Try.func69, Try.ntmps69
  go_wp2_with fail
  refine (co_firstC 0 E w HE.out H.out (by decide)).mono ?_
  rintro e w2 ⟨hev, hb2⟩
  rw [show Co.first (Co.conc T.sh T.ops T.ser) T.sh 0 = r from Hr.out.symm] at hev
  subst hev
  go_wp2_with fail
  go_ret
  exact ⟨rfl, hb2⟩
end Go.Proofs.Ytmmgnbdngpkfcaa


/-
  The first node of a row that is so far away.
-/
import Derived.Test.YticpbiccgnfecaaGraL
namespace Go.Proofs.Yticpbiccgnfecaa
open Go.RowKit
set_option linter.unusedVariables false

/-- what the captured cells tell -/
structure Capt (w : World) (A Lb E N : Nat) (out : Nat → Int) (r : Int) : Prop where
  a : w.cell? ⟨A, 0, none⟩ = some (.slice (some ⟨E, 0, none⟩) N N)
  l : w.cell? ⟨Lb, 0, none⟩ = some (.int .i64 r)
  v : Vec w E 3 N (fun v => .int .i64 (out v))
theorem Capt.below {w w' : World} {A Lb E N : Nat} {out : Nat → Int} {r : Int} (h : Capt w A Lb E N out r) (hb : Below w.heap.size w w') : Capt w' A Lb E N out r :=
  ⟨cell_thru h.a hb, cell_thru h.l hb, h.v.below hb⟩
set_option maxHeartbeats 400000 in
theorem cycle_pred (A Lb E N : Nat) (out : Nat → Int) (r : Int) (w : World) (h : Capt w A Lb E N out r) : PredAt Try.prog 30 #[.pointer (some ⟨A, 0, none⟩), .pointer (some ⟨Lb, 0, none⟩)] (fun x : Fin N => .int .i64 (x : Nat)) (fun x => out x == r) w := fun W x hb => by
  have h2 := h.below hb
  have z1 := h2.a
  have z2 := h2.l
  have hx := x.2
  have z3 := h2.v.cell hx
  obtain ⟨v, hv⟩ : ∃ v, v = x.1 := ⟨_, rfl⟩
  obtain ⟨ov, hov⟩ : ∃ v, v = out x.1 := ⟨_, rfl⟩
  rw [← hov] at z3
  rw [← hv] at z3 hx
  have hv0 : (0 : Int) ≤ (v : Int) := by omega
  have hv1 : (v : Int) < (N : Int) := by omega
  have Hov := Lib.hid hov
  have Hv := Lib.hid hv
  show Calls Try.prog 30 #[.int .i64 ((x : Nat) : Int), .pointer (some ⟨A, 0, none⟩), .pointer (some ⟨Lb, 0, none⟩)] W fun e w' => e = .returned (.bool (out x.1 == r)) ∧ ∃ q, w' = W.drewN q
  rw [← hov, ← hv]
  clear h h2 hov hv hb
  go_enter Try.func30, Try.ntmps30
  go_wp2_with fail
  go_quiet (fail)
  go_wp2_with fail
  go_ret
  exact ⟨rfl, _, rfl⟩

theorem index_first (A Lb E N : Nat) (out : Nat → Int) (r : Int) (w : World) (h : Capt w A Lb E N out r) (b off c : Nat) (row : List Nat) (hrow : ∀ x ∈ row, x < N) (hc : ∀ j (hj : j < row.length), w.cell? ⟨b, off + j, none⟩ = some (.int .i64 (row[j] : Nat)))
    (hl : row.length ≤ 1000000) (i : Nat) (hi : i < row.length) (h1 : out row[i] = r) (h2 : ∀ j (hj : j < i), out (row[j]'(by omega)) ≠ r) :
    Calls Try.prog 29 #[.slice (some ⟨b, off, none⟩) row.length c, .func (.func 30) #[] #[.pointer (some ⟨A, 0, none⟩), .pointer (some ⟨Lb, 0, none⟩)]] w fun e w' => e = .returned (.int .i64 i) ∧ ∃ q, w' = w.drewN q := by
  have eg : ∀ args w, (callFunc 30 args).run Try.prog w = .ok (.enter 30 args) w := enters_of Try.func30 (by kernel_rfl) rfl
  have hN : 0 < N := Nat.lt_of_le_of_lt (Nat.zero_le _) (hrow row[i] (List.getElem_mem hi))
  letI : Inhabited (Fin N) := ⟨⟨0, hN⟩⟩
  obtain ⟨zs, hzs⟩ : ∃ zs : List (Fin N), zs = row.pmap (fun x hx => (⟨x, hx⟩ : Fin N)) hrow := ⟨_, rfl⟩
  have hzl : zs.length = row.length := by rw [hzs]; simp
  have hget : ∀ j (hj : j < row.length), (zs[j]! : Fin N).1 = row[j] := fun j hj => by
    rw [getElem!_pos zs j (by omega)]
    simp [hzs]
  have hcon := shf_slices_IndexFunc (fun x : Fin N => .int .i64 ((x : Nat) : Int)) (fun x => out x == r) 30 #[.pointer (some ⟨A, 0, none⟩), .pointer (some ⟨Lb, 0, none⟩)] eg b off row.length c zs w (cycle_pred A Lb E N out r w h) (by omega) (by omega) (fun j hj => by
    rw [hc j (by omega)]; simp only [hget j (by omega)])
  refine hcon.mono fun e w' ⟨he, hw⟩ => ⟨?_, hw⟩
  rw [he]
  have := Lib.idxBy_hit (fun _ (y : Fin N) => out y == r) zs row.length i default hi (by omega) (by simp only [hget i hi, h1]; simp) (fun j hj => by
    have := h2 j hj
    simp only [hget j (by omega)]
    simpa using this)
  rw [this]
end Go.Proofs.Yticpbiccgnfecaa

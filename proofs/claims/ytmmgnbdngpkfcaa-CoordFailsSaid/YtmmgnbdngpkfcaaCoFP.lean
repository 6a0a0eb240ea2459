
/-
  A transaction whose question is refused: the plain law.
-/
import Derived.Test.YtmmgnbdngpkfcaaCoH
namespace Go.Proofs.Ytmmgnbdngpkfcaa.Co
set_option linter.unusedVariables false

theorem nextT_eq (T : Tx) : ∃ d, nextT T = { T with doubt := d } := by
  unfold nextT
  split
  · exact ⟨_, rfl⟩
  · exact ⟨T.doubt, rfl⟩
theorem nextA_doubt (T : Tx) (d : Bool) : nextA { T with doubt := d } = nextA T := rfl
structure FB (sh : Int) (C : Int → Bool) (T : Tx) (i : Int) (rf : Bool) (hd : Int → Bool) : Prop where
  how : (T.stage = 0 ∧ rf = false ∧ T.res = 0 ∧ (∀ z, hd z = false) ∧ i = 0) ∨
    (T.stage = 1 ∧ rf = false ∧ T.res = 0 ∧ (∀ z, hd z = false) ∧ 0 ≤ T.at_ ∧ T.at_ < sh ∧ i ≤ 1 + T.at_) ∨
    (T.stage = 4 ∧ rf = false ∧ T.res = 0 ∧ (∀ z, hd z = true ↔ 0 ≤ z ∧ z < T.at_ ∧ C z = true) ∧ 0 ≤ T.at_ ∧ T.at_ < sh ∧ C T.at_ = true ∧ i ≤ 5 + T.at_) ∨
    (T.stage = 5 ∧ rf = false ∧ T.res = 0 ∧ (∀ z, hd z = true ↔ 0 ≤ z ∧ z < sh ∧ C z = true) ∧ i ≤ 9) ∨
    (T.stage = 6 ∧ (rf = true → T.res = 3 ∧ T.e.c = false) ∧ (rf = false → T.res = 0 ∧ T.e.c = true) ∧ (∀ z, hd z = true → 0 ≤ z ∧ z < sh ∧ C z = true) ∧ i ≤ 10) ∨
    (T.stage = 7 ∧ (rf = true → T.res = 3) ∧ (rf = false → T.res = 2) ∧ (∀ z, hd z = true → T.at_ ≤ z ∧ z < sh ∧ C z = true) ∧ 0 ≤ T.at_ ∧ T.at_ < sh ∧ i ≤ 11 + T.at_) ∨
    (T.stage = 8 ∧ (rf = true → T.res = 3) ∧ (rf = false → T.res = 2) ∧ (∀ z, hd z = false) ∧ i ≤ 15)
structure FInv (T : Tx) (i : Int) (rf : Bool) (hd : Int → Bool) : Prop where
  sh : 1 ≤ T.sh ∧ T.sh ≤ 4
  wait : T.wait = false
  b : FB T.sh (conc T.sh T.ops T.ser) T i rf hd
def kindOf (st : Int) : Int := if st = 0 ∨ st = 5 then 1 else if st = 1 then 2 else if st = 4 then 3 else if st = 6 then 4 else 5
theorem f_next {T : Tx} {i : Int} {rf : Bool} {hd : Int → Bool} (h : FInv T i rf hd) (h8 : T.stage ≠ 8) :
    (nextA T).2 = true ∧ (nextA T).1.kind = kindOf T.stage ∧ (T.stage = 1 → (nextA T).1.reads = reads T.sh T.ops T.at_) ∧ (T.stage = 4 ∨ T.stage = 7 → (nextA T).1.shard = T.at_) ∧ (T.stage = 6 → (nextA T).1.e = T.e) := by
  have hw := h.wait
  unfold nextA kindOf
  rw [if_neg (by rw [hw]; decide)]
  rcases h.b.how with ⟨hs, _⟩ | ⟨hs, _⟩ | ⟨hs, _⟩ | ⟨hs, _⟩ | ⟨hs, _⟩ | ⟨hs, _⟩ | ⟨hs, _⟩
  all_goals first
    | exact absurd hs h8
    | (rw [hs]; simp)
/-- goes on to the questions -/
theorem f_goA4 {T : Tx} {i f : Int} {hd : Int → Bool} (hsh : 1 ≤ T.sh ∧ T.sh ≤ 4) (hw : T.wait = false) (hr : T.res = 0) (hf : 0 ≤ f ∧ f ≤ T.sh) (hh : ∀ z, hd z = true ↔ 0 ≤ z ∧ z < f ∧ conc T.sh T.ops T.ser z = true) (hi : i ≤ 5 + f) :
    FInv (goA T 4 f) i false hd := by
  obtain ⟨h1, h2, h3, h4⟩ := first_spec (conc T.sh T.ops T.ser) T.sh _ f rfl
  obtain ⟨a, ha⟩ : ∃ a, a = first (conc T.sh T.ops T.ser) T.sh f := ⟨_, rfl⟩
  rw [← ha] at h1 h2 h3 h4
  have hg : goA T 4 f = { T with at_ := a, stage := if a < T.sh then 4 else 5 } := by
    unfold goA
    dsimp only
    rw [← ha, if_neg (show ¬ ((4 : Int) = 7) by decide)]
  have hz : ∀ z, hd z = true ↔ 0 ≤ z ∧ z < a ∧ conc T.sh T.ops T.ser z = true := fun z => by
    rw [hh z]
    constructor
    · rintro ⟨g1, g2, g3⟩
      exact ⟨g1, by omega, g3⟩
    · rintro ⟨g1, g2, g3⟩
      by_cases hzf : z < f
      · exact ⟨g1, hzf, g3⟩
      · rw [h4 z (by omega) g2] at g3; cases g3
  rw [hg]
  by_cases hlt : a < T.sh
  · rw [if_pos hlt]
    exact ⟨hsh, hw, ⟨.inr (.inr (.inl ⟨rfl, rfl, hr, hz, by show 0 ≤ a; omega, hlt, h3 hlt, by show i ≤ 5 + a; omega⟩))⟩⟩
  · rw [if_neg hlt]
    have hae : a = T.sh := by omega
    exact ⟨hsh, hw, ⟨.inr (.inr (.inr (.inl ⟨rfl, rfl, hr, fun z => by rw [hz z, hae], by omega⟩)))⟩⟩
theorem f_goA7 {T : Tx} {i f : Int} {rf : Bool} {hd : Int → Bool} (hsh : 1 ≤ T.sh ∧ T.sh ≤ 4) (hw : T.wait = false) (hr1 : rf = true → T.res = 3) (hr2 : rf = false → T.res = 2) (hf : 0 ≤ f ∧ f ≤ T.sh) (hh : ∀ z, hd z = true → f ≤ z ∧ z < T.sh ∧ conc T.sh T.ops T.ser z = true) (hi : i ≤ 11 + f) :
    FInv (goA T 7 f) i rf hd := by
  obtain ⟨h1, h2, h3, h4⟩ := first_spec (conc T.sh T.ops T.ser) T.sh _ f rfl
  obtain ⟨a, ha⟩ : ∃ a, a = first (conc T.sh T.ops T.ser) T.sh f := ⟨_, rfl⟩
  rw [← ha] at h1 h2 h3 h4
  have hg : goA T 7 f = { T with at_ := a, stage := if a < T.sh then 7 else 8 } := by
    unfold goA
    dsimp only
    rw [← ha, if_pos rfl]
  have hz : ∀ z, hd z = true → a ≤ z ∧ z < T.sh ∧ conc T.sh T.ops T.ser z = true := fun z hz => by
    obtain ⟨g1, g2, g3⟩ := hh z hz
    refine ⟨?_, g2, g3⟩
    by_cases hlt : z < a
    · rw [h4 z g1 hlt] at g3; cases g3
    · omega
  rw [hg]
  by_cases hlt : a < T.sh
  · rw [if_pos hlt]
    exact ⟨hsh, hw, ⟨.inr (.inr (.inr (.inr (.inr (.inl ⟨rfl, hr1, hr2, hz, by show 0 ≤ a; omega, hlt, by show i ≤ 11 + a; omega⟩)))))⟩⟩
  · rw [if_neg hlt]
    refine ⟨hsh, hw, ⟨.inr (.inr (.inr (.inr (.inr (.inr ⟨rfl, hr1, hr2, fun z => ?_, by omega⟩)))))⟩⟩
    cases hzz : hd z
    · rfl
    · have := hz z hzz; omega
theorem f_goR {T : Tx} {i f : Int} {hd : Int → Bool} (hsh : 1 ≤ T.sh ∧ T.sh ≤ 4) (hw : T.wait = false) (hr : T.res = 0) (hf : 0 ≤ f ∧ f ≤ T.sh) (hh : ∀ z, hd z = false) (hi : i ≤ 1 + f) :
    FInv (goR T f) i false hd := by
  obtain ⟨h1, h2, h3, h4⟩ := first_spec (fun a => !(reads T.sh T.ops a).isEmpty) T.sh _ f rfl
  obtain ⟨a, ha⟩ : ∃ a, a = first (fun a => !(reads T.sh T.ops a).isEmpty) T.sh f := ⟨_, rfl⟩
  rw [← ha] at h1 h2 h3 h4
  unfold goR
  dsimp only
  rw [← ha]
  by_cases hlt : a < T.sh
  · rw [if_pos hlt]
    exact ⟨hsh, hw, ⟨.inr (.inl ⟨rfl, rfl, hr, hh, by show 0 ≤ a; omega, hlt, by show i ≤ 1 + a; omega⟩)⟩⟩
  · rw [if_neg hlt]
    by_cases hW : hasW T.ops = true
    · rw [if_pos hW]
      exact f_goA4 (T := { T with at_ := a, stage := 1 }) hsh hw hr ⟨Int.le_refl _, by show 0 ≤ T.sh; omega⟩ (fun z => by rw [hh z]; constructor; intro h; cases h; rintro ⟨g1, g2, _⟩; omega) (by omega)
    · rw [if_neg hW]
      exact ⟨hsh, hw, ⟨.inr (.inr (.inr (.inr (.inr (.inr ⟨rfl, (fun h => by cases h), fun _ => rfl, hh, by omega⟩)))))⟩⟩
theorem f_fail {T : Tx} {i : Int} {hd : Int → Bool} (hsh : 1 ≤ T.sh ∧ T.sh ≤ 4) (hw : T.wait = false) (hh : ∀ z, hd z = true → 0 ≤ z ∧ z < T.sh ∧ conc T.sh T.ops T.ser z = true) (hi : i ≤ 10) :
    FInv (fail T) i true hd := by
  obtain ⟨h1, h2, h3, h4⟩ := first_spec (conc T.sh T.ops T.ser) T.sh _ 0 rfl
  unfold fail
  by_cases hlt : T.sh ≤ T.where_
  · rw [if_pos hlt]
    refine ⟨hsh, hw, ⟨.inr (.inr (.inr (.inr (.inr (.inr ⟨rfl, fun _ => rfl, (fun h => by cases h), fun z => ?_, by omega⟩)))))⟩⟩
    cases hzz : hd z
    · rfl
    · obtain ⟨g1, g2, g3⟩ := hh z hzz
      unfold Tx.where_ at hlt
      rw [h4 z g1 (by omega)] at g3
      cases g3
  · rw [if_neg hlt]
    exact ⟨hsh, hw, ⟨.inr (.inr (.inr (.inr (.inl ⟨rfl, fun _ => ⟨rfl, rfl⟩, (fun h => by cases h), hh, hi⟩))))⟩⟩
def updH (f : Int → Bool) (k : Int) (b : Bool) : Int → Bool := fun z => if z = k then b else f z
theorem inT_eq (T : Tx) (a : An) : ∃ d, inT (nextT T) a = (
    if (nextA T).2 = false then { T with doubt := d }
    else if T.stage = 0 then (if a.err ≠ 0 then { T with doubt := d, res := 3, stage := 8 } else goR { T with doubt := d, start := a.at_ } 0)
    else if T.stage = 1 then got { T with doubt := d } a
    else if T.stage = 2 then { T with doubt := d, by_ := a.e, stage := 3 }
    else if T.stage = 3 then { T with doubt := d, stage := 1, waited := 0 }
    else if T.stage = 4 then (if a.err ≠ 0 then fail { T with doubt := d } else goA { T with doubt := d } 4 (T.at_ + 1))
    else if T.stage = 5 then (if a.err ≠ 0 then fail { T with doubt := d } else { T with doubt := d, e := ⟨T.id, true, a.at_⟩, stage := 6 })
    else if T.stage = 6 then goA { T with doubt := d, e := a.e, res := if T.res = 0 then (if a.e.c = true then 2 else 3) else T.res } 7 0
    else goA { T with doubt := d } 7 (T.at_ + 1)) := by
  obtain ⟨d1, h1⟩ := nextT_eq T
  obtain ⟨d2, h2⟩ := nextT_eq (nextT T)
  refine ⟨d2, ?_⟩
  unfold inT
  dsimp only
  rw [h2, h1, nextA_doubt]
theorem f_refuse {T : Tx} {i : Int} {rf : Bool} {hd : Int → Bool} (h : FInv T i rf hd) (h8 : T.stage ≠ 8) (hk : kindOf T.stage = 1 ∨ kindOf T.stage = 2 ∨ kindOf T.stage = 3) (a : An) (he : a.err ≠ 0) (h60 : a.err ≠ 60) :
    FInv (inT (nextT T) a) (i + 1) true hd := by
  have hsh := h.sh
  have hw := h.wait
  obtain ⟨hok, _⟩ := f_next h h8
  obtain ⟨d, hd'⟩ := inT_eq T a
  rw [hd', if_neg (by rw [hok]; decide)]
  rcases h.b.how with ⟨hs, hrf, hr, hh, hi⟩ | ⟨hs, hrf, hr, hh, g1, g2, hi⟩ | ⟨hs, hrf, hr, hh, g1, g2, g3, hi⟩ | ⟨hs, hrf, hr, hh, hi⟩ | ⟨hs, _⟩ | ⟨hs, _⟩ | ⟨hs, _⟩
  · rw [if_pos hs, if_pos he]
    exact ⟨hsh, hw, ⟨.inr (.inr (.inr (.inr (.inr (.inr ⟨rfl, fun _ => rfl, (fun h => by cases h), hh, by omega⟩)))))⟩⟩
  · rw [if_neg (by omega), if_pos hs]
    unfold got
    dsimp only
    rw [if_neg h60, if_pos (.inl he)]
    exact ⟨hsh, hw, ⟨.inr (.inr (.inr (.inr (.inr (.inr ⟨rfl, fun _ => rfl, (fun h => by cases h), hh, by omega⟩)))))⟩⟩
  · rw [if_neg (by omega), if_neg (by omega), if_neg (by omega), if_neg (by omega), if_pos hs, if_pos he]
    exact f_fail (T := { T with doubt := d }) hsh hw (fun z hz => by
      obtain ⟨e1, e2, e3⟩ := (hh z).1 hz
      exact ⟨e1, by show z < T.sh; omega, e3⟩) (by omega)
  · rw [if_neg (by omega), if_neg (by omega), if_neg (by omega), if_neg (by omega), if_neg (by omega), if_pos hs, if_pos he]
    exact f_fail (T := { T with doubt := d }) hsh hw (fun z hz => (hh z).1 hz) (by omega)
  · rw [hs] at hk
    exact absurd hk (by decide)
  · rw [hs] at hk
    exact absurd hk (by decide)
  · exact absurd hs h8
theorem f_step {T : Tx} {i : Int} {rf : Bool} {hd : Int → Bool} (h : FInv T i rf hd) (h8 : T.stage ≠ 8) (a : An) (he : a.err = 0) (hl : a.vals.length = (nextA T).1.reads.length) (hae : a.e = (nextA T).1.e) :
    FInv (inT (nextT T) a) (i + 1) rf (if kindOf T.stage = 3 then updH hd (nextA T).1.shard true else if kindOf T.stage = 5 then updH hd (nextA T).1.shard false else hd) := by
  have hsh := h.sh
  have hw := h.wait
  obtain ⟨hok, _, hrd, hsd, hen⟩ := f_next h h8
  obtain ⟨d, hd'⟩ := inT_eq T a
  rw [hd', if_neg (by rw [hok]; decide)]
  rcases h.b.how with ⟨hs, hrf, hr, hh, hi⟩ | ⟨hs, hrf, hr, hh, g1, g2, hi⟩ | ⟨hs, hrf, hr, hh, g1, g2, g3, hi⟩ | ⟨hs, hrf, hr, hh, hi⟩ | ⟨hs, r1, r2, hh, hi⟩ | ⟨hs, r1, r2, hh, g1, g2, hi⟩ | ⟨hs, _⟩
  · subst hrf
    rw [if_pos hs, if_neg (by omega), if_neg (show ¬ kindOf T.stage = 3 by rw [hs]; decide), if_neg (show ¬ kindOf T.stage = 5 by rw [hs]; decide)]
    exact f_goR (T := { T with doubt := d, start := a.at_ }) hsh hw hr ⟨Int.le_refl _, by show 0 ≤ T.sh; omega⟩ hh (by omega)
  · subst hrf
    rw [if_neg (by omega), if_pos hs, if_neg (show ¬ kindOf T.stage = 3 by rw [hs]; decide), if_neg (show ¬ kindOf T.stage = 5 by rw [hs]; decide)]
    unfold got
    dsimp only
    rw [if_neg (by omega), if_neg (by rw [he, hl, hrd hs]; simp)]
    exact f_goR (T := { T with doubt := d, vals := storeV T.vals (reads T.sh T.ops T.at_) a.vals, waited := 0 }) hsh hw hr ⟨by show 0 ≤ T.at_ + 1; omega, by show T.at_ + 1 ≤ T.sh; omega⟩ hh (by omega)
  · subst hrf
    rw [if_neg (by omega), if_neg (by omega), if_neg (by omega), if_neg (by omega), if_pos hs, if_neg (by omega), if_pos (by rw [hs]; decide), hsd (.inl hs)]
    refine f_goA4 (T := { T with doubt := d }) hsh hw hr ⟨by show 0 ≤ T.at_ + 1; omega, by show T.at_ + 1 ≤ T.sh; omega⟩ (fun z => ?_) (by omega)
    unfold updH
    by_cases hz : z = T.at_
    · rw [if_pos hz, hz]
      exact ⟨fun _ => ⟨g1, by omega, g3⟩, fun _ => rfl⟩
    · rw [if_neg hz, hh z]
      constructor
      · rintro ⟨e1, e2, e3⟩
        exact ⟨e1, by omega, e3⟩
      · rintro ⟨e1, e2, e3⟩
        exact ⟨e1, by omega, e3⟩
  · subst hrf
    rw [if_neg (by omega), if_neg (by omega), if_neg (by omega), if_neg (by omega), if_neg (by omega), if_pos hs, if_neg (by omega), if_neg (show ¬ kindOf T.stage = 3 by rw [hs]; decide), if_neg (show ¬ kindOf T.stage = 5 by rw [hs]; decide)]
    exact ⟨hsh, hw, ⟨.inr (.inr (.inr (.inr (.inl ⟨rfl, (fun h => by cases h), fun _ => ⟨hr, rfl⟩, fun z hz => (hh z).1 hz, by omega⟩))))⟩⟩
  · rw [if_neg (by omega), if_neg (by omega), if_neg (by omega), if_neg (by omega), if_neg (by omega), if_neg (by omega), if_pos hs, if_neg (show ¬ kindOf T.stage = 3 by rw [hs]; decide), if_neg (show ¬ kindOf T.stage = 5 by rw [hs]; decide)]
    have hae' : a.e = T.e := by rw [hae, hen hs]
    refine f_goA7 (T := { T with doubt := d, e := a.e, res := if T.res = 0 then (if a.e.c = true then 2 else 3) else T.res }) hsh hw (fun hrf => ?_) (fun hrf => ?_) ⟨Int.le_refl _, by show 0 ≤ T.sh; omega⟩ hh (by omega)
    · show (if T.res = 0 then (if a.e.c = true then 2 else 3) else T.res) = 3
      rw [(r1 hrf).1, if_neg (by decide)]
    · show (if T.res = 0 then (if a.e.c = true then 2 else 3) else T.res) = 2
      rw [(r2 hrf).1, if_pos rfl, hae', (r2 hrf).2, if_pos rfl]
  · rw [if_neg (show ¬ T.stage = 0 by omega), if_neg (show ¬ T.stage = 1 by omega), if_neg (show ¬ T.stage = 2 by omega), if_neg (show ¬ T.stage = 3 by omega), if_neg (show ¬ T.stage = 4 by omega), if_neg (show ¬ T.stage = 5 by omega), if_neg (show ¬ T.stage = 6 by omega), if_neg (show ¬ kindOf T.stage = 3 by rw [hs]; decide), if_pos (show kindOf T.stage = 5 by rw [hs]; decide), hsd (.inr hs)]
    refine f_goA7 (T := { T with doubt := d }) hsh hw r1 r2 ⟨by show 0 ≤ T.at_ + 1; omega, by show T.at_ + 1 ≤ T.sh; omega⟩ (fun z hz => ?_) (by omega)
    unfold updH at hz
    by_cases hza : z = T.at_
    · rw [if_pos hza] at hz; cases hz
    · rw [if_neg hza] at hz
      obtain ⟨e1, e2, e3⟩ := hh z hz
      exact ⟨by omega, e2, e3⟩
  · exact absurd hs h8
theorem f_new (ops : List Op) (ser : Bool) (sh : Int) (hsh : 1 ≤ sh ∧ sh ≤ 4) : FInv (new 9 ops ser sh 1) 0 false (fun _ => false) := by
  have h1 : (new 9 ops ser sh 1).sh = sh := by show min (max sh 1) 4 = sh; omega
  exact ⟨by rw [h1]; exact hsh, rfl, ⟨.inl ⟨rfl, rfl, rfl, fun _ => rfl, rfl⟩⟩⟩
theorem f_at {T : Tx} {i : Int} {rf : Bool} {hd : Int → Bool} (h : FInv T i rf hd) : (nextT T).at_ ≤ 3 ∨ ((nextT T).stage ≠ 1 ∧ (nextT T).stage ≠ 4 ∧ (nextT T).stage ≠ 7) := by
  have hsh := h.sh
  obtain ⟨d, e⟩ := nextT_eq T
  rw [e]
  show T.at_ ≤ 3 ∨ (T.stage ≠ 1 ∧ T.stage ≠ 4 ∧ T.stage ≠ 7)
  rcases h.b.how with ⟨hs, _⟩ | ⟨hs, hrf, hr, hh, g1, g2, hi⟩ | ⟨hs, hrf, hr, hh, g1, g2, g3, hi⟩ | ⟨hs, _⟩ | ⟨hs, _⟩ | ⟨hs, r1, r2, hh, g1, g2, hi⟩ | ⟨hs, _⟩
  all_goals omega
theorem f_st {T : Tx} {i : Int} {rf : Bool} {hd : Int → Bool} (h : FInv T i rf hd) : 0 ≤ (nextT T).stage ∧ (nextT T).stage ≤ 8 := by
  obtain ⟨d, e⟩ := nextT_eq T
  rw [e]
  show 0 ≤ T.stage ∧ T.stage ≤ 8
  rcases h.b.how with ⟨hs, _⟩ | ⟨hs, _⟩ | ⟨hs, _⟩ | ⟨hs, _⟩ | ⟨hs, _⟩ | ⟨hs, _⟩ | ⟨hs, _⟩
  all_goals omega
theorem f_i {T : Tx} {i : Int} {rf : Bool} {hd : Int → Bool} (h : FInv T i rf hd) : i ≤ 15 := by
  have hsh := h.sh
  rcases h.b.how with ⟨hs, _, _, _, hi⟩ | ⟨hs, hrf, hr, hh, g1, g2, hi⟩ | ⟨hs, hrf, hr, hh, g1, g2, g3, hi⟩ | ⟨hs, _, _, _, hi⟩ | ⟨hs, _, _, _, hi⟩ | ⟨hs, r1, r2, hh, g1, g2, hi⟩ | ⟨hs, _, _, _, hi⟩
  all_goals omega
/-- what is asked is right -/
theorem f_ask {T : Tx} {i : Int} {rf : Bool} {hd : Int → Bool} (h : FInv T i rf hd) (h8 : T.stage ≠ 8) : (kindOf T.stage = 4 → rf = true → (nextA T).1.e.c = false) ∧ (kindOf T.stage = 2 → rf = false) := by
  obtain ⟨_, _, _, _, hen⟩ := f_next h h8
  rcases h.b.how with ⟨hs, hrf, _⟩ | ⟨hs, hrf, _⟩ | ⟨hs, hrf, _⟩ | ⟨hs, hrf, _⟩ | ⟨hs, r1, r2, hh, hi⟩ | ⟨hs, _⟩ | ⟨hs, _⟩
  all_goals rw [hs]
  · exact ⟨fun h => absurd h (by decide), fun h => absurd h (by decide)⟩
  · exact ⟨fun h => absurd h (by decide), fun _ => hrf⟩
  · exact ⟨fun h => absurd h (by decide), fun h => absurd h (by decide)⟩
  · exact ⟨fun h => absurd h (by decide), fun h => absurd h (by decide)⟩
  · exact ⟨fun _ hr => by rw [hen hs]; exact (r1 hr).2, fun h => absurd h (by decide)⟩
  · exact ⟨fun h => absurd h (by decide), fun h => absurd h (by decide)⟩
  · exact ⟨fun h => absurd h (by decide), fun h => absurd h (by decide)⟩
theorem f_over {T : Tx} {i : Int} {rf : Bool} {hd : Int → Bool} (h : FInv T i rf hd) (h8 : T.stage = 8) : (rf = true → T.res = 3) ∧ (rf = false → T.res = 2) ∧ (∀ z, hd z = false) := by
  rcases h.b.how with ⟨hs, _⟩ | ⟨hs, _⟩ | ⟨hs, _⟩ | ⟨hs, _⟩ | ⟨hs, _⟩ | ⟨hs, _⟩ | ⟨hs, r1, r2, hh, _⟩
  all_goals first
    | exact ⟨r1, r2, hh⟩
    | omega
end Go.Proofs.Ytmmgnbdngpkfcaa.Co

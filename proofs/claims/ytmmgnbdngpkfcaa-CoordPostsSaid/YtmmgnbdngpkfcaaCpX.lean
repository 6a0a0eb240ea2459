
/-
  The law CoordPosts: a round in which the one that leads is asked, walked.
-/
import Derived.Test.YtmmgnbdngpkfcaaCpA
namespace Go.Proofs.Ytmmgnbdngpkfcaa
open Go.RowKit
set_option linter.unusedVariables false

set_option maxRecDepth 1000000 in
set_option maxHeartbeats 0 in
theorem cpX (no pa le : Int) (A : Co.An) (am : Option Addr) (cm : Nat) (ms : List Ms) (w : World) (hcm : cm ≤ 2 ^ 63 - 1) (av : Option Addr) (ac : Nat) (hacm : ac ≤ 2 ^ 63 - 1) (n : Nat) (hc : n ≤ cm) (vn : Nat) (hac : vn ≤ ac) (E : Nat) (n7 pp l0 : Int) (bp : 0 ≤ pp ∧ pp ≤ 15) (nn : Int) (bn : 1 ≤ nn ∧ nn ≤ 8) (l1 ld : Int) (bld : 1 ≤ ld ∧ ld ≤ nn)
    (HA : RowKit.Hid (Bts.i64 A.err ∧ Bts.i64 A.at_ ∧ Bts.i64 A.by_ ∧ Bts.i64 A.home ∧ enR A.e)) (Hvs : RowKit.Hid (Sl EInt (fun _ => True) w av A.vals)) (Hs : RowKit.Hid (Sl EMs (fun _ => True) w am ms)) (Hn : RowKit.Hid (n = ms.length)) (Hvn : RowKit.Hid (vn = A.vals.length)) (HE : RowKit.Hid (E = w.heap.size)) (h20 : ¬ 20 < vn)
    (w3 : World) (g lm : Nat) (hgE : E < g) (hlE : E < lm) (hgz : g < w3.heap.size) (hlz : lm < w3.heap.size) (Hh3 : RowKit.Hid (w3.heap[E]? = some (.cells (ansRow A (.slice av vn ac)) 41 (0, 0)))) (HB3 : RowKit.Hid (Below E w w3)) (Hglm : RowKit.Hid (g ≠ lm)) (k : Nat) (hk1 : 1 ≤ k) (hk2 : k ≤ 2) (wr : World) (tk : Nat) (htk : tk ≤ 3) (P : Po) (ov : Value)
    (HP : RowKit.Hid (PoA wr g lm ov P)) (HO : RowKit.Hid (Only (fun j => j = g ∨ j = lm) w3 wr)) (HS : RowKit.Hid (Pst nn pp k P)) (Z : Int) (hZ1 : 6 ≤ Z) (hZ2 : Z ≤ 162) (hZ3 : IntKind.i64.wrap ((nn + 1) * (pp + 3)) = Z) (hZ4 : (nn + 1) * (pp + 3) = Z) (hZ5 : ¬ Z < (tk : Int) + 1)
    (xo : P.opn = true) (xk : tk ≤ 2) (xt : P.to_ = ld) (HOw : RowKit.Hid (Own EPm 89 w3.heap.size wr ov [⟨77, ld, 1, k⟩]))
    (u10 u14 u16 u17 u18 u19 u20 u21 u22 u23 u24 u33 u49 u50 u58 u59 u60 u61 u62 u63 u64 u65 u66 u67 u68 u69 u70 u71 u72 u73 u74 u75 u76 u77 u78 u79 u80 u81 u82 u83 u84 u85 u86 u87 u88 u89 u90 u91 u92 u93 u94 u95 u96 u97 u98 u99 u100 u101 u102 u103 u104 u105 u106 u107 u108 u109 u110 u111 u112 u113 u114 u115 u116 u117 u118 u119 u120 u121 u122 u123 u124 u125 u126 u127 u128 u129 u130 u131 u132 u133 u134 u135 u136 u137 u138 u139 u140 u141 u142 u143 u144 u145 u146 u147 u148 u149 u150 u151 u152 u153 u154 u155 u156 u157 u158 u159 u160 u161 u162 u163 u164 u165 u166 u167 u168 u169 u170 u171 u172 u173 u174 u175 u176 u177 u178 u179 u180 u181 u182 u183 u184 u185 u186 u187 u188 u189 u190 u191 u192 u193 u194 u195 u196 u197 u198 u199 u200 u201 u202 u203 u204 u205 u206 u207 u208 u209 u210 u211 u212 u213 u214 u215 u216 u217 u218 u219 u220 u221 u222 u223 : Value) (Q : Exit → Act → World → Prop) (hQ : ∀ (w' : World) (v10 v14 v16 v17 v18 v19 v20 v21 v22 v23 v24 v58 v59 v60 v61 v62 v63 v64 v65 v66 v67 v68 v69 v70 v71 v72 v73 v74 v75 v76 v77 v78 v79 v80 v81 v82 v83 v84 v85 v86 v87 v88 v89 v90 v91 v92 v93 v94 v95 v96 v97 v98 v99 v100 v101 v102 v103 v104 v105 v106 v107 v108 v109 v110 v111 v112 v113 v114 v115 v116 v117 v118 v119 v120 v121 v122 v123 v124 v125 v126 v127 v128 v129 v130 v131 v132 v133 v134 v135 v136 v137 v138 v139 v140 v141 v142 v143 v144 v145 v146 v147 v148 v149 v150 v151 v152 v153 v154 v155 v156 v157 v158 v159 v160 v161 v162 v163 v164 v165 v166 v167 v168 v169 v170 v171 v172 v173 v174 v175 v176 v177 v178 v179 v180 v181 v182 v183 v184 v185 v186 v187 v188 v189 v190 v191 v192 v193 v194 v195 v196 v197 v198 v199 v200 v201 v202 v203 v204 v205 v206 v207 v208 v209 v210 v211 v212 v213 v214 v215 v216 v217 v218 v219 v220 v221 v222 v223 : Value), QRel w3 g lm nn pp ld k (tk + 1 : Nat) w' → Q .normal ⟨#[.int .i64 nn, .int .i64 pp, .int .i64 ld, .agg (ansRow A (.slice av vn ac)), .slice am n cm, undef, undef, undef, .pointer (some ⟨E, 0, none⟩), undef, v10, .pointer (some ⟨g, 0, none⟩), .int .i64 k, .int .i64 ((tk : Int) + 1), v14, undef, v16, v17, v18, v19, v20, v21, v22, v23, v24, undef, undef, undef, .bool true, .bool false, .pointer (some ⟨E, 1, none⟩), .slice av vn ac, .int .i64 vn, u33, .int .i64 no, .int .i64 n7, .int .i64 nn, .int .i64 pa, .int .i64 pp, .int .i64 le, .int .i64 l0, .int .i64 nn, .int .i64 l1, .int .i64 ld, .int .i64 nn, .int .i64 pp, .pointer (some ⟨g, 0, none⟩), .int .i64 k, .bool true, u49, u50, .pointer (some ⟨g, 0, none⟩), .agg #[.int .i64 1, .int .i64 0, .int .i64 0, .int .i64 0, .slice none 0 0, .slice none 0 0, .int .i64 0, .bool false, .int .i64 0], .agg #[.int .i64 1, .int .i64 1, .int .i64 0, .int .i64 0, .int .i64 0, .slice none 0 0, .slice none 0 0, .int .i64 0, .bool false, .int .i64 0], .tuple #[], .pointer (some ⟨g, 0, none⟩), .bool true, .bool false, v58, v59, v60, v61, v62, v63, v64, v65, v66, v67, v68, v69, v70, v71, v72, v73, v74, v75, v76, v77, v78, v79, v80, v81, v82, v83, v84, v85, v86, v87, v88, v89, v90, v91, v92, v93, v94, v95, v96, v97, v98, v99, v100, v101, v102, v103, v104, v105, v106, v107, v108, v109, v110, v111, v112, v113, v114, v115, v116, v117, v118, v119, v120, v121, v122, v123, v124, v125, v126, v127, v128, v129, v130, v131, v132, v133, v134, v135, v136, v137, v138, v139, v140, v141, v142, v143, v144, v145, v146, v147, v148, v149, v150, v151, v152, v153, v154, v155, v156, v157, v158, v159, v160, v161, v162, v163, v164, v165, v166, v167, v168, v169, v170, v171, v172, v173, v174, v175, v176, v177, v178, v179, v180, v181, v182, v183, v184, v185, v186, v187, v188, v189, v190, v191, v192, v193, v194, v195, v196, v197, v198, v199, v200, v201, v202, v203, v204, v205, v206, v207, v208, v209, v210, v211, v212, v213, v214, v215, v216, v217, v218, v219, v220, v221, v222, v223, undef, undef, undef, undef, undef, undef, undef, undef, undef, undef, undef, undef, undef, undef, undef, undef, undef, undef, undef, undef, undef, undef, undef, undef, undef, undef, undef, undef, undef, undef, undef, undef, undef, undef, undef, undef], []⟩ w') :
    Code.wp Try.prog cpBody Q ⟨#[.int .i64 nn, .int .i64 pp, .int .i64 ld, .agg (ansRow A (.slice av vn ac)), .slice am n cm, undef, undef, undef, .pointer (some ⟨E, 0, none⟩), undef, u10, .pointer (some ⟨g, 0, none⟩), .int .i64 k, .int .i64 tk, u14, undef, u16, u17, u18, u19, u20, u21, u22, u23, u24, undef, undef, undef, .bool true, .bool false, .pointer (some ⟨E, 1, none⟩), .slice av vn ac, .int .i64 vn, u33, .int .i64 no, .int .i64 n7, .int .i64 nn, .int .i64 pa, .int .i64 pp, .int .i64 le, .int .i64 l0, .int .i64 nn, .int .i64 l1, .int .i64 ld, .int .i64 nn, .int .i64 pp, .pointer (some ⟨g, 0, none⟩), .int .i64 k, .bool true, u49, u50, .pointer (some ⟨g, 0, none⟩), .agg #[.int .i64 1, .int .i64 0, .int .i64 0, .int .i64 0, .slice none 0 0, .slice none 0 0, .int .i64 0, .bool false, .int .i64 0], .agg #[.int .i64 1, .int .i64 1, .int .i64 0, .int .i64 0, .int .i64 0, .slice none 0 0, .slice none 0 0, .int .i64 0, .bool false, .int .i64 0], .tuple #[], .pointer (some ⟨g, 0, none⟩), .bool true, .bool false, u58, u59, u60, u61, u62, u63, u64, u65, u66, u67, u68, u69, u70, u71, u72, u73, u74, u75, u76, u77, u78, u79, u80, u81, u82, u83, u84, u85, u86, u87, u88, u89, u90, u91, u92, u93, u94, u95, u96, u97, u98, u99, u100, u101, u102, u103, u104, u105, u106, u107, u108, u109, u110, u111, u112, u113, u114, u115, u116, u117, u118, u119, u120, u121, u122, u123, u124, u125, u126, u127, u128, u129, u130, u131, u132, u133, u134, u135, u136, u137, u138, u139, u140, u141, u142, u143, u144, u145, u146, u147, u148, u149, u150, u151, u152, u153, u154, u155, u156, u157, u158, u159, u160, u161, u162, u163, u164, u165, u166, u167, u168, u169, u170, u171, u172, u173, u174, u175, u176, u177, u178, u179, u180, u181, u182, u183, u184, u185, u186, u187, u188, u189, u190, u191, u192, u193, u194, u195, u196, u197, u198, u199, u200, u201, u202, u203, u204, u205, u206, u207, u208, u209, u210, u211, u212, u213, u214, u215, u216, u217, u218, u219, u220, u221, u222, u223, undef, undef, undef, undef, undef, undef, undef, undef, undef, undef, undef, undef, undef, undef, undef, undef, undef, undef, undef, undef, undef, undef, undef, undef, undef, undef, undef, undef, undef, undef, undef, undef, undef, undef, undef, undef], []⟩ wr := by
  have hki : (k : Int) ≤ 2 := by omega
  have h20i : ¬ (20 : Int) < (vn : Int) := by omega
  have HqQ := Lib.hid (fun (w' : World) (h : QRel w3 g lm nn pp ld k (tk + 1 : Nat) w') => fun (v10 v14 v16 v17 v18 v19 v20 v21 v22 v23 v24 v58 v59 v60 v61 v62 v63 v64 v65 v66 v67 v68 v69 v70 v71 v72 v73 v74 v75 v76 v77 v78 v79 v80 v81 v82 v83 v84 v85 v86 v87 v88 v89 v90 v91 v92 v93 v94 v95 v96 v97 v98 v99 v100 v101 v102 v103 v104 v105 v106 v107 v108 v109 v110 v111 v112 v113 v114 v115 v116 v117 v118 v119 v120 v121 v122 v123 v124 v125 v126 v127 v128 v129 v130 v131 v132 v133 v134 v135 v136 v137 v138 v139 v140 v141 v142 v143 v144 v145 v146 v147 v148 v149 v150 v151 v152 v153 v154 v155 v156 v157 v158 v159 v160 v161 v162 v163 v164 v165 v166 v167 v168 v169 v170 v171 v172 v173 v174 v175 v176 v177 v178 v179 v180 v181 v182 v183 v184 v185 v186 v187 v188 v189 v190 v191 v192 v193 v194 v195 v196 v197 v198 v199 v200 v201 v202 v203 v204 v205 v206 v207 v208 v209 v210 v211 v212 v213 v214 v215 v216 v217 v218 v219 v220 v221 v222 v223 : Value) => hQ w' v10 v14 v16 v17 v18 v19 v20 v21 v22 v23 v24 v58 v59 v60 v61 v62 v63 v64 v65 v66 v67 v68 v69 v70 v71 v72 v73 v74 v75 v76 v77 v78 v79 v80 v81 v82 v83 v84 v85 v86 v87 v88 v89 v90 v91 v92 v93 v94 v95 v96 v97 v98 v99 v100 v101 v102 v103 v104 v105 v106 v107 v108 v109 v110 v111 v112 v113 v114 v115 v116 v117 v118 v119 v120 v121 v122 v123 v124 v125 v126 v127 v128 v129 v130 v131 v132 v133 v134 v135 v136 v137 v138 v139 v140 v141 v142 v143 v144 v145 v146 v147 v148 v149 v150 v151 v152 v153 v154 v155 v156 v157 v158 v159 v160 v161 v162 v163 v164 v165 v166 v167 v168 v169 v170 v171 v172 v173 v174 v175 v176 v177 v178 v179 v180 v181 v182 v183 v184 v185 v186 v187 v188 v189 v190 v191 v192 v193 v194 v195 v196 v197 v198 v199 v200 v201 v202 v203 v204 v205 v206 v207 v208 v209 v210 v211 v212 v213 v214 v215 v216 v217 v218 v219 v220 v221 v222 v223 h)
  clear hQ
  conv => arg 2; whnf
  obtain ⟨oa, oc, rfl, hoc, hocm, hrs, hown⟩ := HOw.out.shape 1 rfl
  obtain ⟨b, o, d, rfl, hd1, hcl0⟩ := pm_at hrs.2 0 (by decide)
  have Hcl0 := Lib.hid hcl0
  have Hxt := Lib.hid xt
  have Hxo := Lib.hid xo
  unfold maxLen at hocm
  have hbz : w3.heap.size ≤ b := (hown.lt b rfl).1
  clear hrs hown hcl0 xt xo
  go_wp2_with fail
  refine (po_Open wr HP.out).mono ?_
  rintro e w5 ⟨rfl, rfl⟩
  rw [Hxo.out]
  go_wp2_with fail
  refine (po_Take wr HP.out).mono ?_
  rintro e w5 ⟨rfl, hP5, ho5⟩
  have hO5 : Only (fun j => j = g ∨ j = lm) w3 w5 := HO.out.trans ho5 fun _ _ h => .inl h
  have HP5 := Lib.hid hP5
  have HO5 := Lib.hid hO5
  have hcl5 : ∀ i v, (pmCells ⟨77, ld, 1, k⟩ d)[i]? = some v → w5.cell? ⟨b, o + (0 * 12 + i), none⟩ = some v := fun i v hv => cell_stays ho5 (by omega) (Hcl0.out i v hv)
  have Hcl5 := Lib.hid hcl5
  clear hP5 hO5 hcl5 ho5 HP HO HOw Hcl0
  go_wp2_with fail
  go_loopw [64] (fun i wx => ∃ j : Nat, j ≤ 1 ∧ i = .int .i64 j ∧ RowKit.Hid (Two (j = 0 ∧ w5 = wx) (j = 1 ∧ XDone w3 g lm nn pp ld k wx))) (fun i _ => 1 - (intOf i).toNat)
  case atStart => exact ⟨0, by decide, rfl, Lib.hid (.inl ⟨rfl, rfl⟩)⟩
  case round =>
    obtain ⟨j, hj, rfl, hT⟩ := hrel
    by_cases hj1 : j < 1
    · have hji : (j : Int) < 1 := by omega
      have hw : w5 = wr := by
        rcases hT.out with ⟨_, h⟩ | ⟨h, _⟩
        · exact h
        · omega
      subst hw
      have hj0 : j = 0 := by omega
      have e0 : w5.cell? ⟨b, o + j * 12, none⟩ = some (.int .i64 6) := by rw [hj0]; simpa using Hcl5.out 0 _ rfl
      have e1 : w5.cell? ⟨b, o + j * 12 + 1, none⟩ = some (.int .i64 77) := by rw [hj0, Nat.add_assoc]; exact Hcl5.out 1 _ rfl
      have e2 : w5.cell? ⟨b, o + j * 12 + 2, none⟩ = some (.int .i64 ld) := by rw [hj0, Nat.add_assoc]; exact Hcl5.out 2 _ rfl
      have e3 : w5.cell? ⟨b, o + j * 12 + 3, none⟩ = some (.int .i64 1) := by rw [hj0, Nat.add_assoc]; exact Hcl5.out 3 _ rfl
      have e4 : w5.cell? ⟨b, o + j * 12 + 4, none⟩ = some (.int .i64 0) := by rw [hj0, Nat.add_assoc]; exact Hcl5.out 4 _ rfl
      have e5 : w5.cell? ⟨b, o + j * 12 + 5, none⟩ = some (.int .i64 0) := by rw [hj0, Nat.add_assoc]; exact Hcl5.out 5 _ rfl
      have e6 : w5.cell? ⟨b, o + j * 12 + 6, none⟩ = some (.int .i64 0) := by rw [hj0, Nat.add_assoc]; exact Hcl5.out 6 _ rfl
      have e7 : w5.cell? ⟨b, o + j * 12 + 7, none⟩ = some (.int .i64 0) := by rw [hj0, Nat.add_assoc]; exact Hcl5.out 7 _ rfl
      have e8 : w5.cell? ⟨b, o + j * 12 + 8, none⟩ = some (.int .i64 k) := by rw [hj0, Nat.add_assoc]; exact Hcl5.out 8 _ rfl
      have e9 : w5.cell? ⟨b, o + j * 12 + 9, none⟩ = some (.int .i64 0) := by rw [hj0, Nat.add_assoc]; exact Hcl5.out 9 _ rfl
      have e10 : w5.cell? ⟨b, o + j * 12 + 10, none⟩ = some (.slice none 0 0) := by rw [hj0, Nat.add_assoc]; exact Hcl5.out 10 _ rfl
      have e11 : w5.cell? ⟨b, o + j * 12 + 11, none⟩ = some (d) := by rw [hj0, Nat.add_assoc]; exact Hcl5.out 11 _ rfl
      have Hj0 := Lib.hid hj0
      have hz : (w5.alloc (.cells #[.int .i64 0, .int .i64 0, .int .i64 0, .int .i64 0, .int .i64 0, .int .i64 0, .int .i64 0, .int .i64 0, .int .i64 0, .int .i64 0, .slice none 0 0, .slice none 0 0] 89)).heap[w5.heap.size]? = some (.cells #[.int .i64 0, .int .i64 0, .int .i64 0, .int .i64 0, .int .i64 0, .int .i64 0, .int .i64 0, .int .i64 0, .int .i64 0, .int .i64 0, .slice none 0 0, .slice none 0 0] 89 (0, 0)) := heap_alloc_new w5 _
      obtain ⟨q, hq⟩ : ∃ q, q = w5.heap.size := ⟨_, rfl⟩
      obtain ⟨w6, hw6⟩ : ∃ x, x = (w5.alloc (.cells #[.int .i64 0, .int .i64 0, .int .i64 0, .int .i64 0, .int .i64 0, .int .i64 0, .int .i64 0, .int .i64 0, .int .i64 0, .int .i64 0, .slice none 0 0, .slice none 0 0] 89)).setRow w5.heap.size #[.int .i64 6, .int .i64 77, .int .i64 ld, .int .i64 1, .int .i64 0, .int .i64 0, .int .i64 0, .int .i64 0, .int .i64 k, .int .i64 0, .slice none 0 0, d] := ⟨_, rfl⟩
      have hq6 : w6.heap[q]? = some (.cells #[.int .i64 6, .int .i64 77, .int .i64 ld, .int .i64 1, .int .i64 0, .int .i64 0, .int .i64 0, .int .i64 0, .int .i64 k, .int .i64 0, .slice none 0 0, d] 89 (0, 0)) := by rw [hw6, hq]; exact setRow_at hz
      have hb6 : Below w5.heap.size w5 w6 := by
        rw [hw6]; exact ((Below.refl _ _).alloc (Nat.le_refl _) _).trans (setRow_below _ (by simp) (Nat.le_refl _))
      have hP6 := HP5.out.keep hb6
      have hO6 : Only (fun j => j = g ∨ j = lm) w3 w6 := HO5.out.trans (Below.only (S := fun j => j = g ∨ j = lm) hb6) fun _ _ h => h
      have m0 : w6.cell? ⟨q, 0, none⟩ = some (.int .i64 6) := by simp [World.cell?, hq6]
      have m1 : w6.cell? ⟨q, 1, none⟩ = some (.int .i64 77) := by simp [World.cell?, hq6]
      have m2 : w6.cell? ⟨q, 2, none⟩ = some (.int .i64 ld) := by simp [World.cell?, hq6]
      have m3 : w6.cell? ⟨q, 3, none⟩ = some (.int .i64 1) := by simp [World.cell?, hq6]
      have m8 : w6.cell? ⟨q, 8, none⟩ = some (.int .i64 k) := by simp [World.cell?, hq6]
      have hs12 : (Try.prog.info? 89).map (·.size) = some (#[.int .i64 6, .int .i64 77, .int .i64 ld, .int .i64 1, .int .i64 0, .int .i64 0, .int .i64 0, .int .i64 0, .int .i64 k, .int .i64 0, .slice none 0 0, d] : Array Value).size := size_msg
      have hall : (#[.int .i64 6, .int .i64 77, .int .i64 ld, .int .i64 1, .int .i64 0, .int .i64 0, .int .i64 0, .int .i64 0, .int .i64 k, .int .i64 0, .slice none 0 0, d] : Array Value).all (·.oneCell') = true := pm_all 77 ld 1 k d hd1
      have Hz := Lib.hid hz
      have Hw6 := Lib.hid hw6.symm
      have Hq := Lib.hid hq
      have HP6 := Lib.hid hP6
      have HO6 := Lib.hid hO6
      have hld1 : ¬ ld < 1 := by omega
      have hldn : ¬ nn < ld := by omega
      clear hz hw6 hq hq6 hb6 hP6 hO6 hj0 hT
      go_upto_region 21 with (refine wpList_storeRow rfl _ _ _ rfl w5.heap.size rfl _ _ rfl _ Hz.out hs12 rfl hall ?_)
      rw [Hw6.out, ← Hq.out]
      clear e0 e1 e2 e3 e4 e5 e6 e7 e8 e9 e10 e11 Hw6 Hz hs12 hall
      have hcase : (((k : Int) == 2) = true ∧ ((tk : Int) == 0) = true) ∨ (((k : Int) == 2) = true ∧ ((tk : Int) == 0) = false) ∨ (((k : Int) == 2) = false) := by
        by_cases h1 : k = 2
        · by_cases h2 : tk = 0
          · exact .inl ⟨by simp [h1], by simp [h2]⟩
          · exact .inr (.inl ⟨by simp [h1], by simp; omega⟩)
        · exact .inr (.inr (by simp; omega))
      rcases hcase with ⟨hc1, hc2⟩ | ⟨hc1, hc2⟩ | hc1
      all_goals
        go_upto_region 26 with fail
        clear hc1
        go_wp2_with fail
        go_loopw [17] (fun i wx => ∃ i4 : Nat, i4 ≤ n ∧ i = .int .i64 i4 ∧ RowKit.Hid (Below w6.heap.size w6 wx)) (fun i _ => n - (intOf i).toNat)
        case atStart => exact ⟨0, Nat.zero_le _, rfl, Lib.hid (Below.refl _ _)⟩
        case round =>
          obtain ⟨i4, hi4, rfl, hb⟩ := hrel
          have hPr : PoA wr g lm (.slice none 0 0) P := HP6.out.keep hb.out
          have hOr : Only (fun j => j = g ∨ j = lm) w3 wr := HO6.out.trans (Below.only (S := fun j => j = g ∨ j = lm) hb.out) fun _ _ h => h
          have hBr : Below E w wr := HB3.out.trans (hOr.below (by omega) fun j hj => by omega)
          have HPr := Lib.hid hPr
          have HOr := Lib.hid hOr
          have HBr := Lib.hid hBr
          clear hPr hOr hBr m0 m1 m2 m3 m8
          by_cases hgo : i4 < n ∧ i4 < 10
          ·
              obtain ⟨hlt, h10⟩ := hgo
              have hlti : (i4 : Int) < (n : Int) := by omega
              have h10i : (i4 : Int) < 10 := by omega
              have hsr : Sl EMs (fun _ => True) wr am ms := Hs.out.below (by decide) (by rw [← HE.out]; exact HBr.out)
              have hil : i4 < ms.length := by rw [← Hn.out]; exact hlt
              obtain ⟨b2, o2, rfl, hmr, hcl2⟩ := ms_at hsr i4 hil
              obtain ⟨M, hM⟩ : ∃ M, M = ms[i4] := ⟨_, rfl⟩
              rw [← hM] at hmr hcl2
              clear hM hsr hil
              obtain ⟨mk, mf, mt, ms_, mv, mn, ma, mc, mi, me, lv, dv⟩ := M
              obtain ⟨⟨la, ln, lc, hlv⟩, ⟨da, dn, dc, hdv⟩, hfr⟩ := hmr
              dsimp only at hlv hdv
              subst hlv
              subst hdv
              have f0 : wr.cell? ⟨b2, o2 + i4 * 12, none⟩ = some (.int .i64 mk) := by have h := hcl2 0 (.int .i64 mk) rfl; rw [Nat.add_zero] at h; exact h
              have f1 : wr.cell? ⟨b2, o2 + i4 * 12 + 1, none⟩ = some (.int .i64 mf) := by rw [Nat.add_assoc]; exact hcl2 1 _ rfl
              have f2 : wr.cell? ⟨b2, o2 + i4 * 12 + 2, none⟩ = some (.int .i64 mt) := by rw [Nat.add_assoc]; exact hcl2 2 _ rfl
              have f3 : wr.cell? ⟨b2, o2 + i4 * 12 + 3, none⟩ = some (.int .i64 ms_) := by rw [Nat.add_assoc]; exact hcl2 3 _ rfl
              have f4 : wr.cell? ⟨b2, o2 + i4 * 12 + 4, none⟩ = some (.int .i64 mv) := by rw [Nat.add_assoc]; exact hcl2 4 _ rfl
              have f5 : wr.cell? ⟨b2, o2 + i4 * 12 + 5, none⟩ = some (.int .i64 mn) := by rw [Nat.add_assoc]; exact hcl2 5 _ rfl
              have f6 : wr.cell? ⟨b2, o2 + i4 * 12 + 6, none⟩ = some (.int .i64 ma) := by rw [Nat.add_assoc]; exact hcl2 6 _ rfl
              have f7 : wr.cell? ⟨b2, o2 + i4 * 12 + 7, none⟩ = some (.int .i64 mc) := by rw [Nat.add_assoc]; exact hcl2 7 _ rfl
              have f8 : wr.cell? ⟨b2, o2 + i4 * 12 + 8, none⟩ = some (.int .i64 mi) := by rw [Nat.add_assoc]; exact hcl2 8 _ rfl
              have f9 : wr.cell? ⟨b2, o2 + i4 * 12 + 9, none⟩ = some (.int .i64 me) := by rw [Nat.add_assoc]; exact hcl2 9 _ rfl
              have f10 : wr.cell? ⟨b2, o2 + i4 * 12 + 10, none⟩ = some (.slice la ln lc) := by rw [Nat.add_assoc]; exact hcl2 10 _ rfl
              have f11 : wr.cell? ⟨b2, o2 + i4 * 12 + 11, none⟩ = some (.slice da dn dc) := by rw [Nat.add_assoc]; exact hcl2 11 _ rfl
              clear hcl2 hfr
              have hz2 : (wr.alloc (.cells #[.int .i64 0, .int .i64 0, .int .i64 0, .int .i64 0, .int .i64 0, .int .i64 0, .int .i64 0, .int .i64 0, .int .i64 0, .int .i64 0, .slice none 0 0, .slice none 0 0] 89)).heap[wr.heap.size]? = some (.cells #[.int .i64 0, .int .i64 0, .int .i64 0, .int .i64 0, .int .i64 0, .int .i64 0, .int .i64 0, .int .i64 0, .int .i64 0, .int .i64 0, .slice none 0 0, .slice none 0 0] 89 (0, 0)) := heap_alloc_new wr _
              obtain ⟨q2, hq2⟩ : ∃ q, q = wr.heap.size := ⟨_, rfl⟩
              obtain ⟨w7, hw7⟩ : ∃ x, x = (wr.alloc (.cells #[.int .i64 0, .int .i64 0, .int .i64 0, .int .i64 0, .int .i64 0, .int .i64 0, .int .i64 0, .int .i64 0, .int .i64 0, .int .i64 0, .slice none 0 0, .slice none 0 0] 89)).setRow wr.heap.size #[.int .i64 mk, .int .i64 mf, .int .i64 mt, .int .i64 ms_, .int .i64 mv, .int .i64 mn, .int .i64 ma, .int .i64 mc, .int .i64 mi, .int .i64 me, .slice la ln lc, .slice da dn dc] := ⟨_, rfl⟩
              have hq7 : w7.heap[q2]? = some (.cells #[.int .i64 mk, .int .i64 mf, .int .i64 mt, .int .i64 ms_, .int .i64 mv, .int .i64 mn, .int .i64 ma, .int .i64 mc, .int .i64 mi, .int .i64 me, .slice la ln lc, .slice da dn dc] 89 (0, 0)) := by rw [hw7, hq2]; exact setRow_at hz2
              have hb7 : Below wr.heap.size wr w7 := by
                rw [hw7]; exact ((Below.refl _ _).alloc (Nat.le_refl _) _).trans (setRow_below _ (by simp) (Nat.le_refl _))
              obtain ⟨w8, hw8⟩ : ∃ x, x = w7.setCell ⟨q2, 1, none⟩ (.int .i64 99) := ⟨_, rfl⟩
              have hq8 : w8.heap[q2]? = some (.cells #[.int .i64 mk, .int .i64 99, .int .i64 mt, .int .i64 ms_, .int .i64 mv, .int .i64 mn, .int .i64 ma, .int .i64 mc, .int .i64 mi, .int .i64 me, .slice la ln lc, .slice da dn dc] 89 (0, 0)) := by rw [hw8]; exact heap_set hq7 1 (.int .i64 99)
              have hb8 : Below wr.heap.size wr w8 := by
                rw [hw8]; exact hb7.setCell (by rw [hq2]; exact Nat.le_refl _) _
              have n0 : w7.cell? ⟨q2, 0, none⟩ = some (.int .i64 mk) := by simp [World.cell?, hq7]
              have n1 : w7.cell? ⟨q2, 1, none⟩ = some (.int .i64 mf) := by simp [World.cell?, hq7]
              have n3 : w7.cell? ⟨q2, 3, none⟩ = some (.int .i64 ms_) := by simp [World.cell?, hq7]
              have n8 : w7.cell? ⟨q2, 8, none⟩ = some (.int .i64 mi) := by simp [World.cell?, hq7]
              have n9 : w7.cell? ⟨q2, 9, none⟩ = some (.int .i64 me) := by simp [World.cell?, hq7]
              have nf1 : w7.frozen? ⟨q2, 1, none⟩ = false := by simp [World.frozen?, hq7]
              have hP8 := HPr.out.keep hb8
              have hs12 : (Try.prog.info? 89).map (·.size) = some (#[.int .i64 mk, .int .i64 mf, .int .i64 mt, .int .i64 ms_, .int .i64 mv, .int .i64 mn, .int .i64 ma, .int .i64 mc, .int .i64 mi, .int .i64 me, .slice la ln lc, .slice da dn dc] : Array Value).size := size_msg
              have hs129 : (Try.prog.info? 89).map (·.size) = some (#[.int .i64 mk, .int .i64 99, .int .i64 mt, .int .i64 ms_, .int .i64 mv, .int .i64 mn, .int .i64 ma, .int .i64 mc, .int .i64 mi, .int .i64 me, .slice la ln lc, .slice da dn dc] : Array Value).size := size_msg
              have hall : (#[.int .i64 mk, .int .i64 mf, .int .i64 mt, .int .i64 ms_, .int .i64 mv, .int .i64 mn, .int .i64 ma, .int .i64 mc, .int .i64 mi, .int .i64 me, .slice la ln lc, .slice da dn dc] : Array Value).all (·.oneCell') = true := by simp [Value.oneCell']
              have hbt7 : Below w6.heap.size w6 w7 := hb.out.trans (hb7.mono hb.out.size)
              have hbt8 : Below w6.heap.size w6 w8 := hb.out.trans (hb8.mono hb.out.size)
              have Hz2 := Lib.hid hz2
              have Hq2 := Lib.hid hq2
              have Hw7 := Lib.hid hw7.symm
              have Hw8 := Lib.hid hw8.symm
              have Hq8 := Lib.hid hq8
              have HP8 := Lib.hid hP8
              have Hbt7 := Lib.hid hbt7
              have Hbt8 := Lib.hid hbt8
              clear hz2 hq2 hw7 hq7 hb7 hw8 hq8 hb8 hP8 hbt7 hbt8 hb HPr HOr HBr
              go_upto_region 30 with (refine wpList_storeRow rfl _ _ _ rfl wr.heap.size rfl _ _ rfl _ Hz2.out hs12 rfl hall ?_)
              rw [Hw7.out, ← Hq2.out]
              clear f0 f1 f2 f3 f4 f5 f6 f7 f8 f9 f10 f11 Hw7 Hz2 hs12 hall
              have hcs4 : (((mk : Int) == 7) = true ∧ (mi == (k : Int)) = true ∧ (ms_ == 1) = true ∧ (me == 0) = true) ∨ ((mk == 7) = false) ∨ ((mk == 7) = true ∧ (mi == (k : Int)) = false) ∨ ((mk == 7) = true ∧ (mi == (k : Int)) = true ∧ (ms_ == 1) = false) ∨ ((mk == 7) = true ∧ (mi == (k : Int)) = true ∧ (ms_ == 1) = true ∧ (me == 0) = false) := by
                cases h1 : (mk == 7) <;> cases h2 : (mi == (k : Int)) <;> cases h3 : (ms_ == 1) <;> cases h4 : (me == 0) <;> simp
              rcases hcs4 with ⟨c1, c2, c3, c4⟩ | hmiss
              · go_wp2_with fail
                go_roundw
                case rel => exact ⟨i4 + 1, by omega, by go_num, Hbt7⟩
                case measure => simp [intOf]; omega
              · have hnot : ¬ (mk = 7 ∧ mi = P.id ∧ ms_ = P.sh ∧ me = 0) := by
                  rintro ⟨rfl, h2, h3, rfl⟩
                  rw [HS.out.id] at h2
                  rw [HS.out.sh] at h3
                  subst h2
                  subst h3
                  simp at hmiss
                have Hnot := Lib.hid hnot
                clear hnot
                rcases hmiss with c1 | ⟨c1, c2⟩ | ⟨c1, c2, c3⟩ | ⟨c1, c2, c3, c4⟩
                all_goals
                  go_upto_region 32 with fail
                  rw [Hw8.out]
                  go_wp2_with (refine wpList_loadRow rfl _ _ rfl q2 rfl _ _ _ _ Hq8.out Try.underlying89 rfl hs129 ?_)
                  refine (po_In_miss ⟨mk, 99, mt, ms_, mv, mn, ma, mc, mi, me, .slice la ln lc, .slice da dn dc⟩ w8 HP8.out Hxo.out Hnot.out (by rw [Hxt.out]; show (99 : Int) ≠ ld; omega)).mono ?_
                  rintro e w9 ⟨rfl, hb9⟩
                  have hz9 : (w9.alloc (.cells #[.int .i64 0, .slice none 0 0, .int .i64 0, .int .i64 0, .int .i64 0, .int .i64 0, .bool false, .int .i64 0] 41)).heap[w9.heap.size]? = some (.cells #[.int .i64 0, .slice none 0 0, .int .i64 0, .int .i64 0, .int .i64 0, .int .i64 0, .bool false, .int .i64 0] 41 (0, 0)) := heap_alloc_new w9 _
                  have hbt9 : Below w6.heap.size w6 ((w9.alloc (.cells #[.int .i64 0, .slice none 0 0, .int .i64 0, .int .i64 0, .int .i64 0, .int .i64 0, .bool false, .int .i64 0] 41)).setRow w9.heap.size ans0) := by
                    have h1 := Hbt8.out.trans (hb9.mono Hbt8.out.size)
                    exact h1.trans (((Below.refl _ _).alloc h1.size _).trans (setRow_below _ (by have := h1.size; simp; omega) h1.size))
                  have hs8 : (Try.prog.info? 41).map (·.size) = some ans0.size := size_answer
                  have hall8 : ans0.all (·.oneCell') = true := by simp [ans0, Value.oneCell']
                  have Hz9 := Lib.hid hz9
                  have Hbt9 := Lib.hid hbt9
                  clear hz9 hbt9 hb9 n0 n1 n3 n8 n9 nf1
                  go_wp2_with (refine wpList_storeRow rfl _ _ _ rfl w9.heap.size rfl _ _ rfl _ Hz9.out hs8 rfl hall8 ?_)
                  go_roundw
                  case rel => exact ⟨i4 + 1, by omega, by go_num, Hbt9⟩
                  case measure => simp [intOf]; omega
          · have hhr : wr.heap[E]? = some (.cells (ansRow A (.slice av vn ac)) 41 (0, 0)) := (HOr.out.block E (Array.getElem?_eq_some_iff.1 Hh3.out).1 (by omega)).trans Hh3.out
            have hsC : (Try.prog.info? 41).map (·.size) = some (ansRow A (.slice av vn ac)).size := size_answer
            have hvr : Sl EInt (fun _ => True) wr av A.vals := Hvs.out.below (by decide) (by rw [← HE.out]; exact HBr.out)
            have hAR : AnR A := by
              obtain ⟨q1, q2, q3, q4, q5⟩ := HA.out
              exact ⟨q1, q2, q3, q4, q5, by rw [← Hvn.out]; omega⟩
            have hA7 : ∀ x ∈ A.vals, Bts.i64 x := fun x hx => by
              obtain ⟨j', hj', e'⟩ := List.mem_iff_getElem.1 hx
              obtain ⟨_, _, _, _, z1, z2⟩ := SlI.at hvr j' hj'
              rw [← e']; exact ⟨z1, z2⟩
            have Hhr := Lib.hid hhr
            have Hvr := Lib.hid hvr
            have HAR := Lib.hid hAR
            have HA7 := Lib.hid hA7
            clear hhr hvr hAR hA7 hb
            have hgo2 : ¬ (i4 : Int) < (n : Int) ∨ ((i4 : Int) < (n : Int) ∧ ¬ (i4 : Int) < 10) := by omega
            clear hgo
            rcases hgo2 with hg1 | ⟨hg1, hg2⟩
            all_goals
              go_wp2_with (refine wpList_loadRow rfl _ _ rfl E rfl _ _ _ _ Hhr.out Try.underlying41 rfl hsC ?_)
              refine (co_aBytes A av vn ac wr Hvn.out Hvr.out HAR.out).mono ?_
              rintro e w9 ⟨v9, rfl, hv9, hb9⟩
              obtain ⟨dn, hdn⟩ : ∃ n, n = (Bts.pack (ansB A)).length := ⟨_, rfl⟩
              obtain ⟨da, dc, rfl, _, _, hrb, _⟩ := hv9.shape dn hdn
              have hP9 := HPr.out.keep hb9
              have hO9 : Only (fun j => j = g ∨ j = lm) w3 w9 := HOr.out.trans (Below.only (S := fun j => j = g ∨ j = lm) hb9) fun _ _ h => h
              have HP9 := Lib.hid hP9
              have HO9 := Lib.hid hO9
              have Hrb := Lib.hid hrb
              clear hP9 hO9 hrb hv9 hb9 hdn
              go_wp2_with fail
              refine (po_In_tell ⟨7, ld, 77, 1, 0, 0, 0, 0, k, 0, .slice none 0 0, .slice da dn dc⟩ w9 A da dn dc HP9.out ⟨Hxo.out, rfl, HS.out.id.symm, HS.out.sh.symm, rfl, rfl⟩ (by show -9223372036854775808 ≤ ld ∧ ld ≤ 9223372036854775807; omega) (by rw [HS.out.sh]; decide) Hrb.out HAR.out HA7.out).mono ?_
              rintro e wa ⟨v, rfl, hva, hPa, hOa⟩
              obtain ⟨va, vc, rfl, _, _, _, _⟩ := hva.shape vn Hvn.out
              have hhw : w9.heap[E]? = some (.cells (ansRow A (.slice av vn ac)) 41 (0, 0)) := (HO9.out.block E (Array.getElem?_eq_some_iff.1 Hh3.out).1 (by omega)).trans Hh3.out
              have hO9a : Only (fun j => j = g ∨ j = lm) w3 wa := HO9.out.trans hOa fun _ _ h => h
              have hzb : (wa.alloc (.cells #[.int .i64 0, .slice none 0 0, .int .i64 0, .int .i64 0, .int .i64 0, .int .i64 0, .bool false, .int .i64 0] 41)).heap[wa.heap.size]? = some (.cells #[.int .i64 0, .slice none 0 0, .int .i64 0, .int .i64 0, .int .i64 0, .int .i64 0, .bool false, .int .i64 0] 41 (0, 0)) := heap_alloc_new wa _
              obtain ⟨q3, hq3⟩ : ∃ q, q = wa.heap.size := ⟨_, rfl⟩
              obtain ⟨wb, hwb⟩ : ∃ x, x = (wa.alloc (.cells #[.int .i64 0, .slice none 0 0, .int .i64 0, .int .i64 0, .int .i64 0, .int .i64 0, .bool false, .int .i64 0] 41)).setRow wa.heap.size (ansRow A (.slice va vn vc)) := ⟨_, rfl⟩
              have hqb : wb.heap[q3]? = some (.cells (ansRow A (.slice va vn vc)) 41 (0, 0)) := by rw [hwb, hq3]; exact setRow_at hzb
              have hbb : Below wa.heap.size wa wb := by
                rw [hwb]; exact ((Below.refl _ _).alloc (Nat.le_refl _) _).trans (setRow_below _ (by simp) (Nat.le_refl _))
              have hOb : Only (fun j => j = g ∨ j = lm) w3 wb := hO9a.trans (Below.only (S := fun j => j = g ∨ j = lm) hbb) fun _ _ h => h
              have hhb : wb.heap[E]? = some (.cells (ansRow A (.slice av vn ac)) 41 (0, 0)) := (hOb.block E (Array.getElem?_eq_some_iff.1 Hh3.out).1 (by omega)).trans Hh3.out
              have hXD : XDone w3 g lm nn pp ld k wb := by
                have hPb := hPa.keep hbb
                refine ⟨_, hPb, hOb, ⟨HS.out.me, HS.out.nodes, HS.out.pat, HS.out.id, HS.out.sh, by show Co.updI P.lead P.sh ld 0 = none; unfold Co.updI; rw [if_neg (by rw [HS.out.sh]; decide)]; exact HS.out.l0⟩, rfl, ?_⟩
                show Co.updI P.lead P.sh ld 1 = some ld
                unfold Co.updI
                rw [if_pos HS.out.sh.symm]
              have x0 : wb.cell? ⟨q3, 0, none⟩ = some (.int .i64 A.err) := by simp [World.cell?, hqb, ansRow]
              have x1 : wb.cell? ⟨q3, 1, none⟩ = some (.slice va vn vc) := by simp [World.cell?, hqb, ansRow]
              have x2 : wb.cell? ⟨q3, 2, none⟩ = some (.int .i64 A.at_) := by simp [World.cell?, hqb, ansRow]
              have x3 : wb.cell? ⟨q3, 3, none⟩ = some (.int .i64 A.by_) := by simp [World.cell?, hqb, ansRow]
              have x4 : wb.cell? ⟨q3, 4, none⟩ = some (.int .i64 A.home) := by simp [World.cell?, hqb, ansRow]
              have x5 : wb.cell? ⟨q3, 5, none⟩ = some (.int .i64 A.e.t) := by simp [World.cell?, hqb, ansRow]
              have x6 : wb.cell? ⟨q3, 6, none⟩ = some (.bool A.e.c) := by simp [World.cell?, hqb, ansRow]
              have x7 : wb.cell? ⟨q3, 7, none⟩ = some (.int .i64 A.e.a) := by simp [World.cell?, hqb, ansRow]
              have z0 : wb.cell? ⟨E, 0, none⟩ = some (.int .i64 A.err) := by simp [World.cell?, hhb, ansRow]
              have z1 : wb.cell? ⟨E, 1, none⟩ = some (.slice av vn ac) := by simp [World.cell?, hhb, ansRow]
              have z2 : wb.cell? ⟨E, 2, none⟩ = some (.int .i64 A.at_) := by simp [World.cell?, hhb, ansRow]
              have z3 : wb.cell? ⟨E, 3, none⟩ = some (.int .i64 A.by_) := by simp [World.cell?, hhb, ansRow]
              have z4 : wb.cell? ⟨E, 4, none⟩ = some (.int .i64 A.home) := by simp [World.cell?, hhb, ansRow]
              have z5 : wb.cell? ⟨E, 5, none⟩ = some (.int .i64 A.e.t) := by simp [World.cell?, hhb, ansRow]
              have z6 : wb.cell? ⟨E, 6, none⟩ = some (.bool A.e.c) := by simp [World.cell?, hhb, ansRow]
              have z7 : wb.cell? ⟨E, 7, none⟩ = some (.int .i64 A.e.a) := by simp [World.cell?, hhb, ansRow]
              have hsA : (Try.prog.info? 41).map (·.size) = some (ansRow A (.slice va vn vc)).size := size_answer
              have hallA : (ansRow A (.slice va vn vc)).all (·.oneCell') = true := by simp [ansRow, Value.oneCell']
              have Hzb := Lib.hid hzb
              have Hwb := Lib.hid hwb.symm
              have Hq3 := Lib.hid hq3
              have HXD := Lib.hid hXD
              clear hva hPa hOa hhw hO9a hzb hq3 hwb hqb hbb hOb hhb hXD
              go_upto_region 36 with (refine wpList_storeRow rfl _ _ _ rfl wa.heap.size rfl _ _ rfl _ Hzb.out hsA rfl hallA ?_)
              rw [Hwb.out, ← Hq3.out]
              clear Hwb Hzb
              go_wp2_with fail
              refine ⟨⟨1, by decide, by rw [Hj0.out]; rfl, Lib.hid (.inr ⟨rfl, HXD.out⟩)⟩, ?_⟩
              rw [Hj0.out]
              decide
    · have hj' : j = 1 := by omega
      subst hj'
      have hX : XDone w3 g lm nn pp ld k wr := by
        rcases hT.out with ⟨h, _⟩ | ⟨_, h⟩
        · cases h
        · exact h
      obtain ⟨P', hP', hO', hS', hd', hl'⟩ := hX
      have hQf : QRel w3 g lm nn pp ld k (tk + 1 : Nat) wr := ⟨P', _, [], hP', Own.nil _ _ _ _, hO', hS', .inr (.inr (.inr ⟨hd', by omega, by omega, rfl, rfl, hl'⟩))⟩
      have HQf := Lib.hid hQf
      have HP' := Lib.hid hP'
      have Hd' := Lib.hid hd'
      clear hP' hO' hS' hd' hl' hQf hT
      go_wp2_with fail
      refine (po_Tick0 wr HP'.out Hd'.out).mono ?_
      rintro e wt ⟨rfl, rfl⟩
      go_wp2_with fail
      exact HqQ.out _ HQf.out _ _ _ _ _ _ _ _ _ _ _ _ _ _ _ _ _ _ _ _ _ _ _ _ _ _ _ _ _ _ _ _ _ _ _ _ _ _ _ _ _ _ _ _ _ _ _ _ _ _ _ _ _ _ _ _ _ _ _ _ _ _ _ _ _ _ _ _ _ _ _ _ _ _ _ _ _ _ _ _ _ _ _ _ _ _ _ _ _ _ _ _ _ _ _ _ _ _ _ _ _ _ _ _ _ _ _ _ _ _ _ _ _ _ _ _ _ _ _ _ _ _ _ _ _ _ _ _ _ _ _ _ _ _ _ _ _ _ _ _ _ _ _ _ _ _ _ _ _ _ _ _ _ _ _ _ _ _ _ _ _ _ _ _ _ _ _ _ _ _ _ _ _ _ _ _ _
end Go.Proofs.Ytmmgnbdngpkfcaa

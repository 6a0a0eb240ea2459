
/-
  The law CoordPosts: a round in which another one is asked, walked.
-/
import Derived.Test.YtmmgnbdngpkfcaaCpA
namespace Go.Proofs.Ytmmgnbdngpkfcaa
open Go.RowKit
set_option linter.unusedVariables false

set_option maxRecDepth 1000000 in
set_option maxHeartbeats 0 in
theorem cpY (no pa le : Int) (A : Co.An) (am : Option Addr) (cm : Nat) (ms : List Ms) (w : World) (hcm : cm ≤ 2 ^ 63 - 1) (av : Option Addr) (ac : Nat) (hacm : ac ≤ 2 ^ 63 - 1) (n : Nat) (hc : n ≤ cm) (vn : Nat) (hac : vn ≤ ac) (E : Nat) (n7 pp l0 : Int) (bp : 0 ≤ pp ∧ pp ≤ 15) (nn : Int) (bn : 1 ≤ nn ∧ nn ≤ 8) (l1 ld : Int) (bld : 1 ≤ ld ∧ ld ≤ nn)
    (HA : RowKit.Hid (Bts.i64 A.err ∧ Bts.i64 A.at_ ∧ Bts.i64 A.by_ ∧ Bts.i64 A.home ∧ enR A.e)) (Hvs : RowKit.Hid (Sl EInt (fun _ => True) w av A.vals)) (Hs : RowKit.Hid (Sl EMs (fun _ => True) w am ms)) (Hn : RowKit.Hid (n = ms.length)) (Hvn : RowKit.Hid (vn = A.vals.length)) (HE : RowKit.Hid (E = w.heap.size)) (h20 : ¬ 20 < vn)
    (w3 : World) (g lm : Nat) (hgE : E < g) (hlE : E < lm) (hgz : g < w3.heap.size) (hlz : lm < w3.heap.size) (Hh3 : RowKit.Hid (w3.heap[E]? = some (.cells (ansRow A (.slice av vn ac)) 41 (0, 0)))) (HB3 : RowKit.Hid (Below E w w3)) (Hglm : RowKit.Hid (g ≠ lm)) (k : Nat) (hk1 : 1 ≤ k) (hk2 : k ≤ 2) (wr : World) (tk : Nat) (htk : tk ≤ 3) (P : Po) (ov : Value)
    (HP : RowKit.Hid (PoA wr g lm ov P)) (HO : RowKit.Hid (Only (fun j => j = g ∨ j = lm) w3 wr)) (HS : RowKit.Hid (Pst nn pp k P)) (Z : Int) (hZ1 : 6 ≤ Z) (hZ2 : Z ≤ 162) (hZ3 : IntKind.i64.wrap ((nn + 1) * (pp + 3)) = Z) (hZ4 : (nn + 1) * (pp + 3) = Z) (hZ5 : ¬ Z < (tk : Int) + 1)
    (yo : P.opn = true) (yk : k = 1) (ytk : tk = 0) (yt : P.to_ = 1) (yl : 2 ≤ ld) (ya : P.age = 0) (HOw : RowKit.Hid (Own EPm 89 w3.heap.size wr ov [⟨77, 1, 1, k⟩]))
    (u10 u14 u16 u17 u18 u19 u20 u21 u22 u23 u24 u33 u49 u50 u58 u59 u60 u61 u62 u63 u64 u65 u66 u67 u68 u69 u70 u71 u72 u73 u74 u75 u76 u77 u78 u79 u80 u81 u82 u83 u84 u85 u86 u87 u88 u89 u90 u91 u92 u93 u94 u95 u96 u97 u98 u99 u100 u101 u102 u103 u104 u105 u106 u107 u108 u109 u110 u111 u112 u113 u114 u115 u116 u117 u118 u119 u120 u121 u122 u123 u124 u125 u126 u127 u128 u129 u130 u131 u132 u133 u134 u135 u136 u137 u138 u139 u140 u141 u142 u143 u144 u145 u146 u147 u148 u149 u150 u151 u152 u153 u154 u155 u156 u157 u158 u159 u160 u161 u162 u163 u164 u165 u166 u167 u168 u169 u170 u171 u172 u173 u174 u175 u176 u177 u178 u179 u180 u181 u182 u183 u184 u185 u186 u187 u188 u189 u190 u191 u192 u193 u194 u195 u196 u197 u198 u199 u200 u201 u202 u203 u204 u205 u206 u207 u208 u209 u210 u211 u212 u213 u214 u215 u216 u217 u218 u219 u220 u221 u222 u223 : Value) (Q : Exit → Act → World → Prop) (hQ : ∀ (w' : World) (v10 v14 v16 v17 v18 v19 v20 v21 v22 v23 v24 v58 v59 v60 v61 v62 v63 v64 v65 v66 v67 v68 v69 v70 v71 v72 v73 v74 v75 v76 v77 v78 v79 v80 v81 v82 v83 v84 v85 v86 v87 v88 v89 v90 v91 v92 v93 v94 v95 v96 v97 v98 v99 v100 v101 v102 v103 v104 v105 v106 v107 v108 v109 v110 v111 v112 v113 v114 v115 v116 v117 v118 v119 v120 v121 v122 v123 v124 v125 v126 v127 v128 v129 v130 v131 v132 v133 v134 v135 v136 v137 v138 v139 v140 v141 v142 v143 v144 v145 v146 v147 v148 v149 v150 v151 v152 v153 v154 v155 v156 v157 v158 v159 v160 v161 v162 v163 v164 v165 v166 v167 v168 v169 v170 v171 v172 v173 v174 v175 v176 v177 v178 v179 v180 v181 v182 v183 v184 v185 v186 v187 v188 v189 v190 v191 v192 v193 v194 v195 v196 v197 v198 v199 v200 v201 v202 v203 v204 v205 v206 v207 v208 v209 v210 v211 v212 v213 v214 v215 v216 v217 v218 v219 v220 v221 v222 v223 : Value), QRel w3 g lm nn pp ld k (tk + 1 : Nat) w' → Q .normal ⟨#[.int .i64 nn, .int .i64 pp, .int .i64 ld, .agg (ansRow A (.slice av vn ac)), .slice am n cm, undef, undef, undef, .pointer (some ⟨E, 0, none⟩), undef, v10, .pointer (some ⟨g, 0, none⟩), .int .i64 k, .int .i64 ((tk : Int) + 1), v14, undef, v16, v17, v18, v19, v20, v21, v22, v23, v24, undef, undef, undef, .bool true, .bool false, .pointer (some ⟨E, 1, none⟩), .slice av vn ac, .int .i64 vn, u33, .int .i64 no, .int .i64 n7, .int .i64 nn, .int .i64 pa, .int .i64 pp, .int .i64 le, .int .i64 l0, .int .i64 nn, .int .i64 l1, .int .i64 ld, .int .i64 nn, .int .i64 pp, .pointer (some ⟨g, 0, none⟩), .int .i64 k, .bool true, u49, u50, .pointer (some ⟨g, 0, none⟩), .agg #[.int .i64 1, .int .i64 0, .int .i64 0, .int .i64 0, .slice none 0 0, .slice none 0 0, .int .i64 0, .bool false, .int .i64 0], .agg #[.int .i64 1, .int .i64 1, .int .i64 0, .int .i64 0, .int .i64 0, .slice none 0 0, .slice none 0 0, .int .i64 0, .bool false, .int .i64 0], .tuple #[], .pointer (some ⟨g, 0, none⟩), .bool true, .bool false, v58, v59, v60, v61, v62, v63, v64, v65, v66, v67, v68, v69, v70, v71, v72, v73, v74, v75, v76, v77, v78, v79, v80, v81, v82, v83, v84, v85, v86, v87, v88, v89, v90, v91, v92, v93, v94, v95, v96, v97, v98, v99, v100, v101, v102, v103, v104, v105, v106, v107, v108, v109, v110, v111, v112, v113, v114, v115, v116, v117, v118, v119, v120, v121, v122, v123, v124, v125, v126, v127, v128, v129, v130, v131, v132, v133, v134, v135, v136, v137, v138, v139, v140, v141, v142, v143, v144, v145, v146, v147, v148, v149, v150, v151, v152, v153, v154, v155, v156, v157, v158, v159, v160, v161, v162, v163, v164, v165, v166, v167, v168, v169, v170, v171, v172, v173, v174, v175, v176, v177, v178, v179, v180, v181, v182, v183, v184, v185, v186, v187, v188, v189, v190, v191, v192, v193, v194, v195, v196, v197, v198, v199, v200, v201, v202, v203, v204, v205, v206, v207, v208, v209, v210, v211, v212, v213, v214, v215, v216, v217, v218, v219, v220, v221, v222, v223, undef, undef, undef, undef, undef, undef, undef, undef, undef, undef, undef, undef, undef, undef, undef, undef, undef, undef, undef, undef, undef, undef, undef, undef, undef, undef, undef, undef, undef, undef, undef, undef, undef, undef, undef, undef], []⟩ w') :
    Code.wp Try.prog cpBody Q ⟨#[.int .i64 nn, .int .i64 pp, .int .i64 ld, .agg (ansRow A (.slice av vn ac)), .slice am n cm, undef, undef, undef, .pointer (some ⟨E, 0, none⟩), undef, u10, .pointer (some ⟨g, 0, none⟩), .int .i64 k, .int .i64 tk, u14, undef, u16, u17, u18, u19, u20, u21, u22, u23, u24, undef, undef, undef, .bool true, .bool false, .pointer (some ⟨E, 1, none⟩), .slice av vn ac, .int .i64 vn, u33, .int .i64 no, .int .i64 n7, .int .i64 nn, .int .i64 pa, .int .i64 pp, .int .i64 le, .int .i64 l0, .int .i64 nn, .int .i64 l1, .int .i64 ld, .int .i64 nn, .int .i64 pp, .pointer (some ⟨g, 0, none⟩), .int .i64 k, .bool true, u49, u50, .pointer (some ⟨g, 0, none⟩), .agg #[.int .i64 1, .int .i64 0, .int .i64 0, .int .i64 0, .slice none 0 0, .slice none 0 0, .int .i64 0, .bool false, .int .i64 0], .agg #[.int .i64 1, .int .i64 1, .int .i64 0, .int .i64 0, .int .i64 0, .slice none 0 0, .slice none 0 0, .int .i64 0, .bool false, .int .i64 0], .tuple #[], .pointer (some ⟨g, 0, none⟩), .bool true, .bool false, u58, u59, u60, u61, u62, u63, u64, u65, u66, u67, u68, u69, u70, u71, u72, u73, u74, u75, u76, u77, u78, u79, u80, u81, u82, u83, u84, u85, u86, u87, u88, u89, u90, u91, u92, u93, u94, u95, u96, u97, u98, u99, u100, u101, u102, u103, u104, u105, u106, u107, u108, u109, u110, u111, u112, u113, u114, u115, u116, u117, u118, u119, u120, u121, u122, u123, u124, u125, u126, u127, u128, u129, u130, u131, u132, u133, u134, u135, u136, u137, u138, u139, u140, u141, u142, u143, u144, u145, u146, u147, u148, u149, u150, u151, u152, u153, u154, u155, u156, u157, u158, u159, u160, u161, u162, u163, u164, u165, u166, u167, u168, u169, u170, u171, u172, u173, u174, u175, u176, u177, u178, u179, u180, u181, u182, u183, u184, u185, u186, u187, u188, u189, u190, u191, u192, u193, u194, u195, u196, u197, u198, u199, u200, u201, u202, u203, u204, u205, u206, u207, u208, u209, u210, u211, u212, u213, u214, u215, u216, u217, u218, u219, u220, u221, u222, u223, undef, undef, undef, undef, undef, undef, undef, undef, undef, undef, undef, undef, undef, undef, undef, undef, undef, undef, undef, undef, undef, undef, undef, undef, undef, undef, undef, undef, undef, undef, undef, undef, undef, undef, undef, undef], []⟩ wr := by
  have hki : (k : Int) ≤ 2 := by omega
  have h20i : ¬ (20 : Int) < (vn : Int) := by omega
  have HqQ := Lib.hid (fun (w' : World) (h : QRel w3 g lm nn pp ld k (tk + 1 : Nat) w') => fun (v10 v14 v16 v17 v18 v19 v20 v21 v22 v23 v24 v58 v59 v60 v61 v62 v63 v64 v65 v66 v67 v68 v69 v70 v71 v72 v73 v74 v75 v76 v77 v78 v79 v80 v81 v82 v83 v84 v85 v86 v87 v88 v89 v90 v91 v92 v93 v94 v95 v96 v97 v98 v99 v100 v101 v102 v103 v104 v105 v106 v107 v108 v109 v110 v111 v112 v113 v114 v115 v116 v117 v118 v119 v120 v121 v122 v123 v124 v125 v126 v127 v128 v129 v130 v131 v132 v133 v134 v135 v136 v137 v138 v139 v140 v141 v142 v143 v144 v145 v146 v147 v148 v149 v150 v151 v152 v153 v154 v155 v156 v157 v158 v159 v160 v161 v162 v163 v164 v165 v166 v167 v168 v169 v170 v171 v172 v173 v174 v175 v176 v177 v178 v179 v180 v181 v182 v183 v184 v185 v186 v187 v188 v189 v190 v191 v192 v193 v194 v195 v196 v197 v198 v199 v200 v201 v202 v203 v204 v205 v206 v207 v208 v209 v210 v211 v212 v213 v214 v215 v216 v217 v218 v219 v220 v221 v222 v223 : Value) => hQ w' v10 v14 v16 v17 v18 v19 v20 v21 v22 v23 v24 v58 v59 v60 v61 v62 v63 v64 v65 v66 v67 v68 v69 v70 v71 v72 v73 v74 v75 v76 v77 v78 v79 v80 v81 v82 v83 v84 v85 v86 v87 v88 v89 v90 v91 v92 v93 v94 v95 v96 v97 v98 v99 v100 v101 v102 v103 v104 v105 v106 v107 v108 v109 v110 v111 v112 v113 v114 v115 v116 v117 v118 v119 v120 v121 v122 v123 v124 v125 v126 v127 v128 v129 v130 v131 v132 v133 v134 v135 v136 v137 v138 v139 v140 v141 v142 v143 v144 v145 v146 v147 v148 v149 v150 v151 v152 v153 v154 v155 v156 v157 v158 v159 v160 v161 v162 v163 v164 v165 v166 v167 v168 v169 v170 v171 v172 v173 v174 v175 v176 v177 v178 v179 v180 v181 v182 v183 v184 v185 v186 v187 v188 v189 v190 v191 v192 v193 v194 v195 v196 v197 v198 v199 v200 v201 v202 v203 v204 v205 v206 v207 v208 v209 v210 v211 v212 v213 v214 v215 v216 v217 v218 v219 v220 v221 v222 v223 h)
  clear hQ
  conv => arg 2; whnf
  obtain ⟨oa, oc, rfl, hoc, hocm, hrs, hown⟩ := HOw.out.shape 1 rfl
  obtain ⟨b, o, d, rfl, hd1, hcl0⟩ := pm_at hrs.2 0 (by decide)
  have Hcl0 := Lib.hid hcl0
  have Hyt := Lib.hid yt
  have Hyo := Lib.hid yo
  have Hya := Lib.hid ya
  have Hyk := Lib.hid yk
  have Hytk := Lib.hid ytk
  have hkb : ((k : Int) == 2) = false := by rw [yk]; decide
  unfold maxLen at hocm
  have hbz : w3.heap.size ≤ b := (hown.lt b rfl).1
  clear hrs hown hcl0 yt yo ya yk ytk
  go_wp2_with fail
  refine (po_Open wr HP.out).mono ?_
  rintro e w5 ⟨rfl, rfl⟩
  rw [Hyo.out]
  go_wp2_with fail
  refine (po_Take wr HP.out).mono ?_
  rintro e w5 ⟨rfl, hP5, ho5⟩
  have hO5 : Only (fun j => j = g ∨ j = lm) w3 w5 := HO.out.trans ho5 fun _ _ h => .inl h
  have HP5 := Lib.hid hP5
  have HO5 := Lib.hid hO5
  have hcl5 : ∀ i v, (pmCells ⟨77, 1, 1, k⟩ d)[i]? = some v → w5.cell? ⟨b, o + (0 * 12 + i), none⟩ = some v := fun i v hv => cell_stays ho5 (by omega) (Hcl0.out i v hv)
  have Hcl5 := Lib.hid hcl5
  clear hP5 hO5 hcl5 ho5 HP HO HOw Hcl0
  go_wp2_with fail
  go_loopw [64] (fun i wx => ∃ j : Nat, j ≤ 1 ∧ i = .int .i64 j ∧ RowKit.Hid (Two (j = 0 ∧ w5 = wx) (j = 1 ∧ YDone w3 g lm nn pp ld k wx))) (fun i _ => 1 - (intOf i).toNat)
  case atStart => exact ⟨0, by decide, rfl, Lib.hid (.inl ⟨rfl, rfl⟩)⟩
  case round =>
    obtain ⟨j, hj, rfl, hT⟩ := hrel
    by_cases hj1 : j < 1
    · have hji : (j : Int) < 1 := by omega
      have hw : w5 = wr := by
        rcases hT.out with ⟨_, h⟩ | ⟨h, _⟩
        · exact h
        · omega
      subst hw
      have hj0 : j = 0 := by omega
      have e0 : w5.cell? ⟨b, o + j * 12, none⟩ = some (.int .i64 6) := by rw [hj0]; simpa using Hcl5.out 0 _ rfl
      have e1 : w5.cell? ⟨b, o + j * 12 + 1, none⟩ = some (.int .i64 77) := by rw [hj0, Nat.add_assoc]; exact Hcl5.out 1 _ rfl
      have e2 : w5.cell? ⟨b, o + j * 12 + 2, none⟩ = some (.int .i64 1) := by rw [hj0, Nat.add_assoc]; exact Hcl5.out 2 _ rfl
      have e3 : w5.cell? ⟨b, o + j * 12 + 3, none⟩ = some (.int .i64 1) := by rw [hj0, Nat.add_assoc]; exact Hcl5.out 3 _ rfl
      have e4 : w5.cell? ⟨b, o + j * 12 + 4, none⟩ = some (.int .i64 0) := by rw [hj0, Nat.add_assoc]; exact Hcl5.out 4 _ rfl
      have e5 : w5.cell? ⟨b, o + j * 12 + 5, none⟩ = some (.int .i64 0) := by rw [hj0, Nat.add_assoc]; exact Hcl5.out 5 _ rfl
      have e6 : w5.cell? ⟨b, o + j * 12 + 6, none⟩ = some (.int .i64 0) := by rw [hj0, Nat.add_assoc]; exact Hcl5.out 6 _ rfl
      have e7 : w5.cell? ⟨b, o + j * 12 + 7, none⟩ = some (.int .i64 0) := by rw [hj0, Nat.add_assoc]; exact Hcl5.out 7 _ rfl
      have e8 : w5.cell? ⟨b, o + j * 12 + 8, none⟩ = some (.int .i64 k) := by rw [hj0, Nat.add_assoc]; exact Hcl5.out 8 _ rfl
      have e9 : w5.cell? ⟨b, o + j * 12 + 9, none⟩ = some (.int .i64 0) := by rw [hj0, Nat.add_assoc]; exact Hcl5.out 9 _ rfl
      have e10 : w5.cell? ⟨b, o + j * 12 + 10, none⟩ = some (.slice none 0 0) := by rw [hj0, Nat.add_assoc]; exact Hcl5.out 10 _ rfl
      have e11 : w5.cell? ⟨b, o + j * 12 + 11, none⟩ = some (d) := by rw [hj0, Nat.add_assoc]; exact Hcl5.out 11 _ rfl
      have Hj0 := Lib.hid hj0
      have hz : (w5.alloc (.cells #[.int .i64 0, .int .i64 0, .int .i64 0, .int .i64 0, .int .i64 0, .int .i64 0, .int .i64 0, .int .i64 0, .int .i64 0, .int .i64 0, .slice none 0 0, .slice none 0 0] 89)).heap[w5.heap.size]? = some (.cells #[.int .i64 0, .int .i64 0, .int .i64 0, .int .i64 0, .int .i64 0, .int .i64 0, .int .i64 0, .int .i64 0, .int .i64 0, .int .i64 0, .slice none 0 0, .slice none 0 0] 89 (0, 0)) := heap_alloc_new w5 _
      obtain ⟨q, hq⟩ : ∃ q, q = w5.heap.size := ⟨_, rfl⟩
      obtain ⟨w6, hw6⟩ : ∃ x, x = (w5.alloc (.cells #[.int .i64 0, .int .i64 0, .int .i64 0, .int .i64 0, .int .i64 0, .int .i64 0, .int .i64 0, .int .i64 0, .int .i64 0, .int .i64 0, .slice none 0 0, .slice none 0 0] 89)).setRow w5.heap.size #[.int .i64 6, .int .i64 77, .int .i64 1, .int .i64 1, .int .i64 0, .int .i64 0, .int .i64 0, .int .i64 0, .int .i64 k, .int .i64 0, .slice none 0 0, d] := ⟨_, rfl⟩
      have hq6 : w6.heap[q]? = some (.cells #[.int .i64 6, .int .i64 77, .int .i64 1, .int .i64 1, .int .i64 0, .int .i64 0, .int .i64 0, .int .i64 0, .int .i64 k, .int .i64 0, .slice none 0 0, d] 89 (0, 0)) := by rw [hw6, hq]; exact setRow_at hz
      have hb6 : Below w5.heap.size w5 w6 := by
        rw [hw6]; exact ((Below.refl _ _).alloc (Nat.le_refl _) _).trans (setRow_below _ (by simp) (Nat.le_refl _))
      have hP6 := HP5.out.keep hb6
      have hO6 : Only (fun j => j = g ∨ j = lm) w3 w6 := HO5.out.trans (Below.only (S := fun j => j = g ∨ j = lm) hb6) fun _ _ h => h
      have m0 : w6.cell? ⟨q, 0, none⟩ = some (.int .i64 6) := by simp [World.cell?, hq6]
      have m1 : w6.cell? ⟨q, 1, none⟩ = some (.int .i64 77) := by simp [World.cell?, hq6]
      have m2 : w6.cell? ⟨q, 2, none⟩ = some (.int .i64 1) := by simp [World.cell?, hq6]
      have m3 : w6.cell? ⟨q, 3, none⟩ = some (.int .i64 1) := by simp [World.cell?, hq6]
      have m8 : w6.cell? ⟨q, 8, none⟩ = some (.int .i64 k) := by simp [World.cell?, hq6]
      have hs12 : (Try.prog.info? 89).map (·.size) = some (#[.int .i64 6, .int .i64 77, .int .i64 1, .int .i64 1, .int .i64 0, .int .i64 0, .int .i64 0, .int .i64 0, .int .i64 k, .int .i64 0, .slice none 0 0, d] : Array Value).size := size_msg
      have hall : (#[.int .i64 6, .int .i64 77, .int .i64 1, .int .i64 1, .int .i64 0, .int .i64 0, .int .i64 0, .int .i64 0, .int .i64 k, .int .i64 0, .slice none 0 0, d] : Array Value).all (·.oneCell') = true := pm_all 77 1 1 k d hd1
      have Hz := Lib.hid hz
      have Hw6 := Lib.hid hw6.symm
      have Hq := Lib.hid hq
      have HP6 := Lib.hid hP6
      have HO6 := Lib.hid hO6
      have hldn : ¬ nn < 1 := by omega
      have hld1 : ((1 : Int) == ld) = false := by simp; omega
      have hb11 : bits .and .i64 1 1 = 1 := by decide
      clear hz hw6 hq hq6 hb6 hP6 hO6 hj0 hT
      go_upto_region 21 with (refine wpList_storeRow rfl _ _ _ rfl w5.heap.size rfl _ _ rfl _ Hz.out hs12 rfl hall ?_)
      rw [Hw6.out, ← Hq.out]
      clear e0 e1 e2 e3 e4 e5 e6 e7 e8 e9 e10 e11 Hw6 Hz hs12 hall
      go_upto_region 39 with fail
      have hM : max P.age (P.pat - 1) = max 0 (pp - 1) := by rw [Hya.out, HS.out.pat]
      have HM := Lib.hid hM
      clear hM
      go_wp2_with fail
      refine (po_In_view ⟨7, 1, 77, 1, ld, 0, 0, 0, k, 50, .slice none 0 0, .slice none 0 0⟩ w6 HP6.out ⟨Hyo.out, rfl, HS.out.id.symm, HS.out.sh.symm, by show (50 : Int) ≠ 0; decide, rfl, Hyt.out, by show 2 ≤ ld; omega, by show ld ≤ P.nodes; rw [HS.out.nodes]; omega⟩ (by rw [HM.out, HS.out.pat]; omega) _ HM.out).mono ?_
      rintro e wa ⟨rfl, hPa, hOa⟩
      have hOb0 : Only (fun j => j = g ∨ j = lm) w3 wa := HO6.out.trans hOa fun _ _ h => .inl h
      have hzb : (wa.alloc (.cells #[.int .i64 0, .slice none 0 0, .int .i64 0, .int .i64 0, .int .i64 0, .int .i64 0, .bool false, .int .i64 0] 41)).heap[wa.heap.size]? = some (.cells #[.int .i64 0, .slice none 0 0, .int .i64 0, .int .i64 0, .int .i64 0, .int .i64 0, .bool false, .int .i64 0] 41 (0, 0)) := heap_alloc_new wa _
      obtain ⟨wb, hwb⟩ : ∃ x, x = (wa.alloc (.cells #[.int .i64 0, .slice none 0 0, .int .i64 0, .int .i64 0, .int .i64 0, .int .i64 0, .bool false, .int .i64 0] 41)).setRow wa.heap.size ans0 := ⟨_, rfl⟩
      have hbb : Below wa.heap.size wa wb := by
        rw [hwb]; exact ((Below.refl _ _).alloc (Nat.le_refl _) _).trans (setRow_below _ (by simp) (Nat.le_refl _))
      have hYD : YDone w3 g lm nn pp ld k wb := ⟨_, hPa.keep hbb, hOb0.trans (Below.only (S := fun j => j = g ∨ j = lm) hbb) fun _ _ h => h, ⟨HS.out.me, HS.out.nodes, HS.out.pat, HS.out.id, HS.out.sh, HS.out.l0⟩, Hyo.out, rfl, rfl⟩
      have hs8 : (Try.prog.info? 41).map (·.size) = some ans0.size := size_answer
      have hall8 : ans0.all (·.oneCell') = true := by simp [ans0, Value.oneCell']
      have Hzb := Lib.hid hzb
      have Hwb := Lib.hid hwb.symm
      have HYD := Lib.hid hYD
      clear hPa hOa hOb0 hzb hwb hbb hYD
      go_upto_region 40 with (refine wpList_storeRow rfl _ _ _ rfl wa.heap.size rfl _ _ rfl _ Hzb.out hs8 rfl hall8 ?_)
      rw [Hwb.out]
      clear Hwb Hzb
      go_wp2_with fail
      refine ⟨⟨1, by decide, by rw [Hj0.out]; rfl, Lib.hid (.inr ⟨rfl, HYD.out⟩)⟩, ?_⟩
      rw [Hj0.out]
      decide
    · have hj' : j = 1 := by omega
      subst hj'
      have hX : YDone w3 g lm nn pp ld k wr := by
        rcases hT.out with ⟨h, _⟩ | ⟨_, h⟩
        · cases h
        · exact h
      obtain ⟨P', hP', hO', hS', hd', ht', ha'⟩ := hX
      have hidk : (P'.id : Int) = k := hS'.id
      by_cases hpp0 : pp = 0
      · have hT2 := po_Tick2 wr hP' hd' (by rw [ha']; omega) (by rw [ha', hS'.pat]; omega)
        have hto : P'.to_ % P'.nodes + 1 = ld := by
          rw [ht', hS'.nodes, Int.emod_eq_of_lt (by omega) (by omega)]; omega
        rw [hto] at hT2
        have hl2 : ([⟨P'.me, ld, P'.sh, P'.id⟩] : List Pm) = [⟨77, ld, 1, k⟩] := by rw [hS'.me, hS'.sh, hidk]
        have Hl2 := Lib.hid hl2
        clear hl2
        have HT2 := Lib.hid hT2
        have HO' := Lib.hid hO'
        have HS' := Lib.hid hS'
        have Hd' := Lib.hid hd'
        clear hP' hO' hS' hd' ht' ha' hT hT2 hto hidk hpp0
        go_wp2_with fail
        refine HT2.out.mono ?_
        rintro e wt ⟨ov, rfl, hPt, hOt, hot⟩
        have hQf : QRel w3 g lm nn pp ld k (tk + 1 : Nat) wt := ⟨_, ov, _, hPt, hOt.base HO'.out.size, HO'.out.trans hot fun _ _ h => .inl h, ⟨HS'.out.me, HS'.out.nodes, HS'.out.pat, HS'.out.id, HS'.out.sh, HS'.out.l0⟩, .inr (.inr (.inl ⟨Hd'.out, Hyk.out, by have := Hytk.out; omega, by have := Hytk.out; omega, Hl2.out, rfl, rfl, yl⟩))⟩
        have HQf := Lib.hid hQf
        clear hPt hOt hot hQf
        go_wp2_with fail
        exact HqQ.out _ HQf.out _ _ _ _ _ _ _ _ _ _ _ _ _ _ _ _ _ _ _ _ _ _ _ _ _ _ _ _ _ _ _ _ _ _ _ _ _ _ _ _ _ _ _ _ _ _ _ _ _ _ _ _ _ _ _ _ _ _ _ _ _ _ _ _ _ _ _ _ _ _ _ _ _ _ _ _ _ _ _ _ _ _ _ _ _ _ _ _ _ _ _ _ _ _ _ _ _ _ _ _ _ _ _ _ _ _ _ _ _ _ _ _ _ _ _ _ _ _ _ _ _ _ _ _ _ _ _ _ _ _ _ _ _ _ _ _ _ _ _ _ _ _ _ _ _ _ _ _ _ _ _ _ _ _ _ _ _ _ _ _ _ _ _ _ _ _ _ _ _ _ _ _ _ _ _ _ _
      · have hT1 := po_Tick1 wr hP' hd' (by rw [ha']; omega) (by rw [ha', hS'.pat]; omega)
        have hag : P'.age + 1 = pp := by rw [ha']; omega
        rw [hag] at hT1
        have HT1 := Lib.hid hT1
        have HO' := Lib.hid hO'
        have HS' := Lib.hid hS'
        have Hd' := Lib.hid hd'
        have Ht' := Lib.hid ht'
        clear hP' hO' hS' hd' ht' ha' hT hT1 hag hidk
        go_wp2_with fail
        refine HT1.out.mono ?_
        rintro e wt ⟨rfl, hPt, hot⟩
        have hQf : QRel w3 g lm nn pp ld k (tk + 1 : Nat) wt := ⟨_, _, [], hPt, Own.nil _ _ _ _, HO'.out.trans hot fun _ _ h => .inl h, ⟨HS'.out.me, HS'.out.nodes, HS'.out.pat, HS'.out.id, HS'.out.sh, HS'.out.l0⟩, .inr (.inl ⟨Hd'.out, Hyk.out, by have := Hytk.out; omega, rfl, rfl, yl, Ht'.out, rfl, by omega⟩)⟩
        have HQf := Lib.hid hQf
        clear hPt hot hQf
        go_wp2_with fail
        exact HqQ.out _ HQf.out _ _ _ _ _ _ _ _ _ _ _ _ _ _ _ _ _ _ _ _ _ _ _ _ _ _ _ _ _ _ _ _ _ _ _ _ _ _ _ _ _ _ _ _ _ _ _ _ _ _ _ _ _ _ _ _ _ _ _ _ _ _ _ _ _ _ _ _ _ _ _ _ _ _ _ _ _ _ _ _ _ _ _ _ _ _ _ _ _ _ _ _ _ _ _ _ _ _ _ _ _ _ _ _ _ _ _ _ _ _ _ _ _ _ _ _ _ _ _ _ _ _ _ _ _ _ _ _ _ _ _ _ _ _ _ _ _ _ _ _ _ _ _ _ _ _ _ _ _ _ _ _ _ _ _ _ _ _ _ _ _ _ _ _ _ _ _ _ _ _ _ _ _ _ _ _ _
end Go.Proofs.Ytmmgnbdngpkfcaa

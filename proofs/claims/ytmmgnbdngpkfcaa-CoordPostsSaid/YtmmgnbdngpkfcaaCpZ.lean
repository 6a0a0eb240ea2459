
/-
  The law CoordPosts: a round in which nobody is asked, walked.
-/
import Derived.Test.YtmmgnbdngpkfcaaCpA
namespace Go.Proofs.Ytmmgnbdngpkfcaa
open Go.RowKit
set_option linter.unusedVariables false

set_option maxRecDepth 1000000 in
set_option maxHeartbeats 0 in
theorem cpZ (no pa le : Int) (A : Co.An) (am : Option Addr) (cm : Nat) (ms : List Ms) (w : World) (hcm : cm ≤ 2 ^ 63 - 1) (av : Option Addr) (ac : Nat) (hacm : ac ≤ 2 ^ 63 - 1) (n : Nat) (hc : n ≤ cm) (vn : Nat) (hac : vn ≤ ac) (E : Nat) (n7 pp l0 : Int) (bp : 0 ≤ pp ∧ pp ≤ 15) (nn : Int) (bn : 1 ≤ nn ∧ nn ≤ 8) (l1 ld : Int) (bld : 1 ≤ ld ∧ ld ≤ nn)
    (HA : RowKit.Hid (Bts.i64 A.err ∧ Bts.i64 A.at_ ∧ Bts.i64 A.by_ ∧ Bts.i64 A.home ∧ enR A.e)) (Hvs : RowKit.Hid (Sl EInt (fun _ => True) w av A.vals)) (Hs : RowKit.Hid (Sl EMs (fun _ => True) w am ms)) (Hn : RowKit.Hid (n = ms.length)) (Hvn : RowKit.Hid (vn = A.vals.length)) (HE : RowKit.Hid (E = w.heap.size)) (h20 : ¬ 20 < vn)
    (w3 : World) (g lm : Nat) (hgE : E < g) (hlE : E < lm) (hgz : g < w3.heap.size) (hlz : lm < w3.heap.size) (Hh3 : RowKit.Hid (w3.heap[E]? = some (.cells (ansRow A (.slice av vn ac)) 41 (0, 0)))) (HB3 : RowKit.Hid (Below E w w3)) (Hglm : RowKit.Hid (g ≠ lm)) (k : Nat) (hk1 : 1 ≤ k) (hk2 : k ≤ 2) (wr : World) (tk : Nat) (htk : tk ≤ 3) (P : Po) (ov : Value)
    (HP : RowKit.Hid (PoA wr g lm ov P)) (HO : RowKit.Hid (Only (fun j => j = g ∨ j = lm) w3 wr)) (HS : RowKit.Hid (Pst nn pp k P)) (Z : Int) (hZ1 : 6 ≤ Z) (hZ2 : Z ≤ 162) (hZ3 : IntKind.i64.wrap ((nn + 1) * (pp + 3)) = Z) (hZ4 : (nn + 1) * (pp + 3) = Z) (hZ5 : ¬ Z < (tk : Int) + 1)
    (zo : P.opn = true) (zk : k = 1) (ztk : tk = 1) (zov : ov = .slice none 0 0) (zl : 2 ≤ ld) (zt : P.to_ = ld - 1) (za : P.age = pp) (zp : 1 ≤ pp)
    (u10 u14 u16 u17 u18 u19 u20 u21 u22 u23 u24 u33 u49 u50 u58 u59 u60 u61 u62 u63 u64 u65 u66 u67 u68 u69 u70 u71 u72 u73 u74 u75 u76 u77 u78 u79 u80 u81 u82 u83 u84 u85 u86 u87 u88 u89 u90 u91 u92 u93 u94 u95 u96 u97 u98 u99 u100 u101 u102 u103 u104 u105 u106 u107 u108 u109 u110 u111 u112 u113 u114 u115 u116 u117 u118 u119 u120 u121 u122 u123 u124 u125 u126 u127 u128 u129 u130 u131 u132 u133 u134 u135 u136 u137 u138 u139 u140 u141 u142 u143 u144 u145 u146 u147 u148 u149 u150 u151 u152 u153 u154 u155 u156 u157 u158 u159 u160 u161 u162 u163 u164 u165 u166 u167 u168 u169 u170 u171 u172 u173 u174 u175 u176 u177 u178 u179 u180 u181 u182 u183 u184 u185 u186 u187 u188 u189 u190 u191 u192 u193 u194 u195 u196 u197 u198 u199 u200 u201 u202 u203 u204 u205 u206 u207 u208 u209 u210 u211 u212 u213 u214 u215 u216 u217 u218 u219 u220 u221 u222 u223 : Value) (Q : Exit → Act → World → Prop) (hQ : ∀ (w' : World) (v10 v14 v16 v17 v18 v19 v20 v21 v22 v23 v24 v58 v59 v60 v61 v62 v63 v64 v65 v66 v67 v68 v69 v70 v71 v72 v73 v74 v75 v76 v77 v78 v79 v80 v81 v82 v83 v84 v85 v86 v87 v88 v89 v90 v91 v92 v93 v94 v95 v96 v97 v98 v99 v100 v101 v102 v103 v104 v105 v106 v107 v108 v109 v110 v111 v112 v113 v114 v115 v116 v117 v118 v119 v120 v121 v122 v123 v124 v125 v126 v127 v128 v129 v130 v131 v132 v133 v134 v135 v136 v137 v138 v139 v140 v141 v142 v143 v144 v145 v146 v147 v148 v149 v150 v151 v152 v153 v154 v155 v156 v157 v158 v159 v160 v161 v162 v163 v164 v165 v166 v167 v168 v169 v170 v171 v172 v173 v174 v175 v176 v177 v178 v179 v180 v181 v182 v183 v184 v185 v186 v187 v188 v189 v190 v191 v192 v193 v194 v195 v196 v197 v198 v199 v200 v201 v202 v203 v204 v205 v206 v207 v208 v209 v210 v211 v212 v213 v214 v215 v216 v217 v218 v219 v220 v221 v222 v223 : Value), QRel w3 g lm nn pp ld k (tk + 1 : Nat) w' → Q .normal ⟨#[.int .i64 nn, .int .i64 pp, .int .i64 ld, .agg (ansRow A (.slice av vn ac)), .slice am n cm, undef, undef, undef, .pointer (some ⟨E, 0, none⟩), undef, v10, .pointer (some ⟨g, 0, none⟩), .int .i64 k, .int .i64 ((tk : Int) + 1), v14, undef, v16, v17, v18, v19, v20, v21, v22, v23, v24, undef, undef, undef, .bool true, .bool false, .pointer (some ⟨E, 1, none⟩), .slice av vn ac, .int .i64 vn, u33, .int .i64 no, .int .i64 n7, .int .i64 nn, .int .i64 pa, .int .i64 pp, .int .i64 le, .int .i64 l0, .int .i64 nn, .int .i64 l1, .int .i64 ld, .int .i64 nn, .int .i64 pp, .pointer (some ⟨g, 0, none⟩), .int .i64 k, .bool true, u49, u50, .pointer (some ⟨g, 0, none⟩), .agg #[.int .i64 1, .int .i64 0, .int .i64 0, .int .i64 0, .slice none 0 0, .slice none 0 0, .int .i64 0, .bool false, .int .i64 0], .agg #[.int .i64 1, .int .i64 1, .int .i64 0, .int .i64 0, .int .i64 0, .slice none 0 0, .slice none 0 0, .int .i64 0, .bool false, .int .i64 0], .tuple #[], .pointer (some ⟨g, 0, none⟩), .bool true, .bool false, v58, v59, v60, v61, v62, v63, v64, v65, v66, v67, v68, v69, v70, v71, v72, v73, v74, v75, v76, v77, v78, v79, v80, v81, v82, v83, v84, v85, v86, v87, v88, v89, v90, v91, v92, v93, v94, v95, v96, v97, v98, v99, v100, v101, v102, v103, v104, v105, v106, v107, v108, v109, v110, v111, v112, v113, v114, v115, v116, v117, v118, v119, v120, v121, v122, v123, v124, v125, v126, v127, v128, v129, v130, v131, v132, v133, v134, v135, v136, v137, v138, v139, v140, v141, v142, v143, v144, v145, v146, v147, v148, v149, v150, v151, v152, v153, v154, v155, v156, v157, v158, v159, v160, v161, v162, v163, v164, v165, v166, v167, v168, v169, v170, v171, v172, v173, v174, v175, v176, v177, v178, v179, v180, v181, v182, v183, v184, v185, v186, v187, v188, v189, v190, v191, v192, v193, v194, v195, v196, v197, v198, v199, v200, v201, v202, v203, v204, v205, v206, v207, v208, v209, v210, v211, v212, v213, v214, v215, v216, v217, v218, v219, v220, v221, v222, v223, undef, undef, undef, undef, undef, undef, undef, undef, undef, undef, undef, undef, undef, undef, undef, undef, undef, undef, undef, undef, undef, undef, undef, undef, undef, undef, undef, undef, undef, undef, undef, undef, undef, undef, undef, undef], []⟩ w') :
    Code.wp Try.prog cpBody Q ⟨#[.int .i64 nn, .int .i64 pp, .int .i64 ld, .agg (ansRow A (.slice av vn ac)), .slice am n cm, undef, undef, undef, .pointer (some ⟨E, 0, none⟩), undef, u10, .pointer (some ⟨g, 0, none⟩), .int .i64 k, .int .i64 tk, u14, undef, u16, u17, u18, u19, u20, u21, u22, u23, u24, undef, undef, undef, .bool true, .bool false, .pointer (some ⟨E, 1, none⟩), .slice av vn ac, .int .i64 vn, u33, .int .i64 no, .int .i64 n7, .int .i64 nn, .int .i64 pa, .int .i64 pp, .int .i64 le, .int .i64 l0, .int .i64 nn, .int .i64 l1, .int .i64 ld, .int .i64 nn, .int .i64 pp, .pointer (some ⟨g, 0, none⟩), .int .i64 k, .bool true, u49, u50, .pointer (some ⟨g, 0, none⟩), .agg #[.int .i64 1, .int .i64 0, .int .i64 0, .int .i64 0, .slice none 0 0, .slice none 0 0, .int .i64 0, .bool false, .int .i64 0], .agg #[.int .i64 1, .int .i64 1, .int .i64 0, .int .i64 0, .int .i64 0, .slice none 0 0, .slice none 0 0, .int .i64 0, .bool false, .int .i64 0], .tuple #[], .pointer (some ⟨g, 0, none⟩), .bool true, .bool false, u58, u59, u60, u61, u62, u63, u64, u65, u66, u67, u68, u69, u70, u71, u72, u73, u74, u75, u76, u77, u78, u79, u80, u81, u82, u83, u84, u85, u86, u87, u88, u89, u90, u91, u92, u93, u94, u95, u96, u97, u98, u99, u100, u101, u102, u103, u104, u105, u106, u107, u108, u109, u110, u111, u112, u113, u114, u115, u116, u117, u118, u119, u120, u121, u122, u123, u124, u125, u126, u127, u128, u129, u130, u131, u132, u133, u134, u135, u136, u137, u138, u139, u140, u141, u142, u143, u144, u145, u146, u147, u148, u149, u150, u151, u152, u153, u154, u155, u156, u157, u158, u159, u160, u161, u162, u163, u164, u165, u166, u167, u168, u169, u170, u171, u172, u173, u174, u175, u176, u177, u178, u179, u180, u181, u182, u183, u184, u185, u186, u187, u188, u189, u190, u191, u192, u193, u194, u195, u196, u197, u198, u199, u200, u201, u202, u203, u204, u205, u206, u207, u208, u209, u210, u211, u212, u213, u214, u215, u216, u217, u218, u219, u220, u221, u222, u223, undef, undef, undef, undef, undef, undef, undef, undef, undef, undef, undef, undef, undef, undef, undef, undef, undef, undef, undef, undef, undef, undef, undef, undef, undef, undef, undef, undef, undef, undef, undef, undef, undef, undef, undef, undef], []⟩ wr := by
  have hki : (k : Int) ≤ 2 := by omega
  have h20i : ¬ (20 : Int) < (vn : Int) := by omega
  subst zov
  have HqQ := Lib.hid (fun (w' : World) (h : QRel w3 g lm nn pp ld k (tk + 1 : Nat) w') => fun (v10 v14 v16 v17 v18 v19 v20 v21 v22 v23 v24 v58 v59 v60 v61 v62 v63 v64 v65 v66 v67 v68 v69 v70 v71 v72 v73 v74 v75 v76 v77 v78 v79 v80 v81 v82 v83 v84 v85 v86 v87 v88 v89 v90 v91 v92 v93 v94 v95 v96 v97 v98 v99 v100 v101 v102 v103 v104 v105 v106 v107 v108 v109 v110 v111 v112 v113 v114 v115 v116 v117 v118 v119 v120 v121 v122 v123 v124 v125 v126 v127 v128 v129 v130 v131 v132 v133 v134 v135 v136 v137 v138 v139 v140 v141 v142 v143 v144 v145 v146 v147 v148 v149 v150 v151 v152 v153 v154 v155 v156 v157 v158 v159 v160 v161 v162 v163 v164 v165 v166 v167 v168 v169 v170 v171 v172 v173 v174 v175 v176 v177 v178 v179 v180 v181 v182 v183 v184 v185 v186 v187 v188 v189 v190 v191 v192 v193 v194 v195 v196 v197 v198 v199 v200 v201 v202 v203 v204 v205 v206 v207 v208 v209 v210 v211 v212 v213 v214 v215 v216 v217 v218 v219 v220 v221 v222 v223 : Value) => hQ w' v10 v14 v16 v17 v18 v19 v20 v21 v22 v23 v24 v58 v59 v60 v61 v62 v63 v64 v65 v66 v67 v68 v69 v70 v71 v72 v73 v74 v75 v76 v77 v78 v79 v80 v81 v82 v83 v84 v85 v86 v87 v88 v89 v90 v91 v92 v93 v94 v95 v96 v97 v98 v99 v100 v101 v102 v103 v104 v105 v106 v107 v108 v109 v110 v111 v112 v113 v114 v115 v116 v117 v118 v119 v120 v121 v122 v123 v124 v125 v126 v127 v128 v129 v130 v131 v132 v133 v134 v135 v136 v137 v138 v139 v140 v141 v142 v143 v144 v145 v146 v147 v148 v149 v150 v151 v152 v153 v154 v155 v156 v157 v158 v159 v160 v161 v162 v163 v164 v165 v166 v167 v168 v169 v170 v171 v172 v173 v174 v175 v176 v177 v178 v179 v180 v181 v182 v183 v184 v185 v186 v187 v188 v189 v190 v191 v192 v193 v194 v195 v196 v197 v198 v199 v200 v201 v202 v203 v204 v205 v206 v207 v208 v209 v210 v211 v212 v213 v214 v215 v216 v217 v218 v219 v220 v221 v222 v223 h)
  clear hQ
  conv => arg 2; whnf
  have Hzo := Lib.hid zo
  have hT2 := po_Take (a := none) (n := 0) (c := 0) wr HP.out
  have HT2 := Lib.hid hT2
  have Hzk := Lib.hid zk
  have Hztk := Lib.hid ztk
  have Hzt := Lib.hid zt
  have Hza := Lib.hid za
  clear hT2 zo zk ztk zt za
  go_wp2_with fail
  refine (po_Open wr HP.out).mono ?_
  rintro e w5 ⟨rfl, rfl⟩
  rw [Hzo.out]
  go_wp2_with fail
  refine HT2.out.mono ?_
  rintro e w5 ⟨rfl, hP5, ho5⟩
  have hO5 : Only (fun j => j = g ∨ j = lm) w3 w5 := HO.out.trans ho5 fun _ _ h => .inl h
  have hT3 := po_Tick2 w5 hP5 Hzo.out (by rw [Hza.out]; omega) (by rw [Hza.out, HS.out.pat]; omega)
  have hto : P.to_ % P.nodes + 1 = ld := by
    rw [Hzt.out, HS.out.nodes, Int.emod_eq_of_lt (by omega) (by omega)]; omega
  rw [hto] at hT3
  have hl2 : ([⟨P.me, ld, P.sh, P.id⟩] : List Pm) = [⟨77, ld, 1, k⟩] := by rw [HS.out.me, HS.out.sh, HS.out.id]
  have Hl2 := Lib.hid hl2
  clear hl2
  have HT3 := Lib.hid hT3
  have HO5 := Lib.hid hO5
  clear hP5 hO5 ho5 hT3 hto HP HO HT2
  go_wp2_with fail
  go_loopw [64] (fun i wx => i = .int .i64 0 ∧ w5 = wx) (fun _ _ => 0)
  case atStart => exact ⟨rfl, rfl⟩
  case round =>
    obtain ⟨rfl, rfl⟩ := hrel
    go_wp2_with fail
    refine HT3.out.mono ?_
    rintro e wt ⟨ov, rfl, hPt, hOt, hot⟩
    have hQf : QRel w3 g lm nn pp ld k (tk + 1 : Nat) wt := ⟨_, ov, _, hPt, hOt.base HO5.out.size, HO5.out.trans hot fun _ _ h => .inl h, ⟨HS.out.me, HS.out.nodes, HS.out.pat, HS.out.id, HS.out.sh, HS.out.l0⟩, .inr (.inr (.inl ⟨Hzo.out, Hzk.out, by have := Hztk.out; omega, by have := Hztk.out; omega, Hl2.out, rfl, rfl, zl⟩))⟩
    have HQf := Lib.hid hQf
    clear hPt hOt hot hQf
    go_wp2_with fail
    exact HqQ.out _ HQf.out _ _ _ _ _ _ _ _ _ _ _ _ _ _ _ _ _ _ _ _ _ _ _ _ _ _ _ _ _ _ _ _ _ _ _ _ _ _ _ _ _ _ _ _ _ _ _ _ _ _ _ _ _ _ _ _ _ _ _ _ _ _ _ _ _ _ _ _ _ _ _ _ _ _ _ _ _ _ _ _ _ _ _ _ _ _ _ _ _ _ _ _ _ _ _ _ _ _ _ _ _ _ _ _ _ _ _ _ _ _ _ _ _ _ _ _ _ _ _ _ _ _ _ _ _ _ _ _ _ _ _ _ _ _ _ _ _ _ _ _ _ _ _ _ _ _ _ _ _ _ _ _ _ _ _ _ _ _ _ _ _ _ _ _ _ _ _ _ _ _ _ _ _ _ _ _ _
end Go.Proofs.Ytmmgnbdngpkfcaa

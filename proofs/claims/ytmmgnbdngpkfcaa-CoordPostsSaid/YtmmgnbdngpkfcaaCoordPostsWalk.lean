
/-
  The law CoordPosts, walked.
-/
import Derived.Test.YtmmgnbdngpkfcaaCpX
import Derived.Test.YtmmgnbdngpkfcaaCpY
import Derived.Test.YtmmgnbdngpkfcaaCpZ
namespace Go.Proofs.Ytmmgnbdngpkfcaa
open Go.RowKit
set_option linter.unusedVariables false

set_option maxRecDepth 100000 in
set_option maxHeartbeats 0 in
theorem law_CoordPosts (no pa le : Int) (cs : Array Value) (A : Co.An) (am : Option Addr) (cm : Nat) (ms : List Ms) (w : World)
    (h0 : -9223372036854775808 ≤ no ∧ no ≤ 9223372036854775807) (h1 : -9223372036854775808 ≤ pa ∧ pa ≤ 9223372036854775807) (h2 : -9223372036854775808 ≤ le ∧ le ≤ 9223372036854775807) (hA : EAn.rep (fun _ => True) w cs.toList A) (hs : Sl EMs (fun _ => True) w am ms) (hc : ms.length ≤ cm) (hcm : cm ≤ maxLen) :
    Calls Try.prog 10 #[.int .i64 no, .int .i64 pa, .int .i64 le, .agg cs, .slice am ms.length cm] w fun e w' => e = .returned (.bool true) ∧ Below w.heap.size w w' := by
  obtain ⟨av, ac, ecs, hac, hacm, hvs, r1, r2, r3, r4, r5⟩ := hA
  have ecs : cs = ansRow A (.slice av A.vals.length ac) := Array.toList_inj.1 ecs
  subst ecs
  obtain ⟨n, hn⟩ : ∃ n, n = ms.length := ⟨_, rfl⟩
  obtain ⟨vn, hvn⟩ : ∃ n, n = A.vals.length := ⟨_, rfl⟩
  rw [← hn] at hc ⊢
  rw [← hvn] at hac ⊢
  obtain ⟨E, hE⟩ : ∃ E, E = w.heap.size := ⟨_, rfl⟩
  have ea7 : bits .and .i64 no 7 = no % 8 := and_low no 3 (by decide) 7 (by decide)
  have ea15 : bits .and .i64 pa 15 = pa % 16 := and_low pa 4 (by decide) 15 (by decide)
  have ea1023 : bits .and .i64 le 1023 = le % 1024 := and_low le 10 (by decide) 1023 (by decide)
  obtain ⟨n7, hn7⟩ : ∃ x, x = no % 8 := ⟨_, rfl⟩
  obtain ⟨pp, hpp⟩ : ∃ x, x = pa % 16 := ⟨_, rfl⟩
  obtain ⟨l0, hl0⟩ : ∃ x, x = le % 1024 := ⟨_, rfl⟩
  rw [← hn7] at ea7
  rw [← hpp] at ea15
  rw [← hl0] at ea1023
  have b7 : 0 ≤ n7 ∧ n7 ≤ 7 := by omega
  have bp : 0 ≤ pp ∧ pp ≤ 15 := by omega
  have bl0 : 0 ≤ l0 ∧ l0 ≤ 1023 := by omega
  clear hn7 hpp hl0
  have e8 : IntKind.i64.wrap (1 + n7) = 1 + n7 := IntWalk.i64_in _ (by omega)
  obtain ⟨nn, hnn⟩ : ∃ x, x = 1 + n7 := ⟨_, rfl⟩
  have bn : 1 ≤ nn ∧ nn ≤ 8 := by omega
  have etm : l0.tmod nn = l0 % nn := Int.tmod_eq_emod_of_nonneg bl0.1
  obtain ⟨l1, hl1⟩ : ∃ x, x = l0 % nn := ⟨_, rfl⟩
  have bl1 : 0 ≤ l1 ∧ l1 < nn := by rw [hl1]; exact ⟨Int.emod_nonneg _ (by omega), Int.emod_lt_of_pos _ (by omega)⟩
  rw [← hl1] at etm
  have e9 : IntKind.i64.wrap (1 + l1) = 1 + l1 := IntWalk.i64_in _ (by omega)
  obtain ⟨ld, hld⟩ : ∃ x, x = 1 + l1 := ⟨_, rfl⟩
  have bld : 1 ≤ ld ∧ ld ≤ nn := by omega
  obtain ⟨w1, hw1⟩ : ∃ x, x = w.alloc (.cells (ansRow A (.slice av vn ac)) 41) := ⟨_, rfl⟩
  have hb1 : Below w.heap.size w w1 := by rw [hw1]; exact alloc_below _ _
  have hh1 : w1.heap[E]? = some (.cells (ansRow A (.slice av vn ac)) 41 (0, 0)) := by rw [hw1, hE]; exact heap_alloc_new w _
  have hz1 : w1.heap.size = E + 1 := by rw [hw1, hE]; simp
  have y1 : w1.cell? ⟨E, 1, none⟩ = some (.slice av vn ac) := by simp [World.cell?, hh1, ansRow]
  have HA := Lib.hid (⟨r1, r2, r3, r4, r5⟩ : Bts.i64 A.err ∧ Bts.i64 A.at_ ∧ Bts.i64 A.by_ ∧ Bts.i64 A.home ∧ enR A.e)
  have Hvs := Lib.hid hvs
  have Hs := Lib.hid hs
  have Hn := Lib.hid hn
  have Hvn := Lib.hid hvn
  have HE := Lib.hid hE
  have Hw1 := Lib.hid hw1.symm
  have Hh1 := Lib.hid hh1
  have Hz1 := Lib.hid hz1
  have Hb1 := Lib.hid hb1
  have Hnn := Lib.hid hnn
  have Hld := Lib.hid hld
  have Hetm := Lib.hid etm
  unfold maxLen at hcm hacm
  clear hvs r1 r2 r3 r4 r5 hs hn hvn hE hw1 hh1 hz1 hb1 hnn hld hl1 etm
  rw [← HE.out]
  go_enter Try.func10, Try.ntmps10
  go_upto_region 1 with fail
  rw [Hw1.out, ← HE.out]
  clear Hw1
  go_wp2_with fail
  refine (law22_head w1).mono ?_
  rintro e w2 ⟨rfl, hb2⟩
  have hz2 : E + 1 ≤ w2.heap.size := by rw [← Hz1.out]; exact hb2.size
  have hh2 := (hb2.block E (by have := Hz1.out; omega)).trans Hh1.out
  replace y1 := cell_thru y1 hb2
  have hB2 : Below E w w2 := by rw [HE.out]; exact Hb1.out.trans (hb2.mono Hb1.out.size)
  have Hh2 := Lib.hid hh2
  have HB2 := Lib.hid hB2
  clear hh2 hb2 hB2
  by_cases h20 : 20 < vn
  · have h20i : (20 : Int) < (vn : Int) := by omega
    go_wp2_with fail
    go_ret
    exact ⟨rfl, HB2.out⟩
  · have h20i : ¬ (20 : Int) < (vn : Int) := by omega
    have etm := Hetm.out
    rw [Hnn.out] at etm
    go_wp2_with fail
    refine (po_New w2 (1 + n7) pp (by omega) bp).mono ?_
    rintro e w3 ⟨g, lm, rfl, hP3, hg3, hl3, hb3⟩
    rw [← Hnn.out] at hP3 ⊢
    rw [← Hld.out]
    have hR0 : RRel w3 g lm nn pp ld 1 w3 := ⟨_, hP3, Only.refl _ _, rfl, rfl, rfl, rfl, rfl, .inl ⟨rfl, rfl⟩, rfl⟩
    have hgE : E < g := by omega
    have hlE : E < lm := by omega
    have hgz := hP3.lt
    have hlz := hP3.map.lt
    have hglm := hP3.ne
    have hh3 := (hb3.block E (by omega)).trans Hh2.out
    have hB3 : Below E w w3 := HB2.out.trans (hb3.mono (by omega))
    have Hh3 := Lib.hid hh3
    have HB3 := Lib.hid hB3
    have HR0 := Lib.hid hR0
    have Hglm := Lib.hid hglm
    clear hP3 hg3 hl3 hb3 hh3 hB3 hR0 y1 hz2 hglm Hh1 Hh2 HB2 Hb1 etm e8 e9 ea7 ea15 ea1023
    go_wp2_with fail
    go_loopw [12] (fun i wr => ∃ k : Nat, 1 ≤ k ∧ k ≤ 3 ∧ i = .int .i64 k ∧ RowKit.Hid (RRel w3 g lm nn pp ld k wr)) (fun i _ => 3 - (intOf i).toNat)
    case atStart => exact ⟨1, by decide, by decide, rfl, HR0⟩
    case round =>
      obtain ⟨k, hk1, hk3, rfl, hR⟩ := hrel
      clear HR0
      obtain ⟨P, hP, hO, p1, p2, p3, p4, p5, p6, p7⟩ := hR.out
      have HP := Lib.hid hP
      have HO := Lib.hid hO
      have Hp := Lib.hid (⟨p1, p2, p3, p4, p5, p6, p7⟩ : P.me = 77 ∧ P.nodes = nn ∧ P.pat = pp ∧ P.id = k - 1 ∧ P.opn = false ∧ (k = 1 ∧ P.lead 1 = none ∨ P.lead 1 = some ld) ∧ P.lead 0 = none)
      clear hP hO p1 p2 p3 p4 p5 p6 p7 hR
      by_cases hk2 : k ≤ 2
      · have hki : (k : Int) ≤ 2 := by omega
        have hlead : max 1 ((P.lead 1).getD 0) = (if k = 1 ∧ P.lead 1 = none then 1 else ld) := by
          rcases Hp.out.2.2.2.2.2.1 with ⟨q1, q2⟩ | q
          · rw [if_pos ⟨q1, q2⟩, q2]; rfl
          · rw [if_neg (by rw [q]; simp), q]; show max 1 ld = ld; omega
        obtain ⟨t0, ht0⟩ : ∃ t, t = (if k = 1 ∧ P.lead 1 = none then 1 else ld) := ⟨_, rfl⟩
        have bt0 : 1 ≤ t0 ∧ t0 ≤ 8 := by rw [ht0]; split <;> omega
        rw [← ht0] at hlead
        have Ht0 := Lib.hid ht0
        have Hlead := Lib.hid hlead
        clear ht0 hlead
        go_wp2_with fail
        refine (po_Ask 1 1 t0 wr HP.out (by have := Hp.out.2.2.2.1; omega) (by decide) (by decide) Hlead.out (by omega)).mono ?_
        rintro e w4 ⟨ov, rfl, hP4, hO4, ho4⟩
        obtain ⟨oa, oc, rfl, _, _, _, hO4'⟩ := hO4.shape 1 rfl
        have hQ : QRel w3 g lm nn pp ld k 0 w4 := by
          obtain ⟨p1, p2, p3, p4, p5, p6, p7⟩ := Hp.out
          refine ⟨_, _, _, hP4, hO4'.base HO.out.size, HO.out.trans ho4 fun _ _ h => .inl h, ⟨p1, p2, p3, by show P.id + 1 = k; omega, rfl, p7⟩, .inl ⟨rfl, rfl, rfl, ?_, ?_⟩⟩
          · show [Pm.mk P.me t0 1 (P.id + 1)] = [⟨77, t0, 1, k⟩]
            rw [p1, p4, show ((k : Int) - 1 + 1) = k by omega]
          · show k = 1 ∧ t0 = 1 ∨ t0 = ld
            rw [Ht0.out]
            split
            · rename_i h; exact .inl ⟨h.1, rfl⟩
            · exact .inr rfl
        have HP4 := Lib.hid hP4
        have HQ := Lib.hid hQ
        clear hP4 hO4 hO4' ho4 hQ HP HO Hp Ht0 Hlead bt0
        go_wp2_with fail
        refine (po_Open w4 HP4.out).mono ?_
        rintro e w5 ⟨rfl, rfl⟩
        clear HP4
        go_wp2_with fail
        go_loopw [13] (fun i wr => ∃ tk : Nat, tk ≤ 3 ∧ i = .int .i64 tk ∧ RowKit.Hid (QRel w3 g lm nn pp ld k tk wr)) (fun i _ => 4 - (intOf i).toNat)
        case atStart => exact ⟨0, by decide, rfl, HQ⟩
        case round =>
          clear HQ
          obtain ⟨tk, htk, rfl, hQ⟩ := hrel
          obtain ⟨P, ov, l, hP, hOw, hO, hS, hph⟩ := hQ.out
          have HP := Lib.hid hP
          have HOw := Lib.hid hOw
          have HO := Lib.hid hO
          have HS := Lib.hid hS
          have hcs := ph_cases hph bld.1
          clear hP hOw hO hS hph hQ
          obtain ⟨Z, hZ⟩ : ∃ Z, Z = (nn + 1) * (pp + 3) := ⟨_, rfl⟩
          have hZ1 : 6 ≤ Z := by
            have h1 : (2 : Int) * 3 ≤ (nn + 1) * (pp + 3) := Int.mul_le_mul (by omega) (by omega) (by decide) (by omega)
            omega
          have hZ2 : Z ≤ 162 := by
            have h1 : (nn + 1) * (pp + 3) ≤ (9 : Int) * 18 := Int.mul_le_mul (by omega) (by omega) (by omega) (by decide)
            omega
          have hZ3 : IntKind.i64.wrap ((nn + 1) * (pp + 3)) = Z := by rw [← hZ]; exact IntWalk.i64_in _ (by omega)
          have hZ4 : (nn + 1) * (pp + 3) = Z := hZ.symm
          have hZ5 : ¬ Z < (tk : Int) + 1 := by omega
          clear hZ
          rcases hcs with ⟨xo, xk, rfl, xt⟩ | ⟨yo, yk, ytk, rfl, yt, yl, ya⟩ | ⟨zo, zk, ztk, rfl, rfl, zl, zt, za, zp⟩ | ⟨do_, dk, rfl, rfl, dl⟩
          · refine cpX no pa le A am cm ms w hcm av ac hacm n hc vn hac E n7 pp l0 bp nn bn l1 ld bld HA Hvs Hs Hn Hvn HE h20 w3 g lm hgE hlE hgz hlz Hh3 HB3 Hglm k hk1 hk2 wr tk htk P _ HP HO HS Z hZ1 hZ2 hZ3 hZ4 hZ5 xo xk xt HOw _ _ _ _ _ _ _ _ _ _ _ _ _ _ _ _ _ _ _ _ _ _ _ _ _ _ _ _ _ _ _ _ _ _ _ _ _ _ _ _ _ _ _ _ _ _ _ _ _ _ _ _ _ _ _ _ _ _ _ _ _ _ _ _ _ _ _ _ _ _ _ _ _ _ _ _ _ _ _ _ _ _ _ _ _ _ _ _ _ _ _ _ _ _ _ _ _ _ _ _ _ _ _ _ _ _ _ _ _ _ _ _ _ _ _ _ _ _ _ _ _ _ _ _ _ _ _ _ _ _ _ _ _ _ _ _ _ _ _ _ _ _ _ _ _ _ _ _ _ _ _ _ _ _ _ _ _ _ _ _ _ _ _ _ _ _ _ _ _ _ _ _ _ _ _ _ _ _ _ _ _ ?_
            intro w' v10 v14 v16 v17 v18 v19 v20 v21 v22 v23 v24 v58 v59 v60 v61 v62 v63 v64 v65 v66 v67 v68 v69 v70 v71 v72 v73 v74 v75 v76 v77 v78 v79 v80 v81 v82 v83 v84 v85 v86 v87 v88 v89 v90 v91 v92 v93 v94 v95 v96 v97 v98 v99 v100 v101 v102 v103 v104 v105 v106 v107 v108 v109 v110 v111 v112 v113 v114 v115 v116 v117 v118 v119 v120 v121 v122 v123 v124 v125 v126 v127 v128 v129 v130 v131 v132 v133 v134 v135 v136 v137 v138 v139 v140 v141 v142 v143 v144 v145 v146 v147 v148 v149 v150 v151 v152 v153 v154 v155 v156 v157 v158 v159 v160 v161 v162 v163 v164 v165 v166 v167 v168 v169 v170 v171 v172 v173 v174 v175 v176 v177 v178 v179 v180 v181 v182 v183 v184 v185 v186 v187 v188 v189 v190 v191 v192 v193 v194 v195 v196 v197 v198 v199 v200 v201 v202 v203 v204 v205 v206 v207 v208 v209 v210 v211 v212 v213 v214 v215 v216 v217 v218 v219 v220 v221 v222 v223 hQr
            have HQf := Lib.hid hQr
            clear hQr
            refine ⟨⟨v10, .int .i64 ((tk : Int) + 1), v14, v16, v17, v18, v19, v20, v21, v22, v23, v24, v58, v59, v60, v61, v62, v63, v64, v65, v66, v67, v68, v69, v70, v71, v72, v73, v74, v75, v76, v77, v78, v79, v80, v81, v82, v83, v84, v85, v86, v87, v88, v89, v90, v91, v92, v93, v94, v95, v96, v97, v98, v99, v100, v101, v102, v103, v104, v105, v106, v107, v108, v109, v110, v111, v112, v113, v114, v115, v116, v117, v118, v119, v120, v121, v122, v123, v124, v125, v126, v127, v128, v129, v130, v131, v132, v133, v134, v135, v136, v137, v138, v139, v140, v141, v142, v143, v144, v145, v146, v147, v148, v149, v150, v151, v152, v153, v154, v155, v156, v157, v158, v159, v160, v161, v162, v163, v164, v165, v166, v167, v168, v169, v170, v171, v172, v173, v174, v175, v176, v177, v178, v179, v180, v181, v182, v183, v184, v185, v186, v187, v188, v189, v190, v191, v192, v193, v194, v195, v196, v197, v198, v199, v200, v201, v202, v203, v204, v205, v206, v207, v208, v209, v210, v211, v212, v213, v214, v215, v216, v217, v218, v219, v220, v221, v222, v223, ⟨tk + 1, by omega, by go_num, HQf⟩, rfl⟩, ?_⟩
            show 4 - (intOf (.int .i64 ((tk : Int) + 1))).toNat < 4 - (intOf (.int .i64 (tk : Int))).toNat
            simp [intOf]; omega
          · refine cpY no pa le A am cm ms w hcm av ac hacm n hc vn hac E n7 pp l0 bp nn bn l1 ld bld HA Hvs Hs Hn Hvn HE h20 w3 g lm hgE hlE hgz hlz Hh3 HB3 Hglm k hk1 hk2 wr tk htk P _ HP HO HS Z hZ1 hZ2 hZ3 hZ4 hZ5 yo yk ytk yt yl ya HOw _ _ _ _ _ _ _ _ _ _ _ _ _ _ _ _ _ _ _ _ _ _ _ _ _ _ _ _ _ _ _ _ _ _ _ _ _ _ _ _ _ _ _ _ _ _ _ _ _ _ _ _ _ _ _ _ _ _ _ _ _ _ _ _ _ _ _ _ _ _ _ _ _ _ _ _ _ _ _ _ _ _ _ _ _ _ _ _ _ _ _ _ _ _ _ _ _ _ _ _ _ _ _ _ _ _ _ _ _ _ _ _ _ _ _ _ _ _ _ _ _ _ _ _ _ _ _ _ _ _ _ _ _ _ _ _ _ _ _ _ _ _ _ _ _ _ _ _ _ _ _ _ _ _ _ _ _ _ _ _ _ _ _ _ _ _ _ _ _ _ _ _ _ _ _ _ _ _ _ _ _ ?_
            intro w' v10 v14 v16 v17 v18 v19 v20 v21 v22 v23 v24 v58 v59 v60 v61 v62 v63 v64 v65 v66 v67 v68 v69 v70 v71 v72 v73 v74 v75 v76 v77 v78 v79 v80 v81 v82 v83 v84 v85 v86 v87 v88 v89 v90 v91 v92 v93 v94 v95 v96 v97 v98 v99 v100 v101 v102 v103 v104 v105 v106 v107 v108 v109 v110 v111 v112 v113 v114 v115 v116 v117 v118 v119 v120 v121 v122 v123 v124 v125 v126 v127 v128 v129 v130 v131 v132 v133 v134 v135 v136 v137 v138 v139 v140 v141 v142 v143 v144 v145 v146 v147 v148 v149 v150 v151 v152 v153 v154 v155 v156 v157 v158 v159 v160 v161 v162 v163 v164 v165 v166 v167 v168 v169 v170 v171 v172 v173 v174 v175 v176 v177 v178 v179 v180 v181 v182 v183 v184 v185 v186 v187 v188 v189 v190 v191 v192 v193 v194 v195 v196 v197 v198 v199 v200 v201 v202 v203 v204 v205 v206 v207 v208 v209 v210 v211 v212 v213 v214 v215 v216 v217 v218 v219 v220 v221 v222 v223 hQr
            have HQf := Lib.hid hQr
            clear hQr
            refine ⟨⟨v10, .int .i64 ((tk : Int) + 1), v14, v16, v17, v18, v19, v20, v21, v22, v23, v24, v58, v59, v60, v61, v62, v63, v64, v65, v66, v67, v68, v69, v70, v71, v72, v73, v74, v75, v76, v77, v78, v79, v80, v81, v82, v83, v84, v85, v86, v87, v88, v89, v90, v91, v92, v93, v94, v95, v96, v97, v98, v99, v100, v101, v102, v103, v104, v105, v106, v107, v108, v109, v110, v111, v112, v113, v114, v115, v116, v117, v118, v119, v120, v121, v122, v123, v124, v125, v126, v127, v128, v129, v130, v131, v132, v133, v134, v135, v136, v137, v138, v139, v140, v141, v142, v143, v144, v145, v146, v147, v148, v149, v150, v151, v152, v153, v154, v155, v156, v157, v158, v159, v160, v161, v162, v163, v164, v165, v166, v167, v168, v169, v170, v171, v172, v173, v174, v175, v176, v177, v178, v179, v180, v181, v182, v183, v184, v185, v186, v187, v188, v189, v190, v191, v192, v193, v194, v195, v196, v197, v198, v199, v200, v201, v202, v203, v204, v205, v206, v207, v208, v209, v210, v211, v212, v213, v214, v215, v216, v217, v218, v219, v220, v221, v222, v223, ⟨tk + 1, by omega, by go_num, HQf⟩, rfl⟩, ?_⟩
            show 4 - (intOf (.int .i64 ((tk : Int) + 1))).toNat < 4 - (intOf (.int .i64 (tk : Int))).toNat
            simp [intOf]; omega
          · refine cpZ no pa le A am cm ms w hcm av ac hacm n hc vn hac E n7 pp l0 bp nn bn l1 ld bld HA Hvs Hs Hn Hvn HE h20 w3 g lm hgE hlE hgz hlz Hh3 HB3 Hglm k hk1 hk2 wr tk htk P _ HP HO HS Z hZ1 hZ2 hZ3 hZ4 hZ5 zo zk ztk rfl zl zt za zp _ _ _ _ _ _ _ _ _ _ _ _ _ _ _ _ _ _ _ _ _ _ _ _ _ _ _ _ _ _ _ _ _ _ _ _ _ _ _ _ _ _ _ _ _ _ _ _ _ _ _ _ _ _ _ _ _ _ _ _ _ _ _ _ _ _ _ _ _ _ _ _ _ _ _ _ _ _ _ _ _ _ _ _ _ _ _ _ _ _ _ _ _ _ _ _ _ _ _ _ _ _ _ _ _ _ _ _ _ _ _ _ _ _ _ _ _ _ _ _ _ _ _ _ _ _ _ _ _ _ _ _ _ _ _ _ _ _ _ _ _ _ _ _ _ _ _ _ _ _ _ _ _ _ _ _ _ _ _ _ _ _ _ _ _ _ _ _ _ _ _ _ _ _ _ _ _ _ _ _ _ ?_
            intro w' v10 v14 v16 v17 v18 v19 v20 v21 v22 v23 v24 v58 v59 v60 v61 v62 v63 v64 v65 v66 v67 v68 v69 v70 v71 v72 v73 v74 v75 v76 v77 v78 v79 v80 v81 v82 v83 v84 v85 v86 v87 v88 v89 v90 v91 v92 v93 v94 v95 v96 v97 v98 v99 v100 v101 v102 v103 v104 v105 v106 v107 v108 v109 v110 v111 v112 v113 v114 v115 v116 v117 v118 v119 v120 v121 v122 v123 v124 v125 v126 v127 v128 v129 v130 v131 v132 v133 v134 v135 v136 v137 v138 v139 v140 v141 v142 v143 v144 v145 v146 v147 v148 v149 v150 v151 v152 v153 v154 v155 v156 v157 v158 v159 v160 v161 v162 v163 v164 v165 v166 v167 v168 v169 v170 v171 v172 v173 v174 v175 v176 v177 v178 v179 v180 v181 v182 v183 v184 v185 v186 v187 v188 v189 v190 v191 v192 v193 v194 v195 v196 v197 v198 v199 v200 v201 v202 v203 v204 v205 v206 v207 v208 v209 v210 v211 v212 v213 v214 v215 v216 v217 v218 v219 v220 v221 v222 v223 hQr
            have HQf := Lib.hid hQr
            clear hQr
            refine ⟨⟨v10, .int .i64 ((tk : Int) + 1), v14, v16, v17, v18, v19, v20, v21, v22, v23, v24, v58, v59, v60, v61, v62, v63, v64, v65, v66, v67, v68, v69, v70, v71, v72, v73, v74, v75, v76, v77, v78, v79, v80, v81, v82, v83, v84, v85, v86, v87, v88, v89, v90, v91, v92, v93, v94, v95, v96, v97, v98, v99, v100, v101, v102, v103, v104, v105, v106, v107, v108, v109, v110, v111, v112, v113, v114, v115, v116, v117, v118, v119, v120, v121, v122, v123, v124, v125, v126, v127, v128, v129, v130, v131, v132, v133, v134, v135, v136, v137, v138, v139, v140, v141, v142, v143, v144, v145, v146, v147, v148, v149, v150, v151, v152, v153, v154, v155, v156, v157, v158, v159, v160, v161, v162, v163, v164, v165, v166, v167, v168, v169, v170, v171, v172, v173, v174, v175, v176, v177, v178, v179, v180, v181, v182, v183, v184, v185, v186, v187, v188, v189, v190, v191, v192, v193, v194, v195, v196, v197, v198, v199, v200, v201, v202, v203, v204, v205, v206, v207, v208, v209, v210, v211, v212, v213, v214, v215, v216, v217, v218, v219, v220, v221, v222, v223, ⟨tk + 1, by omega, by go_num, HQf⟩, rfl⟩, ?_⟩
            show 4 - (intOf (.int .i64 ((tk : Int) + 1))).toNat < 4 - (intOf (.int .i64 (tk : Int))).toNat
            simp [intOf]; omega
          · have hRn : RRel w3 g lm nn pp ld (k + 1) wr := ⟨P, HP.out, HO.out, HS.out.me, HS.out.nodes, HS.out.pat, by rw [HS.out.id]; omega, do_, .inr dl, HS.out.l0⟩
            have HRn := Lib.hid hRn
            have Hdo := Lib.hid do_
            clear hRn do_ dl
            go_wp2_with fail
            refine (po_Open wr HP.out).mono ?_
            rintro e w5 ⟨rfl, rfl⟩
            rw [Hdo.out]
            go_wp2_with fail
            exact ⟨⟨k + 1, by omega, by omega, by go_num, HRn⟩, by simp [intOf]; omega⟩
      · have hk3' : k = 3 := by omega
        have hkn : ¬ (k : Int) ≤ 2 := by omega
        have hT4 := po_Ask 0 0 1 wr HP.out (by have := Hp.out.2.2.2.1; omega) (by decide) (by decide) (by rw [Hp.out.2.2.2.2.2.2]; rfl) (by decide)
        have HT4 := Lib.hid hT4
        clear hT4
        go_wp2_with fail
        refine HT4.out.mono ?_
        rintro e w4 ⟨ov, rfl, hP4, _, ho4⟩
        have ho04 : Only (fun j => j = g ∨ j = lm) w3 w4 := HO.out.trans ho4 fun _ _ h => .inl h
        have HP4 := Lib.hid hP4
        have Ho04 := Lib.hid ho04
        clear hP4 ho4 ho04 HT4
        go_wp2_with fail
        refine (po_Drop w4 HP4.out).mono ?_
        rintro e w5 ⟨rfl, hP5, ho5⟩
        have ho05 : Only (fun j => j = g ∨ j = lm) w3 w5 := Ho04.out.trans ho5 fun _ _ h => .inl h
        have hP5' : ∃ P5, PoA w5 g lm ov P5 ∧ P5.opn = false := ⟨_, hP5, rfl⟩
        obtain ⟨P5, hP5a, hP5b⟩ := hP5'
        have HP5 := Lib.hid hP5a
        have HP5b := Lib.hid hP5b
        have Ho05 := Lib.hid ho05
        clear hP5 ho5 ho05 hP5a hP5b
        go_wp2_with fail
        refine (po_Ask_nil w5).mono ?_
        rintro e w6 ⟨rfl, hb6⟩
        have Hb6 := Lib.hid hb6
        clear hb6
        go_wp2_with fail
        refine (po_Tick_nil w6).mono ?_
        rintro e w7 ⟨rfl, rfl⟩
        go_wp2_with fail
        refine (po_Drop_nil w6).mono ?_
        rintro e w7 ⟨rfl, rfl⟩
        go_wp2_with fail
        refine (po_In_nil ⟨0, 0, 0, 0, 0, 0, 0, 0, 0, 0, .slice none 0 0, .slice none 0 0⟩ w6).mono ?_
        rintro e w7 ⟨rfl, hb7⟩
        have hzb : (w7.alloc (.cells #[.int .i64 0, .slice none 0 0, .int .i64 0, .int .i64 0, .int .i64 0, .int .i64 0, .bool false, .int .i64 0] 41)).heap[w7.heap.size]? = some (.cells #[.int .i64 0, .slice none 0 0, .int .i64 0, .int .i64 0, .int .i64 0, .int .i64 0, .bool false, .int .i64 0] 41 (0, 0)) := heap_alloc_new w7 _
        obtain ⟨w8, hw8⟩ : ∃ x, x = (w7.alloc (.cells #[.int .i64 0, .slice none 0 0, .int .i64 0, .int .i64 0, .int .i64 0, .int .i64 0, .bool false, .int .i64 0] 41)).setRow w7.heap.size ans0 := ⟨_, rfl⟩
        have hb8 : Below w7.heap.size w7 w8 := by
          rw [hw8]; exact ((Below.refl _ _).alloc (Nat.le_refl _) _).trans (setRow_below _ (by simp) (Nat.le_refl _))
        have hb58 : Below w5.heap.size w5 w8 := (Hb6.out.trans (hb7.mono Hb6.out.size)).trans (hb8.mono (Nat.le_trans Hb6.out.size hb7.size))
        have hP8 := HP5.out.keep hb58
        have hfin : Below E w w8 := (HB3.out.trans (Ho05.out.below (by omega) fun j hj => by omega)).trans (hb58.mono (by have := Ho05.out.size; omega))
        have hs8 : (Try.prog.info? 41).map (·.size) = some ans0.size := size_answer
        have hall8 : ans0.all (·.oneCell') = true := by simp [ans0, Value.oneCell']
        have Hzb := Lib.hid hzb
        have Hw8 := Lib.hid hw8.symm
        have HP8 := Lib.hid hP8
        have Hfin := Lib.hid hfin
        clear hzb hw8 hb8 hb58 hP8 hfin hb7
        go_upto_region 54 with (refine wpList_storeRow rfl _ _ _ rfl w7.heap.size rfl _ _ rfl _ Hzb.out hs8 rfl hall8 ?_)
        rw [Hw8.out]
        clear Hw8 Hzb
        go_wp2_with fail
        refine (po_Open w8 HP8.out).mono ?_
        rintro e w9 ⟨rfl, rfl⟩
        rw [HP5b.out]
        go_wp2_with fail
        refine (po_Open_nil w8).mono ?_
        rintro e w9 ⟨rfl, rfl⟩
        go_wp2_with fail
        refine (po_Take_nil w8).mono ?_
        rintro e w9 ⟨rfl, rfl⟩
        go_wp2_with fail
        go_ret
        exact ⟨rfl, Hfin.out⟩
end Go.Proofs.Ytmmgnbdngpkfcaa


/- THE SEAT's FUNCTIONS AS DEFINITIONS WITHOUT REGISTERS, printed by program; 'eq..' holds each against the abstract machine's code. -/
import Derived.Test.YtfkjeopbkmoajaaDoorG
import Derived.Test.YtfkjeopbkmoajaaDoorSxM
namespace Go.Proofs.YtfkjeopbkmoajaaDoor.Sx
open Go
set_option maxRecDepth 1000000
set_option linter.unusedVariables false
set_option linter.unusedSimpArgs false

/-! ### function 3 -/
theorem w3 : wfK cf3.nt cf3.body = true := by kernel_rfl
def s3 (call : CallT) (nl lo : Nat) (a0 a1 a2 : AV) (M : MM) : Option (AV × MM) :=
  opt (puA call (lk M) 4 [a0]) fun v19 =>
  opt (puA call (lk M) 4 [a1]) fun v21 =>
  opt (puA call (lk M) 4 [a2]) fun v23 =>
  upK M M.nx fun M25 =>
  upK M25 M25.nx fun M27 =>
  upK M27 M27.nx fun M29 =>
  opt (setcA 0 5 (.agg [.str ⟨⟨[]⟩⟩, .d (.sl [] 0), .i 0, .str ⟨⟨[]⟩⟩, .d (.sl [] 0)]) v19) fun v30 =>
  opt (setcA 0 5 (.agg [.str ⟨⟨[]⟩⟩, .d (.sl [] 0), .i 0, .str ⟨⟨[]⟩⟩, .d (.sl [] 0)]) v21) fun v31 =>
  opt (setcA 0 5 (.agg [.str ⟨⟨[]⟩⟩, .d (.sl [] 0), .i 0, .str ⟨⟨[]⟩⟩, .d (.sl [] 0)]) v23) fun v32 =>
  opt (fldA 0 5 true v30) fun v33 =>
  opt (fldA 0 5 true v31) fun v34 =>
  opt (puA call (lk M29) 5 [(.str ⟨⟨[47]⟩⟩), v33, v34]) fun v35 =>
  opt (extA 0 v35) fun v37 =>
  opt (extA 1 v35) fun v38 =>
  opt (extA 2 v35) fun v39 =>
  upK M29 M29.nx fun M41 =>
  opt (setcA 0 5 (.agg [.str ⟨⟨[]⟩⟩, .d (.sl [] 0), .i 0, .str ⟨⟨[]⟩⟩, .d (.sl [] 0)]) v37) fun v42 =>
  opt (fldA 0 5 true v30) fun v45 =>
  opt (fldA 0 5 true v31) fun v46 =>
  opt (puA call (lk M41) 5 [(.str ⟨⟨[37]⟩⟩), v45, v46]) fun v47 =>
  opt (extA 0 v47) fun v49 =>
  opt (extA 1 v47) fun v50 =>
  opt (extA 2 v47) fun v51 =>
  upK M41 M41.nx fun M53 =>
  opt (setcA 0 5 (.agg [.str ⟨⟨[]⟩⟩, .d (.sl [] 0), .i 0, .str ⟨⟨[]⟩⟩, .d (.sl [] 0)]) v49) fun v54 =>
  opt (fldA 0 5 true v42) fun v57 =>
  opt (fldA 0 5 true v31) fun v58 =>
  opt (puA call (lk M53) 5 [(.str ⟨⟨[42]⟩⟩), v57, v58]) fun v59 =>
  opt (extA 0 v59) fun v61 =>
  opt (extA 1 v59) fun v62 =>
  opt (extA 2 v59) fun v63 =>
  upK M53 M53.nx fun M65 =>
  opt (setcA 0 5 (.agg [.str ⟨⟨[]⟩⟩, .d (.sl [] 0), .i 0, .str ⟨⟨[]⟩⟩, .d (.sl [] 0)]) v61) fun v66 =>
  opt (fldA 0 5 true v66) fun v69 =>
  opt (fldA 0 5 true v54) fun v70 =>
  opt (puA call (lk M65) 5 [(.str ⟨⟨[43]⟩⟩), v69, v70]) fun v71 =>
  opt (extA 0 v71) fun v73 =>
  opt (extA 1 v71) fun v74 =>
  opt (extA 2 v71) fun v75 =>
  upK M65 M65.nx fun M77 =>
  opt (setcA 0 5 (.agg [.str ⟨⟨[]⟩⟩, .d (.sl [] 0), .i 0, .str ⟨⟨[]⟩⟩, .d (.sl [] 0)]) v73) fun v78 =>
  opt (binA .eql .none a1 (.i 0)) fun v82 =>
  isB v82 fun c83 => if c83 then (opt (binA .eql .none v39 (.i 0)) fun v85 =>
  opt (gdp v85 true (some v51)) fun v87 =>
  opt (gdp v85 true (binA .eql .none v87 (.i 0))) fun v88 =>
  opt (pickA v85 v88 (.bool false)) fun v89 =>
  opt (gdp v89 true (some v38)) fun v91 =>
  opt (gdp v89 true (binA .eql .none v91 (.i 2))) fun v92 =>
  opt (pickA v89 v92 (.bool false)) fun v93 =>
  opt (gdp v93 true (some v50)) fun v95 =>
  opt (gdp v93 true (binA .eql .none v95 (.i 2))) fun v96 =>
  opt (pickA v93 v96 (.bool false)) fun v97 =>
  opt (gdp v97 true (fldA 0 0 true v42)) fun v99 =>
  opt (gdp v97 true (fldA 0 0 true v42)) fun v100 =>
  opt (gdp v97 true (fldA 0 1 false v42)) fun v101 =>
  opt (gdp v97 true (binA .eql .none v101 (.str ⟨⟨[]⟩⟩))) fun v102 =>
  opt (pickA v97 v102 (.bool false)) fun v103 =>
  opt (gdp v103 true (fldA 0 0 true v54)) fun v105 =>
  opt (gdp v103 true (fldA 0 0 true v54)) fun v106 =>
  opt (gdp v103 true (fldA 0 1 false v54)) fun v107 =>
  opt (gdp v103 true (binA .eql .none v107 (.str ⟨⟨[]⟩⟩))) fun v108 =>
  opt (pickA v103 v108 (.bool false)) fun v109 =>
  opt (gdp v109 true (puA call (lk M77) 6 [])) fun v111 =>
  opt (pickA v109 v111 (.bool false)) fun v112 =>
  some (v112, M77))
  else (opt (binA .neq .none v39 (.i 0)) fun v115 =>
  opt (gdp v115 false (some v51)) fun v117 =>
  opt (gdp v115 false (binA .neq .none v117 (.i 0))) fun v118 =>
  opt (pickA v115 (.bool true) v118) fun v119 =>
  opt (gdp v119 false (some v63)) fun v121 =>
  opt (gdp v119 false (binA .neq .none v121 (.i 0))) fun v122 =>
  opt (pickA v119 (.bool true) v122) fun v123 =>
  opt (gdp v123 false (some v75)) fun v125 =>
  opt (gdp v123 false (binA .neq .none v125 (.i 0))) fun v126 =>
  opt (pickA v123 (.bool true) v126) fun v127 =>
  opt (gdp v127 false (some v38)) fun v129 =>
  opt (gdp v127 false (binA .neq .none v129 (.i 0))) fun v130 =>
  opt (pickA v127 (.bool true) v130) fun v131 =>
  opt (gdp v131 false (some v50)) fun v133 =>
  opt (gdp v131 false (binA .neq .none v133 (.i 0))) fun v134 =>
  opt (pickA v131 (.bool true) v134) fun v135 =>
  opt (gdp v135 false (fldA 0 0 true v78)) fun v137 =>
  opt (gdp v135 false (fldA 2 1 false v78)) fun v138 =>
  opt (gdp v135 false (some a0)) fun v139 =>
  opt (gdp v135 false (binA .neq .none v138 v139)) fun v140 =>
  opt (pickA v135 (.bool true) v140) fun v141 =>
  opt (gdp v141 false (fldA 0 0 true v54)) fun v143 =>
  opt (gdp v141 false (fldA 2 1 false v54)) fun v144 =>
  opt (gdp v141 false (binA .neq .none v144 (.i 0))) fun v145 =>
  opt (gdp v141 false (some v145)) fun v146 =>
  opt (gdp v146 true (fldA 0 0 true v54)) fun v147 =>
  opt (gdp v146 true (fldA 2 1 false v54)) fun v148 =>
  opt (gdp v146 true (binA .lss .none v148 (.i 0))) fun v149 =>
  opt (gdp v146 true (some a0)) fun v150 =>
  opt (gdp v146 true (binA .lss .none v150 (.i 0))) fun v151 =>
  opt (gdp v146 true (binA .neq .bool v149 v151)) fun v152 =>
  opt (gdp v141 false (pickA v146 v152 (.bool false))) fun v153 =>
  opt (pickA v141 (.bool true) v153) fun v154 =>
  isB v154 fun c155 => if c155 then (some ((.bool false), M77))
  else (opt (fldA 0 5 true v30) fun v157 =>
  opt (fldA 0 5 true v31) fun v158 =>
  opt (puA call (lk M77) 5 [(.str ⟨⟨[43]⟩⟩), v157, v158]) fun v159 =>
  opt (extA 0 v159) fun v161 =>
  opt (extA 1 v159) fun v162 =>
  opt (extA 2 v159) fun v163 =>
  upK M77 M77.nx fun M165 =>
  opt (setcA 0 5 (.agg [.str ⟨⟨[]⟩⟩, .d (.sl [] 0), .i 0, .str ⟨⟨[]⟩⟩, .d (.sl [] 0)]) v161) fun v166 =>
  opt (fldA 0 5 true v166) fun v169 =>
  opt (fldA 0 5 true v31) fun v170 =>
  opt (puA call (lk M165) 5 [(.str ⟨⟨[45]⟩⟩), v169, v170]) fun v171 =>
  opt (extA 0 v171) fun v173 =>
  opt (extA 1 v171) fun v174 =>
  opt (extA 2 v171) fun v175 =>
  upK M165 M165.nx fun M177 =>
  opt (setcA 0 5 (.agg [.str ⟨⟨[]⟩⟩, .d (.sl [] 0), .i 0, .str ⟨⟨[]⟩⟩, .d (.sl [] 0)]) v173) fun v178 =>
  opt (fldA 0 5 true v166) fun v181 =>
  opt (fldA 0 5 true v32) fun v182 =>
  opt (puA call (lk M177) 5 [(.str ⟨⟨[42]⟩⟩), v181, v182]) fun v183 =>
  opt (extA 0 v183) fun v185 =>
  opt (extA 1 v183) fun v186 =>
  opt (extA 2 v183) fun v187 =>
  upK M177 M177.nx fun M189 =>
  opt (setcA 0 5 (.agg [.str ⟨⟨[]⟩⟩, .d (.sl [] 0), .i 0, .str ⟨⟨[]⟩⟩, .d (.sl [] 0)]) v185) fun v190 =>
  opt (fldA 0 5 true v30) fun v193 =>
  opt (fldA 0 5 true v32) fun v194 =>
  opt (puA call (lk M189) 5 [(.str ⟨⟨[42]⟩⟩), v193, v194]) fun v195 =>
  opt (extA 0 v195) fun v197 =>
  opt (extA 1 v195) fun v198 =>
  opt (extA 2 v195) fun v199 =>
  upK M189 M189.nx fun M201 =>
  opt (setcA 0 5 (.agg [.str ⟨⟨[]⟩⟩, .d (.sl [] 0), .i 0, .str ⟨⟨[]⟩⟩, .d (.sl [] 0)]) v197) fun v202 =>
  opt (fldA 0 5 true v31) fun v205 =>
  opt (fldA 0 5 true v32) fun v206 =>
  opt (puA call (lk M201) 5 [(.str ⟨⟨[42]⟩⟩), v205, v206]) fun v207 =>
  opt (extA 0 v207) fun v209 =>
  opt (extA 1 v207) fun v210 =>
  opt (extA 2 v207) fun v211 =>
  upK M201 M201.nx fun M213 =>
  opt (setcA 0 5 (.agg [.str ⟨⟨[]⟩⟩, .d (.sl [] 0), .i 0, .str ⟨⟨[]⟩⟩, .d (.sl [] 0)]) v209) fun v214 =>
  opt (fldA 0 5 true v202) fun v217 =>
  opt (fldA 0 5 true v214) fun v218 =>
  opt (puA call (lk M213) 5 [(.str ⟨⟨[43]⟩⟩), v217, v218]) fun v219 =>
  opt (extA 0 v219) fun v221 =>
  opt (extA 1 v219) fun v222 =>
  opt (extA 2 v219) fun v223 =>
  upK M213 M213.nx fun M225 =>
  opt (setcA 0 5 (.agg [.str ⟨⟨[]⟩⟩, .d (.sl [] 0), .i 0, .str ⟨⟨[]⟩⟩, .d (.sl [] 0)]) v221) fun v226 =>
  opt (fldA 0 5 true v30) fun v229 =>
  opt (fldA 0 5 true v31) fun v230 =>
  opt (puA call (lk M225) 5 [(.str ⟨⟨[60]⟩⟩), v229, v230]) fun v231 =>
  opt (extA 0 v231) fun v233 =>
  opt (extA 1 v231) fun v234 =>
  opt (extA 2 v231) fun v235 =>
  upK M225 M225.nx fun M237 =>
  opt (setcA 0 5 (.agg [.str ⟨⟨[]⟩⟩, .d (.sl [] 0), .i 0, .str ⟨⟨[]⟩⟩, .d (.sl [] 0)]) v233) fun v238 =>
  opt (fldA 0 5 true v31) fun v241 =>
  opt (fldA 0 5 true v30) fun v242 =>
  opt (puA call (lk M237) 5 [(.str ⟨⟨[60]⟩⟩), v241, v242]) fun v243 =>
  opt (extA 0 v243) fun v245 =>
  opt (extA 1 v243) fun v246 =>
  opt (extA 2 v243) fun v247 =>
  upK M237 M237.nx fun M249 =>
  opt (setcA 0 5 (.agg [.str ⟨⟨[]⟩⟩, .d (.sl [] 0), .i 0, .str ⟨⟨[]⟩⟩, .d (.sl [] 0)]) v245) fun v250 =>
  opt (fldA 0 5 true v30) fun v253 =>
  opt (fldA 0 5 true v31) fun v254 =>
  opt (puA call (lk M249) 5 [(.str ⟨⟨[61, 61]⟩⟩), v253, v254]) fun v255 =>
  opt (extA 0 v255) fun v257 =>
  opt (extA 1 v255) fun v258 =>
  opt (extA 2 v255) fun v259 =>
  upK M249 M249.nx fun M261 =>
  opt (setcA 0 5 (.agg [.str ⟨⟨[]⟩⟩, .d (.sl [] 0), .i 0, .str ⟨⟨[]⟩⟩, .d (.sl [] 0)]) v257) fun v262 =>
  opt (fldA 0 0 true v178) fun v265 =>
  opt (fldA 2 1 false v178) fun v266 =>
  opt (binA .eql .none v266 a0) fun v268 =>
  opt (gdp v268 true (fldA 0 0 true v190)) fun v270 =>
  opt (gdp v268 true (fldA 2 1 false v190)) fun v271 =>
  opt (gdp v268 true (fldA 0 0 true v226)) fun v272 =>
  opt (gdp v268 true (fldA 2 1 false v226)) fun v273 =>
  opt (gdp v268 true (binA .eql .none v271 v273)) fun v274 =>
  opt (pickA v268 v274 (.bool false)) fun v275 =>
  opt (gdp v275 true (fldA 0 0 true v238)) fun v277 =>
  opt (gdp v275 true (fldA 2 1 false v238)) fun v278 =>
  opt (gdp v275 true (fldA 0 0 true v250)) fun v279 =>
  opt (gdp v275 true (fldA 2 1 false v250)) fun v280 =>
  opt (gdp v275 true (binA .add .none v278 v280)) fun v281 =>
  opt (gdp v275 true (fldA 0 0 true v262)) fun v282 =>
  opt (gdp v275 true (fldA 2 1 false v262)) fun v283 =>
  opt (gdp v275 true (binA .add .none v281 v283)) fun v284 =>
  opt (gdp v275 true (binA .eql .none v284 (.i 1))) fun v285 =>
  opt (pickA v275 v285 (.bool false)) fun v286 =>
  opt (gdp v286 true (puA call (lk M261) 6 [])) fun v288 =>
  opt (pickA v286 v288 (.bool false)) fun v289 =>
  some (v289, M261)))
theorem e3 (call : CallT) (nl lo : Nat) (a0 a1 a2 : AV) (M : MM) : execC call modeF lo nl cf3.body (endK cf3.res) noE (endK cf3.res) (aF [a0, a1, a2]) M = s3 call nl lo a0 a1 a2 M := by
  kernel_rfl
theorem q3 {call : CallT} (hc : Lim G call) (lo : Nat) (a0 a1 a2 : AV) (M : MM) : call 3 [a0, a1, a2] lo M = s3 call G.nl lo a0 a1 a2 M :=
  (hc.flow (cf := cf3) rfl w3 [a0, a1, a2] lo M).trans (e3 call G.nl lo a0 a1 a2 M)

/-! ### function 4 -/
theorem w4 : wfK cf4.nt cf4.body = true := by kernel_rfl
def s4 (call : CallT) (nl lo : Nat) (a0 : AV) (M : MM) : Option (AV × MM) :=
  upK M M.nx fun M3 =>
  opt ((fill [.str ⟨⟨[]⟩⟩, .d (.sl [] 0)] [(0, 1, (.str ⟨⟨[73, 110, 116]⟩⟩))]).map .agg) fun v4 =>
  opt ((fill [.str ⟨⟨[]⟩⟩, .d (.sl [] 0), .i 0, .str ⟨⟨[]⟩⟩, .d (.sl [] 0)] [(0, 2, v4), (2, 1, a0)]).map .agg) fun v6 =>
  opt (setcA 0 5 (.agg [.str ⟨⟨[]⟩⟩, .d (.sl [] 0), .i 0, .str ⟨⟨[]⟩⟩, .d (.sl [] 0)]) v6) fun v7 =>
  opt (locA 5 true v7) fun r => some (r, M3)
theorem e4 (call : CallT) (nl lo : Nat) (a0 : AV) (M : MM) : execC call modeF lo nl cf4.body (endK cf4.res) noE (endK cf4.res) (aF [a0]) M = s4 call nl lo a0 M := by
  kernel_rfl
theorem q4 {call : CallT} (hc : Lim G call) (lo : Nat) (a0 : AV) (M : MM) : call 4 [a0] lo M = s4 call G.nl lo a0 M :=
  (hc.flow (cf := cf4) rfl w4 [a0] lo M).trans (e4 call G.nl lo a0 M)

/-! ### function 5 -/
theorem w5 : wfK cf5.nt cf5.body = true := by kernel_rfl
def s5 (call : CallT) (nl lo : Nat) (a0 a1 a2 : AV) (M : MM) : Option (AV × MM) :=
  opt (aggA a1) fun v4 =>
  upK M M.nx fun M5 =>
  opt (aggA a2) fun v6 =>
  upK M5 M5.nx fun M7 =>
  upK M7 M7.nx fun M9 =>
  opt (binA .eql .none a0 (.str ⟨⟨[61, 61]⟩⟩)) fun v13 =>
  isB v13 fun c14 => if c14 then (opt (fldA 0 5 true v4) fun v15 =>
  opt (fldA 0 5 true v6) fun v16 =>
  opt (puA call (lk M9) 8 [v15, v16]) fun v17 =>
  opt (puA call (lk M9) 7 [v17]) fun v18 =>
  opt (setcA 0 5 (.agg [.str ⟨⟨[]⟩⟩, .d (.sl [] 0), .i 0, .str ⟨⟨[]⟩⟩, .d (.sl [] 0)]) v18) fun v19 =>
  opt (resL [locA 5 true v19, some (.i 0), some (.i 0)]) fun r => some (r, M9))
  else (opt (wslA 6 (fill [.str ⟨⟨[]⟩⟩, .str ⟨⟨[]⟩⟩, .str ⟨⟨[]⟩⟩, .str ⟨⟨[]⟩⟩, .str ⟨⟨[]⟩⟩, .str ⟨⟨[]⟩⟩] [(0, 1, (.str ⟨⟨[43]⟩⟩)), (1, 1, (.str ⟨⟨[45]⟩⟩)), (2, 1, (.str ⟨⟨[42]⟩⟩)), (3, 1, (.str ⟨⟨[47]⟩⟩)), (4, 1, (.str ⟨⟨[37]⟩⟩)), (5, 1, (.str ⟨⟨[60]⟩⟩))])) fun v22 =>
  upK M9 M9.nx fun M23 =>
  opt (puA call (lk M23) 9 [v22, a0]) fun v25 =>
  opt (unA .not v25) fun v26 =>
  opt (gdp v26 false (fldA 0 5 true v4)) fun v28 =>
  opt (gdp v26 false (puA call (lk M23) 10 [v28])) fun v29 =>
  opt (gdp v26 false (unA .not v29)) fun v30 =>
  opt (pickA v26 (.bool true) v30) fun v31 =>
  opt (gdp v31 false (fldA 0 5 true v6)) fun v33 =>
  opt (gdp v31 false (puA call (lk M23) 10 [v33])) fun v34 =>
  opt (gdp v31 false (unA .not v34)) fun v35 =>
  opt (pickA v31 (.bool true) v35) fun v36 =>
  isB v36 fun c37 => if c37 then (opt ((fill [.str ⟨⟨[]⟩⟩, .d (.sl [] 0), .i 0, .str ⟨⟨[]⟩⟩, .d (.sl [] 0)] []).map .agg) fun v38 =>
  opt (setcA 0 5 (.agg [.str ⟨⟨[]⟩⟩, .d (.sl [] 0), .i 0, .str ⟨⟨[]⟩⟩, .d (.sl [] 0)]) v38) fun v39 =>
  opt (resL [locA 5 true v39, some (.i 0), some (.i 19)]) fun r => some (r, M23))
  else (bumpK M23 6 fun M42 =>
  opt (fldA 0 0 true v4) fun v43 =>
  opt (fldA 2 1 false v4) fun v44 =>
  opt (fldA 0 0 true v6) fun v45 =>
  opt (fldA 2 1 false v6) fun v46 =>
  opt (binA .eql .none v46 (.i 0)) fun v50 =>
  opt (gdp v50 true (some a0)) fun v52 =>
  opt (gdp v50 true (binA .eql .none v52 (.str ⟨⟨[47]⟩⟩))) fun v53 =>
  opt (gdp v50 true (some v53)) fun v54 =>
  opt (gdp v54 false (some a0)) fun v55 =>
  opt (gdp v54 false (binA .eql .none v55 (.str ⟨⟨[37]⟩⟩))) fun v56 =>
  opt (gdp v50 true (pickA v54 (.bool true) v56)) fun v57 =>
  opt (pickA v50 v57 (.bool false)) fun v58 =>
  isB v58 fun c59 => if c59 then (opt ((fill [.str ⟨⟨[]⟩⟩, .d (.sl [] 0), .i 0, .str ⟨⟨[]⟩⟩, .d (.sl [] 0)] []).map .agg) fun v60 =>
  opt (setcA 0 5 (.agg [.str ⟨⟨[]⟩⟩, .d (.sl [] 0), .i 0, .str ⟨⟨[]⟩⟩, .d (.sl [] 0)]) v60) fun v61 =>
  opt (resL [locA 5 true v61, some (.i 2), some (.i 0)]) fun r => some (r, M42))
  else (opt (binA .eql .none a0 (.str ⟨⟨[43]⟩⟩)) fun v65 =>
  isB v65 fun c67 => if c67 then (opt (binA .add .none v44 v46) fun v70 =>
  opt (puA call (lk M42) 4 [v70]) fun v71 =>
  opt (setcA 0 5 (.agg [.str ⟨⟨[]⟩⟩, .d (.sl [] 0), .i 0, .str ⟨⟨[]⟩⟩, .d (.sl [] 0)]) v71) fun v72 =>
  opt (resL [locA 5 true v72, some (.i 0), some (.i 0)]) fun r => some (r, M42))
  else (opt (binA .eql .none a0 (.str ⟨⟨[45]⟩⟩)) fun v75 =>
  isB v75 fun c77 => if c77 then (opt (binA .sub .none v44 v46) fun v80 =>
  opt (puA call (lk M42) 4 [v80]) fun v81 =>
  opt (setcA 0 5 (.agg [.str ⟨⟨[]⟩⟩, .d (.sl [] 0), .i 0, .str ⟨⟨[]⟩⟩, .d (.sl [] 0)]) v81) fun v82 =>
  opt (resL [locA 5 true v82, some (.i 0), some (.i 0)]) fun r => some (r, M42))
  else (opt (binA .eql .none a0 (.str ⟨⟨[42]⟩⟩)) fun v85 =>
  isB v85 fun c87 => if c87 then (opt (binA .mul .none v44 v46) fun v90 =>
  opt (puA call (lk M42) 4 [v90]) fun v91 =>
  opt (setcA 0 5 (.agg [.str ⟨⟨[]⟩⟩, .d (.sl [] 0), .i 0, .str ⟨⟨[]⟩⟩, .d (.sl [] 0)]) v91) fun v92 =>
  opt (resL [locA 5 true v92, some (.i 0), some (.i 0)]) fun r => some (r, M42))
  else (opt (binA .eql .none a0 (.str ⟨⟨[47]⟩⟩)) fun v95 =>
  isB v95 fun c97 => if c97 then (opt (binA .quo .none v44 v46) fun v100 =>
  opt (puA call (lk M42) 4 [v100]) fun v101 =>
  opt (setcA 0 5 (.agg [.str ⟨⟨[]⟩⟩, .d (.sl [] 0), .i 0, .str ⟨⟨[]⟩⟩, .d (.sl [] 0)]) v101) fun v102 =>
  opt (resL [locA 5 true v102, some (.i 0), some (.i 0)]) fun r => some (r, M42))
  else (opt (binA .eql .none a0 (.str ⟨⟨[37]⟩⟩)) fun v105 =>
  isB v105 fun c107 => if c107 then (opt (binA .rem .none v44 v46) fun v110 =>
  opt (puA call (lk M42) 4 [v110]) fun v111 =>
  opt (setcA 0 5 (.agg [.str ⟨⟨[]⟩⟩, .d (.sl [] 0), .i 0, .str ⟨⟨[]⟩⟩, .d (.sl [] 0)]) v111) fun v112 =>
  opt (resL [locA 5 true v112, some (.i 0), some (.i 0)]) fun r => some (r, M42))
  else (opt (binA .lss .none v44 v46) fun v117 =>
  opt (puA call (lk M42) 7 [v117]) fun v118 =>
  opt (setcA 0 5 (.agg [.str ⟨⟨[]⟩⟩, .d (.sl [] 0), .i 0, .str ⟨⟨[]⟩⟩, .d (.sl [] 0)]) v118) fun v119 =>
  opt (resL [locA 5 true v119, some (.i 0), some (.i 0)]) fun r => some (r, M42)))))))))
theorem e5 (call : CallT) (nl lo : Nat) (a0 a1 a2 : AV) (M : MM) : execC call modeF lo nl cf5.body (endK cf5.res) noE (endK cf5.res) (aF [a0, a1, a2]) M = s5 call nl lo a0 a1 a2 M := by
  kernel_rfl
theorem q5 {call : CallT} (hc : Lim G call) (lo : Nat) (a0 a1 a2 : AV) (M : MM) : call 5 [a0, a1, a2] lo M = s5 call G.nl lo a0 a1 a2 M :=
  (hc.flow (cf := cf5) rfl w5 [a0, a1, a2] lo M).trans (e5 call G.nl lo a0 a1 a2 M)

/-! ### function 6 -/
theorem w6 : wfK cf6.nt cf6.body = true := by kernel_rfl
def s6 (call : CallT) (nl lo : Nat) (M : MM) : Option (AV × MM) :=
  opt ((fill [.str ⟨⟨[]⟩⟩, .d (.sl [] 0)] [(0, 1, (.str ⟨⟨[66, 121, 116, 101]⟩⟩))]).map .agg) fun v4 =>
  upK M M.nx fun M6 =>
  opt (setcA 0 2 (.agg [.str ⟨⟨[]⟩⟩, .d (.sl [] 0)]) v4) fun v7 =>
  bumpK M6 9 fun M8 =>
  opt (fldA 0 2 true v7) fun v9 =>
  opt (wslA 1 (fill [.str ⟨⟨[]⟩⟩, .d (.sl [] 0)] [(0, 2, v9)])) fun v10 =>
  upK M8 (M6.nx + 1) fun M11 =>
  opt ((fill [.str ⟨⟨[]⟩⟩, .d (.sl [] 0)] [(0, 1, (.str ⟨⟨[65, 114, 114, 97, 121]⟩⟩)), (1, 1, v10)]).map .agg) fun v12 =>
  opt (puA call (look M11.mem (.mk M6.nx 9 0 true)) 11 [(.i 1)]) fun v13 =>
  opt (puA call (look M11.mem (.mk M6.nx 9 8 true)) 11 [(.i 258)]) fun v14 =>
  opt (wslA 2 (fill [.str ⟨⟨[]⟩⟩, .d (.sl [] 0), .i 0, .str ⟨⟨[]⟩⟩, .d (.sl [] 0), .str ⟨⟨[]⟩⟩, .d (.sl [] 0), .i 0, .str ⟨⟨[]⟩⟩, .d (.sl [] 0)] [(0, 5, v13), (5, 5, v14)])) fun v15 =>
  upK M11 (M6.nx + 5) fun M16 =>
  opt ((fill [.str ⟨⟨[]⟩⟩, .d (.sl [] 0), .i 0, .str ⟨⟨[]⟩⟩, .d (.sl [] 0)] [(0, 2, v12), (4, 1, v15)]).map .agg) fun v17 =>
  bnd (istep call modeF true lo (.mk M6.nx 9 0 true) (M6.nx + 7) (.new 27 [.str ⟨⟨[]⟩⟩, .d (.sl [] 0), .i 0, .str ⟨⟨[]⟩⟩, .d (.sl [] 0)]) [] M16) fun v18 M19 =>
  bnd (istep call modeF true lo (.mk M6.nx 9 255 true) (M6.nx + 8) (.st 5 (.k v18) (.k v17)) [] M19) fun v20 M21 =>
  opt (puA call (lk M21) 4 [(.i (-7))]) fun v22 =>
  opt (puA call (lk M21) 4 [(.i 2)]) fun v23 =>
  opt (puA call (lk M21) 5 [(.str ⟨⟨[47]⟩⟩), v22, v23]) fun v24 =>
  opt (extA 0 v24) fun v26 =>
  opt (extA 1 v24) fun v27 =>
  opt (extA 2 v24) fun v28 =>
  upK M21 M21.nx fun M30 =>
  opt (setcA 0 5 (.agg [.str ⟨⟨[]⟩⟩, .d (.sl [] 0), .i 0, .str ⟨⟨[]⟩⟩, .d (.sl [] 0)]) v26) fun v31 =>
  opt (ldnA (lk M30) 5 v18) fun v34 =>
  opt (puA call (lk M30) 12 [v34]) fun v35 =>
  opt (binA .eql .none v35 (.str ⟨⟨[97, 114, 114, 97, 121, 91, 66, 121, 116, 101, 93, 40, 98, 121, 116, 101, 40, 49, 41, 44, 32, 98, 121, 116, 101, 40, 50, 41, 41]⟩⟩)) fun v36 =>
  opt (gdp v36 true (ldnA (lk M30) 5 v18)) fun v38 =>
  opt (gdp v36 true (puA call (lk M30) 13 [v38])) fun v39 =>
  opt (gdp v36 true (binA .eql .none v39 (.i 3))) fun v40 =>
  opt (pickA v36 v40 (.bool false)) fun v41 =>
  opt (gdp v41 true (some v28)) fun v43 =>
  opt (gdp v41 true (binA .eql .none v43 (.i 0))) fun v44 =>
  opt (pickA v41 v44 (.bool false)) fun v45 =>
  opt (gdp v45 true (some v27)) fun v47 =>
  opt (gdp v45 true (binA .eql .none v47 (.i 0))) fun v48 =>
  opt (pickA v45 v48 (.bool false)) fun v49 =>
  opt (gdp v49 true (fldA 0 0 true v31)) fun v51 =>
  opt (gdp v49 true (fldA 2 1 false v31)) fun v52 =>
  opt (gdp v49 true (binA .eql .none v52 (.i (-3)))) fun v53 =>
  opt (pickA v49 v53 (.bool false)) fun v54 =>
  some (v54, M30)
theorem e6 (call : CallT) (nl lo : Nat) (M : MM) : execC call modeF lo nl cf6.body (endK cf6.res) noE (endK cf6.res) (aF []) M = s6 call nl lo M := by
  kernel_rfl
theorem q6 {call : CallT} (hc : Lim G call) (lo : Nat) (M : MM) : call 6 [] lo M = s6 call G.nl lo M :=
  (hc.flow (cf := cf6) rfl w6 [] lo M).trans (e6 call G.nl lo M)

/-! ### function 7 -/
theorem w7 : wfK cf7.nt cf7.body = true := by kernel_rfl
def k7_3 (call : CallT) (nl lo : Nat) : Rg → MM → Option (AV × MM) := (execC call modeF lo nl p7_8 (endK cf7.res) noE (endK cf7.res))
@[reducible] def b7_3 (call : CallT) (nl lo : Nat) (x2 x3 : AV) (M : MM) : Option (AV × MM) :=
  opt (fldA 0 5 true x3) fun v1 =>
  opt (setcA 0 5 x2 v1) fun v2 =>
  opt (locA 5 true v2) fun r => some (r, M)
theorem t7_3 (call : CallT) (nl lo : Nat) (ρ : Rg) (M : MM) : k7_3 call nl lo ρ M = b7_3 call nl lo (ρ 2) (ρ 3) M := by
  kernel_rfl
def k7_4 (call : CallT) (nl lo : Nat) : Rg → MM → Option (AV × MM) := (execC call modeF lo nl p7_6 (k7_3 call nl lo) noE (endK cf7.res))
@[reducible] def b7_4 (call : CallT) (nl lo : Nat) (x0 x2 x3 : AV) (M : MM) : Option (AV × MM) :=
  isB x0 fun c4 => if c4 then (opt (fldA 0 0 true x3) fun v5 =>
  opt (setcA 2 1 x3 (.i 1)) fun v6 =>
  b7_3 call nl lo x2 v6 M)
  else (b7_3 call nl lo x2 x3 M)
theorem t7_4 (call : CallT) (nl lo : Nat) (ρ : Rg) (M : MM) : k7_4 call nl lo ρ M = b7_4 call nl lo (ρ 0) (ρ 2) (ρ 3) M := by
  have h : ∀ (z0 : Rg → MM → Option (AV × MM)), (execC call modeF lo nl p7_6 z0 noE (endK cf7.res)) ρ M = (isB (ρ 0) fun c4 => if c4 then (opt (fldA 0 0 true (ρ 3)) fun v5 =>
  opt (setcA 2 1 (ρ 3) (.i 1)) fun v6 =>
  z0 (sF (sF (sF ρ 6 (ρ 0)) 7 v5) 3 v6) M)
  else (z0 (sF ρ 6 (ρ 0)) M)) := by intros; kernel_rfl
  refine (h (k7_3 call nl lo)).trans ?_
  unfold b7_4; simp only [(t7_3 call nl lo)] <;> (show _ = _; kernel_rfl)
def k7_2 (call : CallT) (nl lo : Nat) : Rg → MM → Option (AV × MM) := (execC call modeF lo nl p7_9 (endK cf7.res) noE (endK cf7.res))
@[reducible] def b7_2 (call : CallT) (nl lo : Nat) (x0 x2 x3 : AV) (M : MM) : Option (AV × MM) :=
  b7_4 call nl lo x0 x2 x3 M
theorem t7_2 (call : CallT) (nl lo : Nat) (ρ : Rg) (M : MM) : k7_2 call nl lo ρ M = b7_2 call nl lo (ρ 0) (ρ 2) (ρ 3) M := by
  have h : k7_2 call nl lo ρ M = (k7_4 call nl lo ρ M) := execC_seq call modeF lo nl p7_6 p7_8 (endK cf7.res) noE (endK cf7.res) ρ M
  rw [h]
  unfold b7_2; simp only [(t7_4 call nl lo)] <;> (show _ = _; kernel_rfl)
def k7_5 (call : CallT) (nl lo : Nat) : Rg → MM → Option (AV × MM) := (execC call modeF lo nl p7_2 (k7_2 call nl lo) noE (endK cf7.res))
@[reducible] def b7_5 (call : CallT) (nl lo : Nat) (x0 x2 : AV) (M : MM) : Option (AV × MM) :=
  opt ((fill [.str ⟨⟨[]⟩⟩, .d (.sl [] 0)] [(0, 1, (.str ⟨⟨[66, 111, 111, 108]⟩⟩))]).map .agg) fun v1 =>
  opt ((fill [.str ⟨⟨[]⟩⟩, .d (.sl [] 0), .i 0, .str ⟨⟨[]⟩⟩, .d (.sl [] 0)] [(0, 2, v1)]).map .agg) fun v2 =>
  upK M M.nx fun M4 =>
  opt (setcA 0 5 (.agg [.str ⟨⟨[]⟩⟩, .d (.sl [] 0), .i 0, .str ⟨⟨[]⟩⟩, .d (.sl [] 0)]) v2) fun v5 =>
  b7_2 call nl lo x0 x2 v5 M4
theorem t7_5 (call : CallT) (nl lo : Nat) (ρ : Rg) (M : MM) : k7_5 call nl lo ρ M = b7_5 call nl lo (ρ 0) (ρ 2) M := by
  have h : ∀ (z0 : Rg → MM → Option (AV × MM)), (execC call modeF lo nl p7_2 z0 noE (endK cf7.res)) ρ M = (opt ((fill [.str ⟨⟨[]⟩⟩, .d (.sl [] 0)] [(0, 1, (.str ⟨⟨[66, 111, 111, 108]⟩⟩))]).map .agg) fun v1 =>
  opt ((fill [.str ⟨⟨[]⟩⟩, .d (.sl [] 0), .i 0, .str ⟨⟨[]⟩⟩, .d (.sl [] 0)] [(0, 2, v1)]).map .agg) fun v2 =>
  upK M M.nx fun M4 =>
  opt (setcA 0 5 (.agg [.str ⟨⟨[]⟩⟩, .d (.sl [] 0), .i 0, .str ⟨⟨[]⟩⟩, .d (.sl [] 0)]) v2) fun v5 =>
  z0 (sF (sF (sF (sF ρ 4 v1) 5 v2) 3 (.agg [.str ⟨⟨[]⟩⟩, .d (.sl [] 0), .i 0, .str ⟨⟨[]⟩⟩, .d (.sl [] 0)])) 3 v5) M4) := by intros; kernel_rfl
  refine (h (k7_2 call nl lo)).trans ?_
  unfold b7_5; simp only [(t7_2 call nl lo)] <;> (show _ = _; kernel_rfl)
def k7_1 (call : CallT) (nl lo : Nat) : Rg → MM → Option (AV × MM) := (execC call modeF lo nl p7_10 (endK cf7.res) noE (endK cf7.res))
@[reducible] def b7_1 (call : CallT) (nl lo : Nat) (x0 x2 : AV) (M : MM) : Option (AV × MM) :=
  b7_5 call nl lo x0 x2 M
theorem t7_1 (call : CallT) (nl lo : Nat) (ρ : Rg) (M : MM) : k7_1 call nl lo ρ M = b7_1 call nl lo (ρ 0) (ρ 2) M := by
  have h : k7_1 call nl lo ρ M = (k7_5 call nl lo ρ M) := execC_seq call modeF lo nl p7_2 p7_9 (endK cf7.res) noE (endK cf7.res) ρ M
  rw [h]
  unfold b7_1; simp only [(t7_5 call nl lo)] <;> (show _ = _; kernel_rfl)
def k7_6 (call : CallT) (nl lo : Nat) : Rg → MM → Option (AV × MM) := (execC call modeF lo nl p7_1 (k7_1 call nl lo) noE (endK cf7.res))
@[reducible] def b7_6 (call : CallT) (nl lo : Nat) (x0 : AV) (M : MM) : Option (AV × MM) :=
  upK M M.nx fun M2 =>
  b7_1 call nl lo x0 (.agg [.str ⟨⟨[]⟩⟩, .d (.sl [] 0), .i 0, .str ⟨⟨[]⟩⟩, .d (.sl [] 0)]) M2
theorem t7_6 (call : CallT) (nl lo : Nat) (ρ : Rg) (M : MM) : k7_6 call nl lo ρ M = b7_6 call nl lo (ρ 0) M := by
  have h : ∀ (z0 : Rg → MM → Option (AV × MM)), (execC call modeF lo nl p7_1 z0 noE (endK cf7.res)) ρ M = (upK M M.nx fun M2 =>
  z0 (sF ρ 2 (.agg [.str ⟨⟨[]⟩⟩, .d (.sl [] 0), .i 0, .str ⟨⟨[]⟩⟩, .d (.sl [] 0)])) M2) := by intros; kernel_rfl
  refine (h (k7_1 call nl lo)).trans ?_
  unfold b7_6; simp only [(t7_1 call nl lo)] <;> (show _ = _; kernel_rfl)
def k7_0 (call : CallT) (nl lo : Nat) : Rg → MM → Option (AV × MM) := (execC call modeF lo nl p7_11 (endK cf7.res) noE (endK cf7.res))
@[reducible] def b7_0 (call : CallT) (nl lo : Nat) (x0 : AV) (M : MM) : Option (AV × MM) :=
  b7_6 call nl lo x0 M
theorem t7_0 (call : CallT) (nl lo : Nat) (ρ : Rg) (M : MM) : k7_0 call nl lo ρ M = b7_0 call nl lo (ρ 0) M := by
  have h : k7_0 call nl lo ρ M = (k7_6 call nl lo ρ M) := execC_seq call modeF lo nl p7_1 p7_10 (endK cf7.res) noE (endK cf7.res) ρ M
  rw [h]
  unfold b7_0; simp only [(t7_6 call nl lo)] <;> (show _ = _; kernel_rfl)
def k7_7 (call : CallT) (nl lo : Nat) : Rg → MM → Option (AV × MM) := (execC call modeF lo nl p7_0 (k7_0 call nl lo) noE (endK cf7.res))
@[reducible] def b7_7 (call : CallT) (nl lo : Nat) (x0 : AV) (M : MM) : Option (AV × MM) :=
  b7_0 call nl lo x0 M
theorem t7_7 (call : CallT) (nl lo : Nat) (ρ : Rg) (M : MM) : k7_7 call nl lo ρ M = b7_7 call nl lo (ρ 0) M := by
  have h : ∀ (z0 : Rg → MM → Option (AV × MM)), (execC call modeF lo nl p7_0 z0 noE (endK cf7.res)) ρ M = (z0 (sF (sF ρ 2 (.tup [])) 3 (.tup [])) M) := by intros; kernel_rfl
  refine (h (k7_0 call nl lo)).trans ?_
  unfold b7_7; simp only [(t7_0 call nl lo)] <;> (show _ = _; kernel_rfl)
def s7 (call : CallT) (nl lo : Nat) (a0 : AV) (M : MM) : Option (AV × MM) :=
  b7_7 call nl lo a0 M
theorem e7 (call : CallT) (nl lo : Nat) (a0 : AV) (M : MM) : execC call modeF lo nl cf7.body (endK cf7.res) noE (endK cf7.res) (aF [a0]) M = s7 call nl lo a0 M := by
  have h : execC call modeF lo nl cf7.body (endK cf7.res) noE (endK cf7.res) (aF [a0]) M = (k7_7 call nl lo (aF [a0]) M) := execC_seq call modeF lo nl p7_0 p7_11 (endK cf7.res) noE (endK cf7.res) (aF [a0]) M
  refine h.trans ?_
  unfold s7; simp only [(t7_7 call nl lo)] <;> (show _ = _; kernel_rfl)
theorem q7 {call : CallT} (hc : Lim G call) (lo : Nat) (a0 : AV) (M : MM) : call 7 [a0] lo M = s7 call G.nl lo a0 M :=
  (hc.flow (cf := cf7) rfl w7 [a0] lo M).trans (e7 call G.nl lo a0 M)

/-! ### function 8 -/
theorem w8 : wfK cf8.nt cf8.body = true := by kernel_rfl
def s8 (call : CallT) (nl lo : Nat) (a0 a1 : AV) (M : MM) : Option (AV × MM) :=
  opt (aggA a0) fun v3 =>
  upK M M.nx fun M4 =>
  opt (aggA a1) fun v5 =>
  upK M4 M4.nx fun M6 =>
  opt (fldA 0 0 true v3) fun v8 =>
  opt (fldA 2 1 false v3) fun v9 =>
  opt (fldA 0 0 true v5) fun v10 =>
  opt (fldA 2 1 false v5) fun v11 =>
  opt (binA .eql .none v9 v11) fun v12 =>
  opt (gdp v12 true (fldA 0 0 true v3)) fun v14 =>
  opt (gdp v12 true (fldA 3 1 false v3)) fun v15 =>
  opt (gdp v12 true (fldA 0 0 true v5)) fun v16 =>
  opt (gdp v12 true (fldA 3 1 false v5)) fun v17 =>
  opt (gdp v12 true (binA .eql .none v15 v17)) fun v18 =>
  opt (pickA v12 v18 (.bool false)) fun v19 =>
  opt (gdp v19 true (fldA 0 0 true v3)) fun v21 =>
  opt (gdp v19 true (fldA 0 2 true v3)) fun v22 =>
  opt (gdp v19 true (fldA 0 0 true v5)) fun v23 =>
  opt (gdp v19 true (fldA 0 2 true v5)) fun v24 =>
  opt (gdp v19 true (puA call (lk M6) 14 [v22, v24])) fun v25 =>
  opt (pickA v19 v25 (.bool false)) fun v26 =>
  opt (gdp v26 true (fldA 0 0 true v3)) fun v28 =>
  opt (gdp v26 true (fldA 4 1 false v3)) fun v29 =>
  opt (gdp v26 true (fldA 0 0 true v5)) fun v30 =>
  opt (gdp v26 true (fldA 4 1 false v5)) fun v31 =>
  bnd (gd v26 true M6 (call 15 [v29, v31, (.fn 8 [] [])] lo M6)) fun v32 M33 =>
  opt (pickA v26 v32 (.bool false)) fun v34 =>
  some (v34, M33)
theorem e8 (call : CallT) (nl lo : Nat) (a0 a1 : AV) (M : MM) : execC call modeF lo nl cf8.body (endK cf8.res) noE (endK cf8.res) (aF [a0, a1]) M = s8 call nl lo a0 a1 M := by
  kernel_rfl
theorem q8 {call : CallT} (hc : Lim G call) (lo : Nat) (a0 a1 : AV) (M : MM) : call 8 [a0, a1] lo M = s8 call G.nl lo a0 a1 M :=
  (hc.flow (cf := cf8) rfl w8 [a0, a1] lo M).trans (e8 call G.nl lo a0 a1 M)

/-! ### function 9 -/
theorem w9 : wfK cf9.nt cf9.body = true := by kernel_rfl
def s9 (call : CallT) (nl lo : Nat) (a0 a1 : AV) (M : MM) : Option (AV × MM) :=
  opt (puA call (lk M) 16 [a0, a1]) fun v4 =>
  opt (binA .geq .none v4 (.i 0)) fun v5 =>
  some (v5, M)
theorem e9 (call : CallT) (nl lo : Nat) (a0 a1 : AV) (M : MM) : execC call modeF lo nl cf9.body (endK cf9.res) noE (endK cf9.res) (aF [a0, a1]) M = s9 call nl lo a0 a1 M := by
  kernel_rfl
theorem q9 {call : CallT} (hc : Lim G call) (lo : Nat) (a0 a1 : AV) (M : MM) : call 9 [a0, a1] lo M = s9 call G.nl lo a0 a1 M :=
  (hc.flow (cf := cf9) rfl w9 [a0, a1] lo M).trans (e9 call G.nl lo a0 a1 M)

/-! ### function 10 -/
theorem w10 : wfK cf10.nt cf10.body = true := by kernel_rfl
def s10 (call : CallT) (nl lo : Nat) (a0 : AV) (M : MM) : Option (AV × MM) :=
  opt (aggA a0) fun v2 =>
  upK M M.nx fun M3 =>
  opt (fldA 0 0 true v2) fun v5 =>
  opt (fldA 0 0 true v2) fun v6 =>
  opt (fldA 0 1 false v2) fun v7 =>
  opt (binA .eql .none v7 (.str ⟨⟨[73, 110, 116]⟩⟩)) fun v8 =>
  opt (gdp v8 true (fldA 0 0 true v2)) fun v10 =>
  opt (gdp v8 true (fldA 0 0 true v2)) fun v11 =>
  opt (gdp v8 true (fldA 1 1 false v2)) fun v12 =>
  opt (gdp v8 true (lenA v12)) fun v13 =>
  opt (gdp v8 true (binA .eql .none v13 (.i 0))) fun v14 =>
  opt (pickA v8 v14 (.bool false)) fun v15 =>
  opt (gdp v15 true (fldA 0 0 true v2)) fun v17 =>
  opt (gdp v15 true (fldA 3 1 false v2)) fun v18 =>
  opt (gdp v15 true (binA .eql .none v18 (.str ⟨⟨[]⟩⟩))) fun v19 =>
  opt (pickA v15 v19 (.bool false)) fun v20 =>
  opt (gdp v20 true (fldA 0 0 true v2)) fun v22 =>
  opt (gdp v20 true (fldA 4 1 false v2)) fun v23 =>
  opt (gdp v20 true (lenA v23)) fun v24 =>
  opt (gdp v20 true (binA .eql .none v24 (.i 0))) fun v25 =>
  opt (pickA v20 v25 (.bool false)) fun v26 =>
  some (v26, M3)
theorem e10 (call : CallT) (nl lo : Nat) (a0 : AV) (M : MM) : execC call modeF lo nl cf10.body (endK cf10.res) noE (endK cf10.res) (aF [a0]) M = s10 call nl lo a0 M := by
  kernel_rfl
theorem q10 {call : CallT} (hc : Lim G call) (lo : Nat) (a0 : AV) (M : MM) : call 10 [a0] lo M = s10 call G.nl lo a0 M :=
  (hc.flow (cf := cf10) rfl w10 [a0] lo M).trans (e10 call G.nl lo a0 M)

/-! ### function 14 -/
theorem w14 : wfK cf14.nt cf14.body = true := by kernel_rfl
def s14 (call : CallT) (nl lo : Nat) (a0 a1 : AV) (M : MM) : Option (AV × MM) :=
  opt (aggA a0) fun v3 =>
  upK M M.nx fun M4 =>
  opt (aggA a1) fun v5 =>
  upK M4 M4.nx fun M6 =>
  opt (fldA 0 0 true v3) fun v8 =>
  opt (fldA 0 1 false v3) fun v9 =>
  opt (fldA 0 0 true v5) fun v10 =>
  opt (fldA 0 1 false v5) fun v11 =>
  opt (binA .eql .none v9 v11) fun v12 =>
  opt (gdp v12 true (fldA 0 0 true v3)) fun v14 =>
  opt (gdp v12 true (fldA 1 1 false v3)) fun v15 =>
  opt (gdp v12 true (fldA 0 0 true v5)) fun v16 =>
  opt (gdp v12 true (fldA 1 1 false v5)) fun v17 =>
  bnd (gd v12 true M6 (call 22 [v15, v17, (.fn 14 [] [])] lo M6)) fun v18 M19 =>
  opt (pickA v12 v18 (.bool false)) fun v20 =>
  some (v20, M19)
theorem e14 (call : CallT) (nl lo : Nat) (a0 a1 : AV) (M : MM) : execC call modeF lo nl cf14.body (endK cf14.res) noE (endK cf14.res) (aF [a0, a1]) M = s14 call nl lo a0 a1 M := by
  kernel_rfl
theorem q14 {call : CallT} (hc : Lim G call) (lo : Nat) (a0 a1 : AV) (M : MM) : call 14 [a0, a1] lo M = s14 call G.nl lo a0 a1 M :=
  (hc.flow (cf := cf14) rfl w14 [a0, a1] lo M).trans (e14 call G.nl lo a0 a1 M)

/-! ### function 15 -/
theorem w15 : wfK cf15.nt cf15.body = true := by kernel_rfl
def k15_3 (call : CallT) (nl lo : Nat) : Rg → MM → Option (AV × MM) := (execC call modeF lo nl p15_28 (endK cf15.res) noE (endK cf15.res))
@[reducible] def b15_3 (call : CallT) (nl lo : Nat) (M : MM) : Option (AV × MM) :=
  some ((.bool true), M)
theorem t15_3 (call : CallT) (nl lo : Nat) (ρ : Rg) (M : MM) : k15_3 call nl lo ρ M = b15_3 call nl lo M := by
  kernel_rfl
def k15_5 (call : CallT) (nl lo : Nat) (n : Nat) : Rg → MM → Option (AV × MM) := iterC (fun k ρ M => execC call modeF lo nl p15_23 k (fun i ρ M => if i = 0 then (k15_3 call nl lo) ρ M else noE i ρ M) (endK cf15.res) ρ M) n
def b15_5 (call : CallT) (nl lo : Nat) : Nat → AV → AV → AV → AV → AV → MM → Option (AV × MM)
  | 0, _, _, _, _, _, _ => none
  | n + 1, x1, x2, x15, x16, x17, M =>
  opt (binA .lss .none x17 x16) fun v5 =>
  isB v5 fun c6 => if c6 then (opt (ixsA 5 x15 x17) fun v8 =>
  opt (ldnA (lk M) 5 v8) fun v9 =>
  upK M M.nx fun M11 =>
  opt (setcA 0 5 (.agg [.str ⟨⟨[]⟩⟩, .d (.sl [] 0), .i 0, .str ⟨⟨[]⟩⟩, .d (.sl [] 0)]) v9) fun v13 =>
  opt (ixsA 5 x1 x17) fun v16 =>
  opt (ldnA (lk M11) 5 v16) fun v17 =>
  upK M11 M11.nx fun M19 =>
  opt (setcA 0 5 (.agg [.str ⟨⟨[]⟩⟩, .d (.sl [] 0), .i 0, .str ⟨⟨[]⟩⟩, .d (.sl [] 0)]) v17) fun v20 =>
  opt (fldA 0 5 true v13) fun v22 =>
  opt (fldA 0 5 true v20) fun v23 =>
  bnd (istep call modeF false lo (.top M19.nx) M19.nx (.callw [] (.k x2) [(.k v22), (.k v23)]) [] M19) fun v24 M25 =>
  opt (unA .not v24) fun v26 =>
  isB v26 fun c27 => if c27 then (some ((.bool false), M25))
  else (opt (binA .add .none x17 (.i 1)) fun v29 =>
  (b15_5 call nl lo n) x1 x2 x15 x16 v29 M25))
  else (b15_3 call nl lo M)
theorem t15_5 (call : CallT) (nl lo : Nat) : ∀ (n : Nat) (ρ : Rg) (M : MM), k15_5 call nl lo n ρ M = b15_5 call nl lo n (ρ 1) (ρ 2) (ρ 15) (ρ 16) (ρ 17) M
  | 0, ρ, M => rfl
  | n + 1, ρ, M => by
    have h : ∀ (zb z0 : Rg → MM → Option (AV × MM)), execC call modeF lo nl p15_23 zb (fun i ρ M => if i = 0 then z0 ρ M else noE i ρ M) (endK cf15.res) ρ M = (opt (binA .lss .none (ρ 17) (ρ 16)) fun v5 =>
    isB v5 fun c6 => if c6 then (opt (ixsA 5 (ρ 15) (ρ 17)) fun v8 =>
    opt (ldnA (lk M) 5 v8) fun v9 =>
    upK M M.nx fun M11 =>
    opt (setcA 0 5 (.agg [.str ⟨⟨[]⟩⟩, .d (.sl [] 0), .i 0, .str ⟨⟨[]⟩⟩, .d (.sl [] 0)]) v9) fun v13 =>
    opt (ixsA 5 (ρ 1) (ρ 17)) fun v16 =>
    opt (ldnA (lk M11) 5 v16) fun v17 =>
    upK M11 M11.nx fun M19 =>
    opt (setcA 0 5 (.agg [.str ⟨⟨[]⟩⟩, .d (.sl [] 0), .i 0, .str ⟨⟨[]⟩⟩, .d (.sl [] 0)]) v17) fun v20 =>
    opt (fldA 0 5 true v13) fun v22 =>
    opt (fldA 0 5 true v20) fun v23 =>
    bnd (istep call modeF false lo (.top M19.nx) M19.nx (.callw [] (.k (ρ 2)) [(.k v22), (.k v23)]) [] M19) fun v24 M25 =>
    opt (unA .not v24) fun v26 =>
    isB v26 fun c27 => if c27 then (some ((.bool false), M25))
    else (opt (binA .add .none (ρ 17) (.i 1)) fun v29 =>
    zb (sF (sF (sF (sF (sF (sF (sF (sF (sF (sF (sF (sF (sF (sF (sF (sF (sF (sF (sF (sF ρ 18 v5) 19 (ρ 17)) 20 v8) 21 v9) 8 (.agg [.str ⟨⟨[]⟩⟩, .d (.sl [] 0), .i 0, .str ⟨⟨[]⟩⟩, .d (.sl [] 0)])) 7 (ρ 17)) 8 v13) 22 (ρ 1)) 23 (ρ 17)) 24 v16) 25 v17) 9 (.agg [.str ⟨⟨[]⟩⟩, .d (.sl [] 0), .i 0, .str ⟨⟨[]⟩⟩, .d (.sl [] 0)])) 9 v20) 26 (ρ 2)) 27 v22) 28 v23) 29 v24) 30 v26) 31 v29) 17 v29) M25))
    else (z0 (sF ρ 18 v5) M)) := by intros; kernel_rfl
    refine (h (k15_5 call nl lo n) (k15_3 call nl lo)).trans ?_
    unfold b15_5; simp only [(t15_3 call nl lo), (t15_5 call nl lo n)] <;> (show _ = _; kernel_rfl)
def k15_4 (call : CallT) (nl lo : Nat) : Rg → MM → Option (AV × MM) := (execC call modeF lo nl p15_26 (k15_3 call nl lo) noE (endK cf15.res))
@[reducible] def b15_4 (call : CallT) (nl lo : Nat) (x0 x1 x2 : AV) (M : MM) : Option (AV × MM) :=
  opt (lenA x0) fun v3 =>
  b15_5 call nl lo nl x1 x2 x0 v3 (.i 0) M
theorem t15_4 (call : CallT) (nl lo : Nat) (ρ : Rg) (M : MM) : k15_4 call nl lo ρ M = b15_4 call nl lo (ρ 0) (ρ 1) (ρ 2) M := by
  have h : k15_4 call nl lo ρ M = (opt (lenA (ρ 0)) fun v3 =>
  k15_5 call nl lo nl (sF (sF (sF ρ 15 (ρ 0)) 16 v3) 17 (.i 0)) M) := by kernel_rfl
  rw [h]
  unfold b15_4; simp only [(t15_5 call nl lo nl)] <;> (show _ = _; kernel_rfl)
def k15_2 (call : CallT) (nl lo : Nat) : Rg → MM → Option (AV × MM) := (execC call modeF lo nl p15_29 (endK cf15.res) noE (endK cf15.res))
@[reducible] def b15_2 (call : CallT) (nl lo : Nat) (x0 x1 x2 : AV) (M : MM) : Option (AV × MM) :=
  b15_4 call nl lo x0 x1 x2 M
theorem t15_2 (call : CallT) (nl lo : Nat) (ρ : Rg) (M : MM) : k15_2 call nl lo ρ M = b15_2 call nl lo (ρ 0) (ρ 1) (ρ 2) M := by
  have h : k15_2 call nl lo ρ M = (k15_4 call nl lo ρ M) := execC_seq call modeF lo nl p15_26 p15_28 (endK cf15.res) noE (endK cf15.res) ρ M
  rw [h]
  unfold b15_2; simp only [(t15_4 call nl lo)] <;> (show _ = _; kernel_rfl)
def k15_6 (call : CallT) (nl lo : Nat) : Rg → MM → Option (AV × MM) := (execC call modeF lo nl p15_6 (k15_2 call nl lo) noE (endK cf15.res))
@[reducible] def b15_6 (call : CallT) (nl lo : Nat) (x0 x1 x2 : AV) (M : MM) : Option (AV × MM) :=
  opt (lenA x0) fun v2 =>
  opt (lenA x1) fun v4 =>
  opt (binA .neq .none v2 v4) fun v5 =>
  isB v5 fun c6 => if c6 then (some ((.bool false), M))
  else (b15_2 call nl lo x0 x1 x2 M)
theorem t15_6 (call : CallT) (nl lo : Nat) (ρ : Rg) (M : MM) : k15_6 call nl lo ρ M = b15_6 call nl lo (ρ 0) (ρ 1) (ρ 2) M := by
  have h : ∀ (z0 : Rg → MM → Option (AV × MM)), (execC call modeF lo nl p15_6 z0 noE (endK cf15.res)) ρ M = (opt (lenA (ρ 0)) fun v2 =>
  opt (lenA (ρ 1)) fun v4 =>
  opt (binA .neq .none v2 v4) fun v5 =>
  isB v5 fun c6 => if c6 then (some ((.bool false), M))
  else (z0 (sF (sF (sF (sF (sF ρ 10 (ρ 0)) 11 v2) 12 (ρ 1)) 13 v4) 14 v5) M)) := by intros; kernel_rfl
  refine (h (k15_2 call nl lo)).trans ?_
  unfold b15_6; simp only [(t15_2 call nl lo)] <;> (show _ = _; kernel_rfl)
def k15_1 (call : CallT) (nl lo : Nat) : Rg → MM → Option (AV × MM) := (execC call modeF lo nl p15_30 (endK cf15.res) noE (endK cf15.res))
@[reducible] def b15_1 (call : CallT) (nl lo : Nat) (x0 x1 x2 : AV) (M : MM) : Option (AV × MM) :=
  b15_6 call nl lo x0 x1 x2 M
theorem t15_1 (call : CallT) (nl lo : Nat) (ρ : Rg) (M : MM) : k15_1 call nl lo ρ M = b15_1 call nl lo (ρ 0) (ρ 1) (ρ 2) M := by
  have h : k15_1 call nl lo ρ M = (k15_6 call nl lo ρ M) := execC_seq call modeF lo nl p15_6 p15_29 (endK cf15.res) noE (endK cf15.res) ρ M
  rw [h]
  unfold b15_1; simp only [(t15_6 call nl lo)] <;> (show _ = _; kernel_rfl)
def k15_7 (call : CallT) (nl lo : Nat) : Rg → MM → Option (AV × MM) := (execC call modeF lo nl p15_1 (k15_1 call nl lo) noE (endK cf15.res))
@[reducible] def b15_7 (call : CallT) (nl lo : Nat) (x0 x1 x2 : AV) (M : MM) : Option (AV × MM) :=
  b15_1 call nl lo x0 x1 x2 M
theorem t15_7 (call : CallT) (nl lo : Nat) (ρ : Rg) (M : MM) : k15_7 call nl lo ρ M = b15_7 call nl lo (ρ 0) (ρ 1) (ρ 2) M := by
  have h : ∀ (z0 : Rg → MM → Option (AV × MM)), (execC call modeF lo nl p15_1 z0 noE (endK cf15.res)) ρ M = (z0 (sF ρ 6 (.bool false)) M) := by intros; kernel_rfl
  refine (h (k15_1 call nl lo)).trans ?_
  unfold b15_7; simp only [(t15_1 call nl lo)] <;> (show _ = _; kernel_rfl)
def k15_0 (call : CallT) (nl lo : Nat) : Rg → MM → Option (AV × MM) := (execC call modeF lo nl p15_31 (endK cf15.res) noE (endK cf15.res))
@[reducible] def b15_0 (call : CallT) (nl lo : Nat) (x0 x1 x2 : AV) (M : MM) : Option (AV × MM) :=
  b15_7 call nl lo x0 x1 x2 M
theorem t15_0 (call : CallT) (nl lo : Nat) (ρ : Rg) (M : MM) : k15_0 call nl lo ρ M = b15_0 call nl lo (ρ 0) (ρ 1) (ρ 2) M := by
  have h : k15_0 call nl lo ρ M = (k15_7 call nl lo ρ M) := execC_seq call modeF lo nl p15_1 p15_30 (endK cf15.res) noE (endK cf15.res) ρ M
  rw [h]
  unfold b15_0; simp only [(t15_7 call nl lo)] <;> (show _ = _; kernel_rfl)
def k15_8 (call : CallT) (nl lo : Nat) : Rg → MM → Option (AV × MM) := (execC call modeF lo nl p15_0 (k15_0 call nl lo) noE (endK cf15.res))
@[reducible] def b15_8 (call : CallT) (nl lo : Nat) (x0 x1 x2 : AV) (M : MM) : Option (AV × MM) :=
  b15_0 call nl lo x0 x1 x2 M
theorem t15_8 (call : CallT) (nl lo : Nat) (ρ : Rg) (M : MM) : k15_8 call nl lo ρ M = b15_8 call nl lo (ρ 0) (ρ 1) (ρ 2) M := by
  have h : ∀ (z0 : Rg → MM → Option (AV × MM)), (execC call modeF lo nl p15_0 z0 noE (endK cf15.res)) ρ M = (z0 (sF (sF ρ 8 (.tup [])) 9 (.tup [])) M) := by intros; kernel_rfl
  refine (h (k15_0 call nl lo)).trans ?_
  unfold b15_8; simp only [(t15_0 call nl lo)] <;> (show _ = _; kernel_rfl)
def s15 (call : CallT) (nl lo : Nat) (a0 a1 a2 : AV) (M : MM) : Option (AV × MM) :=
  b15_8 call nl lo a0 a1 a2 M
theorem e15 (call : CallT) (nl lo : Nat) (a0 a1 a2 : AV) (M : MM) : execC call modeF lo nl cf15.body (endK cf15.res) noE (endK cf15.res) (aF [a0, a1, a2]) M = s15 call nl lo a0 a1 a2 M := by
  have h : execC call modeF lo nl cf15.body (endK cf15.res) noE (endK cf15.res) (aF [a0, a1, a2]) M = (k15_8 call nl lo (aF [a0, a1, a2]) M) := execC_seq call modeF lo nl p15_0 p15_31 (endK cf15.res) noE (endK cf15.res) (aF [a0, a1, a2]) M
  refine h.trans ?_
  unfold s15; simp only [(t15_8 call nl lo)] <;> (show _ = _; kernel_rfl)
theorem q15 {call : CallT} (hc : Lim G call) (lo : Nat) (a0 a1 a2 : AV) (M : MM) : call 15 [a0, a1, a2] lo M = s15 call G.nl lo a0 a1 a2 M :=
  (hc.flow (cf := cf15) rfl w15 [a0, a1, a2] lo M).trans (e15 call G.nl lo a0 a1 a2 M)

/-! ### function 16 -/
theorem w16 : wfK cf16.nt cf16.body = true := by kernel_rfl
def k16_2 (call : CallT) (nl lo : Nat) : Rg → MM → Option (AV × MM) := (execC call modeF lo nl p16_21 (endK cf16.res) noE (endK cf16.res))
@[reducible] def b16_2 (call : CallT) (nl lo : Nat) (M : MM) : Option (AV × MM) :=
  some ((.i (-1)), M)
theorem t16_2 (call : CallT) (nl lo : Nat) (ρ : Rg) (M : MM) : k16_2 call nl lo ρ M = b16_2 call nl lo M := by
  kernel_rfl
def k16_4 (call : CallT) (nl lo : Nat) (n : Nat) : Rg → MM → Option (AV × MM) := iterC (fun k ρ M => execC call modeF lo nl p16_16 k (fun i ρ M => if i = 0 then (k16_2 call nl lo) ρ M else noE i ρ M) (endK cf16.res) ρ M) n
def b16_4 (call : CallT) (nl lo : Nat) : Nat → AV → AV → AV → AV → MM → Option (AV × MM)
  | 0, _, _, _, _, _ => none
  | n + 1, x0, x1, x7, x8, M =>
  opt (binA .lss .none x8 x7) fun v5 =>
  isB v5 fun c6 => if c6 then (opt (ixsA 1 x0 x8) fun v12 =>
  opt (ld1A (lk M) v12) fun v13 =>
  opt (binA .eql .none x1 v13) fun v14 =>
  isB v14 fun c15 => if c15 then (some (x8, M))
  else (opt (binA .add .none x8 (.i 1)) fun v18 =>
  (b16_4 call nl lo n) x0 x1 x7 v18 M))
  else (b16_2 call nl lo M)
theorem t16_4 (call : CallT) (nl lo : Nat) : ∀ (n : Nat) (ρ : Rg) (M : MM), k16_4 call nl lo n ρ M = b16_4 call nl lo n (ρ 0) (ρ 1) (ρ 7) (ρ 8) M
  | 0, ρ, M => rfl
  | n + 1, ρ, M => by
    have h : ∀ (zb z0 : Rg → MM → Option (AV × MM)), execC call modeF lo nl p16_16 zb (fun i ρ M => if i = 0 then z0 ρ M else noE i ρ M) (endK cf16.res) ρ M = (opt (binA .lss .none (ρ 8) (ρ 7)) fun v5 =>
    isB v5 fun c6 => if c6 then (opt (ixsA 1 (ρ 0) (ρ 8)) fun v12 =>
    opt (ld1A (lk M) v12) fun v13 =>
    opt (binA .eql .none (ρ 1) v13) fun v14 =>
    isB v14 fun c15 => if c15 then (some ((ρ 8), M))
    else (opt (binA .add .none (ρ 8) (.i 1)) fun v18 =>
    zb (sF (sF (sF (sF (sF (sF (sF (sF (sF (sF (sF ρ 9 v5) 10 (ρ 8)) 5 (ρ 8)) 11 (ρ 1)) 12 (ρ 0)) 13 (ρ 8)) 14 v12) 15 v13) 16 v14) 18 v18) 8 v18) M))
    else (z0 (sF ρ 9 v5) M)) := by intros; kernel_rfl
    refine (h (k16_4 call nl lo n) (k16_2 call nl lo)).trans ?_
    unfold b16_4; simp only [(t16_2 call nl lo), (t16_4 call nl lo n)] <;> (show _ = _; kernel_rfl)
def k16_3 (call : CallT) (nl lo : Nat) : Rg → MM → Option (AV × MM) := (execC call modeF lo nl p16_19 (k16_2 call nl lo) noE (endK cf16.res))
@[reducible] def b16_3 (call : CallT) (nl lo : Nat) (x0 x1 : AV) (M : MM) : Option (AV × MM) :=
  opt (lenA x0) fun v3 =>
  b16_4 call nl lo nl x0 x1 v3 (.i 0) M
theorem t16_3 (call : CallT) (nl lo : Nat) (ρ : Rg) (M : MM) : k16_3 call nl lo ρ M = b16_3 call nl lo (ρ 0) (ρ 1) M := by
  have h : k16_3 call nl lo ρ M = (opt (lenA (ρ 0)) fun v3 =>
  k16_4 call nl lo nl (sF (sF (sF ρ 6 (ρ 0)) 7 v3) 8 (.i 0)) M) := by kernel_rfl
  rw [h]
  unfold b16_3; simp only [(t16_4 call nl lo nl)] <;> (show _ = _; kernel_rfl)
def k16_1 (call : CallT) (nl lo : Nat) : Rg → MM → Option (AV × MM) := (execC call modeF lo nl p16_22 (endK cf16.res) noE (endK cf16.res))
@[reducible] def b16_1 (call : CallT) (nl lo : Nat) (x0 x1 : AV) (M : MM) : Option (AV × MM) :=
  b16_3 call nl lo x0 x1 M
theorem t16_1 (call : CallT) (nl lo : Nat) (ρ : Rg) (M : MM) : k16_1 call nl lo ρ M = b16_1 call nl lo (ρ 0) (ρ 1) M := by
  have h : k16_1 call nl lo ρ M = (k16_3 call nl lo ρ M) := execC_seq call modeF lo nl p16_19 p16_21 (endK cf16.res) noE (endK cf16.res) ρ M
  rw [h]
  unfold b16_1; simp only [(t16_3 call nl lo)] <;> (show _ = _; kernel_rfl)
def k16_5 (call : CallT) (nl lo : Nat) : Rg → MM → Option (AV × MM) := (execC call modeF lo nl p16_1 (k16_1 call nl lo) noE (endK cf16.res))
@[reducible] def b16_5 (call : CallT) (nl lo : Nat) (x0 x1 : AV) (M : MM) : Option (AV × MM) :=
  b16_1 call nl lo x0 x1 M
theorem t16_5 (call : CallT) (nl lo : Nat) (ρ : Rg) (M : MM) : k16_5 call nl lo ρ M = b16_5 call nl lo (ρ 0) (ρ 1) M := by
  have h : ∀ (z0 : Rg → MM → Option (AV × MM)), (execC call modeF lo nl p16_1 z0 noE (endK cf16.res)) ρ M = (z0 (sF ρ 4 (.i 0)) M) := by intros; kernel_rfl
  refine (h (k16_1 call nl lo)).trans ?_
  unfold b16_5; simp only [(t16_1 call nl lo)] <;> (show _ = _; kernel_rfl)
def k16_0 (call : CallT) (nl lo : Nat) : Rg → MM → Option (AV × MM) := (execC call modeF lo nl p16_23 (endK cf16.res) noE (endK cf16.res))
@[reducible] def b16_0 (call : CallT) (nl lo : Nat) (x0 x1 : AV) (M : MM) : Option (AV × MM) :=
  b16_5 call nl lo x0 x1 M
theorem t16_0 (call : CallT) (nl lo : Nat) (ρ : Rg) (M : MM) : k16_0 call nl lo ρ M = b16_0 call nl lo (ρ 0) (ρ 1) M := by
  have h : k16_0 call nl lo ρ M = (k16_5 call nl lo ρ M) := execC_seq call modeF lo nl p16_1 p16_22 (endK cf16.res) noE (endK cf16.res) ρ M
  rw [h]
  unfold b16_0; simp only [(t16_5 call nl lo)] <;> (show _ = _; kernel_rfl)
def k16_6 (call : CallT) (nl lo : Nat) : Rg → MM → Option (AV × MM) := (execC call modeF lo nl p16_0 (k16_0 call nl lo) noE (endK cf16.res))
@[reducible] def b16_6 (call : CallT) (nl lo : Nat) (x0 x1 : AV) (M : MM) : Option (AV × MM) :=
  b16_0 call nl lo x0 x1 M
theorem t16_6 (call : CallT) (nl lo : Nat) (ρ : Rg) (M : MM) : k16_6 call nl lo ρ M = b16_6 call nl lo (ρ 0) (ρ 1) M := by
  have h : ∀ (z0 : Rg → MM → Option (AV × MM)), (execC call modeF lo nl p16_0 z0 noE (endK cf16.res)) ρ M = (z0 ρ M) := by intros; kernel_rfl
  refine (h (k16_0 call nl lo)).trans ?_
  unfold b16_6; simp only [(t16_0 call nl lo)] <;> (show _ = _; kernel_rfl)
def s16 (call : CallT) (nl lo : Nat) (a0 a1 : AV) (M : MM) : Option (AV × MM) :=
  b16_6 call nl lo a0 a1 M
theorem e16 (call : CallT) (nl lo : Nat) (a0 a1 : AV) (M : MM) : execC call modeF lo nl cf16.body (endK cf16.res) noE (endK cf16.res) (aF [a0, a1]) M = s16 call nl lo a0 a1 M := by
  have h : execC call modeF lo nl cf16.body (endK cf16.res) noE (endK cf16.res) (aF [a0, a1]) M = (k16_6 call nl lo (aF [a0, a1]) M) := execC_seq call modeF lo nl p16_0 p16_23 (endK cf16.res) noE (endK cf16.res) (aF [a0, a1]) M
  refine h.trans ?_
  unfold s16; simp only [(t16_6 call nl lo)] <;> (show _ = _; kernel_rfl)
theorem q16 {call : CallT} (hc : Lim G call) (lo : Nat) (a0 a1 : AV) (M : MM) : call 16 [a0, a1] lo M = s16 call G.nl lo a0 a1 M :=
  (hc.flow (cf := cf16) rfl w16 [a0, a1] lo M).trans (e16 call G.nl lo a0 a1 M)

/-! ### function 22 -/
theorem w22 : wfK cf22.nt cf22.body = true := by kernel_rfl
def k22_3 (call : CallT) (nl lo : Nat) : Rg → MM → Option (AV × MM) := (execC call modeF lo nl p22_28 (endK cf22.res) noE (endK cf22.res))
@[reducible] def b22_3 (call : CallT) (nl lo : Nat) (M : MM) : Option (AV × MM) :=
  some ((.bool true), M)
theorem t22_3 (call : CallT) (nl lo : Nat) (ρ : Rg) (M : MM) : k22_3 call nl lo ρ M = b22_3 call nl lo M := by
  kernel_rfl
def k22_5 (call : CallT) (nl lo : Nat) (n : Nat) : Rg → MM → Option (AV × MM) := iterC (fun k ρ M => execC call modeF lo nl p22_23 k (fun i ρ M => if i = 0 then (k22_3 call nl lo) ρ M else noE i ρ M) (endK cf22.res) ρ M) n
def b22_5 (call : CallT) (nl lo : Nat) : Nat → AV → AV → AV → AV → AV → MM → Option (AV × MM)
  | 0, _, _, _, _, _, _ => none
  | n + 1, x1, x2, x15, x16, x17, M =>
  opt (binA .lss .none x17 x16) fun v5 =>
  isB v5 fun c6 => if c6 then (opt (ixsA 2 x15 x17) fun v8 =>
  opt (ldnA (lk M) 2 v8) fun v9 =>
  upK M M.nx fun M11 =>
  opt (setcA 0 2 (.agg [.str ⟨⟨[]⟩⟩, .d (.sl [] 0)]) v9) fun v13 =>
  opt (ixsA 2 x1 x17) fun v16 =>
  opt (ldnA (lk M11) 2 v16) fun v17 =>
  upK M11 M11.nx fun M19 =>
  opt (setcA 0 2 (.agg [.str ⟨⟨[]⟩⟩, .d (.sl [] 0)]) v17) fun v20 =>
  opt (fldA 0 2 true v13) fun v22 =>
  opt (fldA 0 2 true v20) fun v23 =>
  bnd (istep call modeF false lo (.top M19.nx) M19.nx (.callw [] (.k x2) [(.k v22), (.k v23)]) [] M19) fun v24 M25 =>
  opt (unA .not v24) fun v26 =>
  isB v26 fun c27 => if c27 then (some ((.bool false), M25))
  else (opt (binA .add .none x17 (.i 1)) fun v29 =>
  (b22_5 call nl lo n) x1 x2 x15 x16 v29 M25))
  else (b22_3 call nl lo M)
theorem t22_5 (call : CallT) (nl lo : Nat) : ∀ (n : Nat) (ρ : Rg) (M : MM), k22_5 call nl lo n ρ M = b22_5 call nl lo n (ρ 1) (ρ 2) (ρ 15) (ρ 16) (ρ 17) M
  | 0, ρ, M => rfl
  | n + 1, ρ, M => by
    have h : ∀ (zb z0 : Rg → MM → Option (AV × MM)), execC call modeF lo nl p22_23 zb (fun i ρ M => if i = 0 then z0 ρ M else noE i ρ M) (endK cf22.res) ρ M = (opt (binA .lss .none (ρ 17) (ρ 16)) fun v5 =>
    isB v5 fun c6 => if c6 then (opt (ixsA 2 (ρ 15) (ρ 17)) fun v8 =>
    opt (ldnA (lk M) 2 v8) fun v9 =>
    upK M M.nx fun M11 =>
    opt (setcA 0 2 (.agg [.str ⟨⟨[]⟩⟩, .d (.sl [] 0)]) v9) fun v13 =>
    opt (ixsA 2 (ρ 1) (ρ 17)) fun v16 =>
    opt (ldnA (lk M11) 2 v16) fun v17 =>
    upK M11 M11.nx fun M19 =>
    opt (setcA 0 2 (.agg [.str ⟨⟨[]⟩⟩, .d (.sl [] 0)]) v17) fun v20 =>
    opt (fldA 0 2 true v13) fun v22 =>
    opt (fldA 0 2 true v20) fun v23 =>
    bnd (istep call modeF false lo (.top M19.nx) M19.nx (.callw [] (.k (ρ 2)) [(.k v22), (.k v23)]) [] M19) fun v24 M25 =>
    opt (unA .not v24) fun v26 =>
    isB v26 fun c27 => if c27 then (some ((.bool false), M25))
    else (opt (binA .add .none (ρ 17) (.i 1)) fun v29 =>
    zb (sF (sF (sF (sF (sF (sF (sF (sF (sF (sF (sF (sF (sF (sF (sF (sF (sF (sF (sF (sF ρ 18 v5) 19 (ρ 17)) 20 v8) 21 v9) 8 (.agg [.str ⟨⟨[]⟩⟩, .d (.sl [] 0)])) 7 (ρ 17)) 8 v13) 22 (ρ 1)) 23 (ρ 17)) 24 v16) 25 v17) 9 (.agg [.str ⟨⟨[]⟩⟩, .d (.sl [] 0)])) 9 v20) 26 (ρ 2)) 27 v22) 28 v23) 29 v24) 30 v26) 31 v29) 17 v29) M25))
    else (z0 (sF ρ 18 v5) M)) := by intros; kernel_rfl
    refine (h (k22_5 call nl lo n) (k22_3 call nl lo)).trans ?_
    unfold b22_5; simp only [(t22_3 call nl lo), (t22_5 call nl lo n)] <;> (show _ = _; kernel_rfl)
def k22_4 (call : CallT) (nl lo : Nat) : Rg → MM → Option (AV × MM) := (execC call modeF lo nl p22_26 (k22_3 call nl lo) noE (endK cf22.res))
@[reducible] def b22_4 (call : CallT) (nl lo : Nat) (x0 x1 x2 : AV) (M : MM) : Option (AV × MM) :=
  opt (lenA x0) fun v3 =>
  b22_5 call nl lo nl x1 x2 x0 v3 (.i 0) M
theorem t22_4 (call : CallT) (nl lo : Nat) (ρ : Rg) (M : MM) : k22_4 call nl lo ρ M = b22_4 call nl lo (ρ 0) (ρ 1) (ρ 2) M := by
  have h : k22_4 call nl lo ρ M = (opt (lenA (ρ 0)) fun v3 =>
  k22_5 call nl lo nl (sF (sF (sF ρ 15 (ρ 0)) 16 v3) 17 (.i 0)) M) := by kernel_rfl
  rw [h]
  unfold b22_4; simp only [(t22_5 call nl lo nl)] <;> (show _ = _; kernel_rfl)
def k22_2 (call : CallT) (nl lo : Nat) : Rg → MM → Option (AV × MM) := (execC call modeF lo nl p22_29 (endK cf22.res) noE (endK cf22.res))
@[reducible] def b22_2 (call : CallT) (nl lo : Nat) (x0 x1 x2 : AV) (M : MM) : Option (AV × MM) :=
  b22_4 call nl lo x0 x1 x2 M
theorem t22_2 (call : CallT) (nl lo : Nat) (ρ : Rg) (M : MM) : k22_2 call nl lo ρ M = b22_2 call nl lo (ρ 0) (ρ 1) (ρ 2) M := by
  have h : k22_2 call nl lo ρ M = (k22_4 call nl lo ρ M) := execC_seq call modeF lo nl p22_26 p22_28 (endK cf22.res) noE (endK cf22.res) ρ M
  rw [h]
  unfold b22_2; simp only [(t22_4 call nl lo)] <;> (show _ = _; kernel_rfl)
def k22_6 (call : CallT) (nl lo : Nat) : Rg → MM → Option (AV × MM) := (execC call modeF lo nl p22_6 (k22_2 call nl lo) noE (endK cf22.res))
@[reducible] def b22_6 (call : CallT) (nl lo : Nat) (x0 x1 x2 : AV) (M : MM) : Option (AV × MM) :=
  opt (lenA x0) fun v2 =>
  opt (lenA x1) fun v4 =>
  opt (binA .neq .none v2 v4) fun v5 =>
  isB v5 fun c6 => if c6 then (some ((.bool false), M))
  else (b22_2 call nl lo x0 x1 x2 M)
theorem t22_6 (call : CallT) (nl lo : Nat) (ρ : Rg) (M : MM) : k22_6 call nl lo ρ M = b22_6 call nl lo (ρ 0) (ρ 1) (ρ 2) M := by
  have h : ∀ (z0 : Rg → MM → Option (AV × MM)), (execC call modeF lo nl p22_6 z0 noE (endK cf22.res)) ρ M = (opt (lenA (ρ 0)) fun v2 =>
  opt (lenA (ρ 1)) fun v4 =>
  opt (binA .neq .none v2 v4) fun v5 =>
  isB v5 fun c6 => if c6 then (some ((.bool false), M))
  else (z0 (sF (sF (sF (sF (sF ρ 10 (ρ 0)) 11 v2) 12 (ρ 1)) 13 v4) 14 v5) M)) := by intros; kernel_rfl
  refine (h (k22_2 call nl lo)).trans ?_
  unfold b22_6; simp only [(t22_2 call nl lo)] <;> (show _ = _; kernel_rfl)
def k22_1 (call : CallT) (nl lo : Nat) : Rg → MM → Option (AV × MM) := (execC call modeF lo nl p22_30 (endK cf22.res) noE (endK cf22.res))
@[reducible] def b22_1 (call : CallT) (nl lo : Nat) (x0 x1 x2 : AV) (M : MM) : Option (AV × MM) :=
  b22_6 call nl lo x0 x1 x2 M
theorem t22_1 (call : CallT) (nl lo : Nat) (ρ : Rg) (M : MM) : k22_1 call nl lo ρ M = b22_1 call nl lo (ρ 0) (ρ 1) (ρ 2) M := by
  have h : k22_1 call nl lo ρ M = (k22_6 call nl lo ρ M) := execC_seq call modeF lo nl p22_6 p22_29 (endK cf22.res) noE (endK cf22.res) ρ M
  rw [h]
  unfold b22_1; simp only [(t22_6 call nl lo)] <;> (show _ = _; kernel_rfl)
def k22_7 (call : CallT) (nl lo : Nat) : Rg → MM → Option (AV × MM) := (execC call modeF lo nl p22_1 (k22_1 call nl lo) noE (endK cf22.res))
@[reducible] def b22_7 (call : CallT) (nl lo : Nat) (x0 x1 x2 : AV) (M : MM) : Option (AV × MM) :=
  b22_1 call nl lo x0 x1 x2 M
theorem t22_7 (call : CallT) (nl lo : Nat) (ρ : Rg) (M : MM) : k22_7 call nl lo ρ M = b22_7 call nl lo (ρ 0) (ρ 1) (ρ 2) M := by
  have h : ∀ (z0 : Rg → MM → Option (AV × MM)), (execC call modeF lo nl p22_1 z0 noE (endK cf22.res)) ρ M = (z0 (sF ρ 6 (.bool false)) M) := by intros; kernel_rfl
  refine (h (k22_1 call nl lo)).trans ?_
  unfold b22_7; simp only [(t22_1 call nl lo)] <;> (show _ = _; kernel_rfl)
def k22_0 (call : CallT) (nl lo : Nat) : Rg → MM → Option (AV × MM) := (execC call modeF lo nl p22_31 (endK cf22.res) noE (endK cf22.res))
@[reducible] def b22_0 (call : CallT) (nl lo : Nat) (x0 x1 x2 : AV) (M : MM) : Option (AV × MM) :=
  b22_7 call nl lo x0 x1 x2 M
theorem t22_0 (call : CallT) (nl lo : Nat) (ρ : Rg) (M : MM) : k22_0 call nl lo ρ M = b22_0 call nl lo (ρ 0) (ρ 1) (ρ 2) M := by
  have h : k22_0 call nl lo ρ M = (k22_7 call nl lo ρ M) := execC_seq call modeF lo nl p22_1 p22_30 (endK cf22.res) noE (endK cf22.res) ρ M
  rw [h]
  unfold b22_0; simp only [(t22_7 call nl lo)] <;> (show _ = _; kernel_rfl)
def k22_8 (call : CallT) (nl lo : Nat) : Rg → MM → Option (AV × MM) := (execC call modeF lo nl p22_0 (k22_0 call nl lo) noE (endK cf22.res))
@[reducible] def b22_8 (call : CallT) (nl lo : Nat) (x0 x1 x2 : AV) (M : MM) : Option (AV × MM) :=
  b22_0 call nl lo x0 x1 x2 M
theorem t22_8 (call : CallT) (nl lo : Nat) (ρ : Rg) (M : MM) : k22_8 call nl lo ρ M = b22_8 call nl lo (ρ 0) (ρ 1) (ρ 2) M := by
  have h : ∀ (z0 : Rg → MM → Option (AV × MM)), (execC call modeF lo nl p22_0 z0 noE (endK cf22.res)) ρ M = (z0 (sF (sF ρ 8 (.tup [])) 9 (.tup [])) M) := by intros; kernel_rfl
  refine (h (k22_0 call nl lo)).trans ?_
  unfold b22_8; simp only [(t22_0 call nl lo)] <;> (show _ = _; kernel_rfl)
def s22 (call : CallT) (nl lo : Nat) (a0 a1 a2 : AV) (M : MM) : Option (AV × MM) :=
  b22_8 call nl lo a0 a1 a2 M
theorem e22 (call : CallT) (nl lo : Nat) (a0 a1 a2 : AV) (M : MM) : execC call modeF lo nl cf22.body (endK cf22.res) noE (endK cf22.res) (aF [a0, a1, a2]) M = s22 call nl lo a0 a1 a2 M := by
  have h : execC call modeF lo nl cf22.body (endK cf22.res) noE (endK cf22.res) (aF [a0, a1, a2]) M = (k22_8 call nl lo (aF [a0, a1, a2]) M) := execC_seq call modeF lo nl p22_0 p22_31 (endK cf22.res) noE (endK cf22.res) (aF [a0, a1, a2]) M
  refine h.trans ?_
  unfold s22; simp only [(t22_8 call nl lo)] <;> (show _ = _; kernel_rfl)
theorem q22 {call : CallT} (hc : Lim G call) (lo : Nat) (a0 a1 a2 : AV) (M : MM) : call 22 [a0, a1, a2] lo M = s22 call G.nl lo a0 a1 a2 M :=
  (hc.flow (cf := cf22) rfl w22 [a0, a1, a2] lo M).trans (e22 call G.nl lo a0 a1 a2 M)
end Go.Proofs.YtfkjeopbkmoajaaDoor.Sx

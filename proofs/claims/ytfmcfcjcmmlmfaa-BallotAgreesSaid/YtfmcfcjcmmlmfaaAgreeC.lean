/- BallotAgrees: who accepted is counted. -/
import Derived.Test.YtfmcfcjcmmlmfaaAgreeH
namespace Go.Proofs.Ytfmcfcjcmmlmfaa
open Go Go.RowKit Go.Maps
set_option linter.unusedVariables false

set_option maxRecDepth 1000000 in
set_option maxHeartbeats 40000000 in
theorem ag_count (w : World) (z : Int) (l : List StepT) (g off lc n i : Nat) (B : AgB) (f : Fam) (f5 : Fam) (vv : Nat → Nat → Value) (S5 : PS) (xB k b s : Nat) (xkeep : Int) (wc : World) (y2 y3 y4 y8 y9 y10 y11 y12 y23 y24 y25 y26 y27 y28 y29 y30 y31 y32 y33 y34 y35 y36 y37 y38 y39 y40 y41 y42 y43 y44 y45 y46 y47 y48 y49 y50 y51 y52 y53 y54 y55 y56 y57 y58 y59 y60 y61 y62 y63 y64 y65 y66 y67 y68 y69 y70 y71 y72 y73 y74 y75 y76 y77 y78 y79 y80 y81 y82 y83 y84 y85 y86 y87 y88 y89 y90 y91 y92 y93 y94 y95 y96 y97 y98 y99 y100 y101 y102 y103 y104 y105 y106 y107 y108 y109 y110 y111 y112 y113 y114 y115 y116 y117 y118 y119 y120 y121 y122 y123 y124 y125 y126 y127 y128 y129 y130 y131 y132 y133 y134 y135 y136 y137 y138 y139 y140 y141 y142 y143 y144 y145 y146 y147 y148 y149 y150 y151 y152 y153 y154 y155 y156 y157 y158 y159 y160 y161 y162 y163 y164 y165 y166 y167 y168 y169 y170 y171 y172 y173 y174 y175 y176 y177 y178 y179 y180 y181 y182 y183 y184 y185 y186 y187 y188 y189 y190 y191 y192 y193 y194 y195 y196 y197 y198 y199 y200 y201 y202 y203 y204 y205 y206 y207 y208 y209 y210 y211 y212 y213 y214 y215 y216 y217 y218 y219 y220 y221 y222 y223 y224 y225 y226 y227 y228 y229 y230 y231 y232 y233 y234 y235 y236 y237 y238 y239 y240 y241 y242 y243 y244 y245 y246 y247 y248 y249 y250 y251 y252 y253 y254 y255 y256 y257 y258 y259 y260 y261 y262 y263 y264 y265 y266 y267 y268 y269 y270 y271 y272 y273 y274 y275 y276 y277 y278 y279 y280 y281 y282 y283 y284 y285 y286 y287 y288 y289 y290 y291 y292 y293 y294 y295 y296 y297 y298 y299 y300 y301 y302 y303 y304 y305 y306 y307 y308 y309 y310 y311 y312 y313 y314 y315 y316 y317 y318 y319 y320 y321 y322 y323 y324 y325 y326 y327 y328 y329 y330 y331 y332 y333 y334 y335 y336 y337 y338 : Value) (R : Exit → Act → World → Prop)
    (hR : Hid (∀ (t2 t3 t4 t8 t9 t10 t11 t12 t18 t19 t20 t21 t22 t23 t24 t25 t26 t27 t28 t29 t30 t31 t32 t33 t34 t35 t36 t37 t38 t39 t40 t41 t42 t43 t44 t45 t46 t47 t48 t49 t50 t51 t52 t53 t54 t55 t56 t57 t58 t59 t60 t61 t62 t63 t64 t65 t66 t67 t68 t69 t70 t71 t72 t73 t74 t75 t76 t77 t78 t79 t80 t81 t82 t83 t84 t85 t86 t87 t88 t89 t90 t91 t92 t93 t94 t95 t96 t97 t98 t99 t100 t101 t102 t103 t104 t105 t106 t107 t108 t109 t110 t111 t112 t113 t114 t115 t116 t117 t118 t119 t120 t121 t122 t123 t124 t125 t126 t127 t128 t129 t130 t131 t132 t133 t134 t135 t136 t137 t138 t139 t140 t141 t142 t143 t144 t145 t146 t147 t148 t149 t150 t151 t152 t153 t154 t155 t156 t157 t158 t159 t160 t161 t162 t163 t164 t165 t166 t167 t168 t169 t170 t171 t172 t173 t174 t175 t176 t177 t178 t179 t180 t181 t182 t183 t184 t185 t186 t187 t188 t189 t190 t191 t192 t193 t194 t195 t196 t197 t198 t199 t200 t201 t202 t203 t204 t205 t206 t207 t208 t209 t210 t211 t212 t213 t214 t215 t216 t217 t218 t219 t220 t221 t222 t223 t224 t225 t226 t227 t228 t229 t230 t231 t232 t233 t234 t235 t236 t237 t238 t239 t240 t241 t242 t243 t244 t245 t246 t247 t248 t249 t250 t251 t252 t253 t254 t255 t256 t257 t258 t259 t260 t261 t262 t263 t264 t265 t266 t267 t268 t269 t270 t271 t272 t273 t274 t275 t276 t277 t278 t279 t280 t281 t282 t283 t284 t285 t286 t287 t288 t289 t290 t291 t292 t293 t294 t295 t296 t297 t298 t299 t300 t301 t302 t303 t304 t305 t306 t307 t308 t309 t310 t311 t312 t313 t314 t315 t316 t317 t318 t319 t320 t321 t322 t323 t324 t325 t326 t327 t328 t329 t330 t331 t332 t333 t334 t335 t336 t337 t338 : Value) (f' : Fam) (vv' : Nat → Nat → Value) (S' : PS) (w2 : World), AgMem w n (i + 1) B f' f'.ab vv' S' w2 → PInv n S' → R .normal ⟨(List.toArray ((.int .u8 z : Value) :: (.slice (some ⟨g, off, none⟩) l.length lc : Value) :: t2 :: t3 :: t4 :: (.int .i64 n : Value) :: (.pointer (some ⟨B.db, 0, none⟩) : Value) :: (.pointer (some ⟨B.al, 0, none⟩) : Value) :: t8 :: t9 :: t10 :: t11 :: t12 :: (.pointer (some ⟨B.hb, 0, none⟩) : Value) :: (.pointer (some ⟨B.tb, 0, none⟩) : Value) :: (.pointer (some ⟨B.cb, 0, none⟩) : Value) :: (.pointer (some ⟨B.ib, 0, none⟩) : Value) :: (.int .i64 i : Value) :: t18 :: t19 :: t20 :: t21 :: t22 :: t23 :: t24 :: t25 :: t26 :: t27 :: t28 :: t29 :: t30 :: t31 :: t32 :: t33 :: t34 :: t35 :: t36 :: t37 :: t38 :: t39 :: t40 :: t41 :: t42 :: t43 :: t44 :: t45 :: t46 :: t47 :: t48 :: t49 :: t50 :: t51 :: t52 :: t53 :: t54 :: t55 :: t56 :: t57 :: t58 :: t59 :: t60 :: t61 :: t62 :: t63 :: t64 :: t65 :: t66 :: t67 :: t68 :: t69 :: t70 :: t71 :: t72 :: t73 :: t74 :: t75 :: t76 :: t77 :: t78 :: t79 :: t80 :: t81 :: t82 :: t83 :: t84 :: t85 :: t86 :: t87 :: t88 :: t89 :: t90 :: t91 :: t92 :: t93 :: t94 :: t95 :: t96 :: t97 :: t98 :: t99 :: t100 :: t101 :: t102 :: t103 :: t104 :: t105 :: t106 :: t107 :: t108 :: t109 :: t110 :: t111 :: t112 :: t113 :: t114 :: t115 :: t116 :: t117 :: t118 :: t119 :: t120 :: t121 :: t122 :: t123 :: t124 :: t125 :: t126 :: t127 :: t128 :: t129 :: t130 :: t131 :: t132 :: t133 :: t134 :: t135 :: t136 :: t137 :: t138 :: t139 :: t140 :: t141 :: t142 :: t143 :: t144 :: t145 :: t146 :: t147 :: t148 :: t149 :: t150 :: t151 :: t152 :: t153 :: t154 :: t155 :: t156 :: t157 :: t158 :: t159 :: t160 :: t161 :: t162 :: t163 :: t164 :: t165 :: t166 :: t167 :: t168 :: t169 :: t170 :: t171 :: t172 :: t173 :: t174 :: t175 :: t176 :: t177 :: t178 :: t179 :: t180 :: t181 :: t182 :: t183 :: t184 :: t185 :: t186 :: t187 :: t188 :: t189 :: t190 :: t191 :: t192 :: t193 :: t194 :: t195 :: t196 :: t197 :: t198 :: t199 :: t200 :: t201 :: t202 :: t203 :: t204 :: t205 :: t206 :: t207 :: t208 :: t209 :: t210 :: t211 :: t212 :: t213 :: t214 :: t215 :: t216 :: t217 :: t218 :: t219 :: t220 :: t221 :: t222 :: t223 :: t224 :: t225 :: t226 :: t227 :: t228 :: t229 :: t230 :: t231 :: t232 :: t233 :: t234 :: t235 :: t236 :: t237 :: t238 :: t239 :: t240 :: t241 :: t242 :: t243 :: t244 :: t245 :: t246 :: t247 :: t248 :: t249 :: t250 :: t251 :: t252 :: t253 :: t254 :: t255 :: t256 :: t257 :: t258 :: t259 :: t260 :: t261 :: t262 :: t263 :: t264 :: t265 :: t266 :: t267 :: t268 :: t269 :: t270 :: t271 :: t272 :: t273 :: t274 :: t275 :: t276 :: t277 :: t278 :: t279 :: t280 :: t281 :: t282 :: t283 :: t284 :: t285 :: t286 :: t287 :: t288 :: t289 :: t290 :: t291 :: t292 :: t293 :: t294 :: t295 :: t296 :: t297 :: t298 :: t299 :: t300 :: t301 :: t302 :: t303 :: t304 :: t305 :: t306 :: t307 :: t308 :: t309 :: t310 :: t311 :: t312 :: t313 :: t314 :: t315 :: t316 :: t317 :: t318 :: t319 :: t320 :: t321 :: t322 :: t323 :: t324 :: t325 :: t326 :: t327 :: t328 :: t329 :: t330 :: t331 :: t332 :: t333 :: t334 :: t335 :: t336 :: t337 :: t338 :: [])), []⟩ w2 ∧ R (.exit 3) ⟨(List.toArray ((.int .u8 z : Value) :: (.slice (some ⟨g, off, none⟩) l.length lc : Value) :: t2 :: t3 :: t4 :: (.int .i64 n : Value) :: (.pointer (some ⟨B.db, 0, none⟩) : Value) :: (.pointer (some ⟨B.al, 0, none⟩) : Value) :: t8 :: t9 :: t10 :: t11 :: t12 :: (.pointer (some ⟨B.hb, 0, none⟩) : Value) :: (.pointer (some ⟨B.tb, 0, none⟩) : Value) :: (.pointer (some ⟨B.cb, 0, none⟩) : Value) :: (.pointer (some ⟨B.ib, 0, none⟩) : Value) :: (.int .i64 i : Value) :: t18 :: t19 :: t20 :: t21 :: t22 :: t23 :: t24 :: t25 :: t26 :: t27 :: t28 :: t29 :: t30 :: t31 :: t32 :: t33 :: t34 :: t35 :: t36 :: t37 :: t38 :: t39 :: t40 :: t41 :: t42 :: t43 :: t44 :: t45 :: t46 :: t47 :: t48 :: t49 :: t50 :: t51 :: t52 :: t53 :: t54 :: t55 :: t56 :: t57 :: t58 :: t59 :: t60 :: t61 :: t62 :: t63 :: t64 :: t65 :: t66 :: t67 :: t68 :: t69 :: t70 :: t71 :: t72 :: t73 :: t74 :: t75 :: t76 :: t77 :: t78 :: t79 :: t80 :: t81 :: t82 :: t83 :: t84 :: t85 :: t86 :: t87 :: t88 :: t89 :: t90 :: t91 :: t92 :: t93 :: t94 :: t95 :: t96 :: t97 :: t98 :: t99 :: t100 :: t101 :: t102 :: t103 :: t104 :: t105 :: t106 :: t107 :: t108 :: t109 :: t110 :: t111 :: t112 :: t113 :: t114 :: t115 :: t116 :: t117 :: t118 :: t119 :: t120 :: t121 :: t122 :: t123 :: t124 :: t125 :: t126 :: t127 :: t128 :: t129 :: t130 :: t131 :: t132 :: t133 :: t134 :: t135 :: t136 :: t137 :: t138 :: t139 :: t140 :: t141 :: t142 :: t143 :: t144 :: t145 :: t146 :: t147 :: t148 :: t149 :: t150 :: t151 :: t152 :: t153 :: t154 :: t155 :: t156 :: t157 :: t158 :: t159 :: t160 :: t161 :: t162 :: t163 :: t164 :: t165 :: t166 :: t167 :: t168 :: t169 :: t170 :: t171 :: t172 :: t173 :: t174 :: t175 :: t176 :: t177 :: t178 :: t179 :: t180 :: t181 :: t182 :: t183 :: t184 :: t185 :: t186 :: t187 :: t188 :: t189 :: t190 :: t191 :: t192 :: t193 :: t194 :: t195 :: t196 :: t197 :: t198 :: t199 :: t200 :: t201 :: t202 :: t203 :: t204 :: t205 :: t206 :: t207 :: t208 :: t209 :: t210 :: t211 :: t212 :: t213 :: t214 :: t215 :: t216 :: t217 :: t218 :: t219 :: t220 :: t221 :: t222 :: t223 :: t224 :: t225 :: t226 :: t227 :: t228 :: t229 :: t230 :: t231 :: t232 :: t233 :: t234 :: t235 :: t236 :: t237 :: t238 :: t239 :: t240 :: t241 :: t242 :: t243 :: t244 :: t245 :: t246 :: t247 :: t248 :: t249 :: t250 :: t251 :: t252 :: t253 :: t254 :: t255 :: t256 :: t257 :: t258 :: t259 :: t260 :: t261 :: t262 :: t263 :: t264 :: t265 :: t266 :: t267 :: t268 :: t269 :: t270 :: t271 :: t272 :: t273 :: t274 :: t275 :: t276 :: t277 :: t278 :: t279 :: t280 :: t281 :: t282 :: t283 :: t284 :: t285 :: t286 :: t287 :: t288 :: t289 :: t290 :: t291 :: t292 :: t293 :: t294 :: t295 :: t296 :: t297 :: t298 :: t299 :: t300 :: t301 :: t302 :: t303 :: t304 :: t305 :: t306 :: t307 :: t308 :: t309 :: t310 :: t311 :: t312 :: t313 :: t314 :: t315 :: t316 :: t317 :: t318 :: t319 :: t320 :: t321 :: t322 :: t323 :: t324 :: t325 :: t326 :: t327 :: t328 :: t329 :: t330 :: t331 :: t332 :: t333 :: t334 :: t335 :: t336 :: t337 :: t338 :: [])), []⟩ w2))
    (Hm5 : Hid (AgMem w n (i + 1) B f5 f5.ab vv S5 wc)) (Hp5 : Hid (PInv n S5)) (hfix : S5.fixed b s = true) (Hin : Hid (RecT.a ⟨s, b, S5.value b s⟩ ∈ (S5.rs k).take (S5.sn k))) (hI80 : (i : Int) < 80) (hI0 : (0 : Int) ≤ (i : Int)) (hbI : (b : Int) < 9) (hbI0 : (0 : Int) ≤ (b : Int)) (hkI : (k : Int) < 5) (hkI0 : (0 : Int) ≤ (k : Int)) (hsI : (s : Int) < 4) (hsI0 : (0 : Int) ≤ (s : Int)) (Hknb : Hid ((k < n ∧ n ≤ 5) ∧ (1 ≤ b ∧ b ≤ 8) ∧ (1 ≤ s ∧ s ≤ 3))) (Hkn : Hid (k < n)) (Hn5 : Hid (n ≤ 5)) (Hxn : Hid (∀ q, B.has q → q ≠ xB)) (Hxo : Hid (∀ k, k < n → ∀ q, f.own k q → q ≠ xB)) :
    agCount.wp Try.prog R ⟨(List.toArray ((.int .u8 z : Value) :: (.slice (some ⟨g, off, none⟩) l.length lc : Value) :: y2 :: y3 :: y4 :: (.int .i64 n : Value) :: (.pointer (some ⟨B.db, 0, none⟩) : Value) :: (.pointer (some ⟨B.al, 0, none⟩) : Value) :: y8 :: y9 :: y10 :: y11 :: y12 :: (.pointer (some ⟨B.hb, 0, none⟩) : Value) :: (.pointer (some ⟨B.tb, 0, none⟩) : Value) :: (.pointer (some ⟨B.cb, 0, none⟩) : Value) :: (.pointer (some ⟨B.ib, 0, none⟩) : Value) :: (.int .i64 i : Value) :: (.pointer (some ⟨xB, 0, none⟩) : Value) :: (.int .i64 k : Value) :: (.int .i64 b : Value) :: (.int .i64 s : Value) :: (.pointer (some ⟨B.hb, b * 18, none⟩) : Value) :: y23 :: y24 :: y25 :: y26 :: y27 :: y28 :: y29 :: y30 :: y31 :: y32 :: y33 :: y34 :: y35 :: y36 :: y37 :: y38 :: y39 :: y40 :: y41 :: y42 :: y43 :: y44 :: y45 :: y46 :: y47 :: y48 :: y49 :: y50 :: y51 :: y52 :: y53 :: y54 :: y55 :: y56 :: y57 :: y58 :: y59 :: y60 :: y61 :: y62 :: y63 :: y64 :: y65 :: y66 :: y67 :: y68 :: y69 :: y70 :: y71 :: y72 :: y73 :: y74 :: y75 :: y76 :: y77 :: y78 :: y79 :: y80 :: y81 :: y82 :: y83 :: y84 :: y85 :: y86 :: y87 :: y88 :: y89 :: y90 :: y91 :: y92 :: y93 :: y94 :: y95 :: y96 :: y97 :: y98 :: y99 :: y100 :: y101 :: y102 :: y103 :: y104 :: y105 :: y106 :: y107 :: y108 :: y109 :: y110 :: y111 :: y112 :: y113 :: y114 :: y115 :: y116 :: y117 :: y118 :: y119 :: y120 :: y121 :: y122 :: y123 :: y124 :: y125 :: y126 :: y127 :: y128 :: y129 :: y130 :: y131 :: y132 :: y133 :: y134 :: y135 :: y136 :: y137 :: y138 :: y139 :: y140 :: y141 :: y142 :: y143 :: y144 :: y145 :: y146 :: y147 :: y148 :: y149 :: y150 :: y151 :: y152 :: y153 :: y154 :: y155 :: y156 :: y157 :: y158 :: y159 :: y160 :: y161 :: y162 :: y163 :: y164 :: y165 :: y166 :: y167 :: y168 :: y169 :: y170 :: y171 :: y172 :: y173 :: y174 :: y175 :: y176 :: y177 :: y178 :: y179 :: y180 :: y181 :: y182 :: y183 :: y184 :: y185 :: y186 :: y187 :: y188 :: y189 :: y190 :: y191 :: y192 :: y193 :: y194 :: y195 :: y196 :: y197 :: y198 :: y199 :: y200 :: y201 :: y202 :: y203 :: y204 :: y205 :: y206 :: y207 :: y208 :: y209 :: y210 :: y211 :: y212 :: y213 :: y214 :: y215 :: y216 :: y217 :: y218 :: y219 :: y220 :: y221 :: y222 :: y223 :: y224 :: y225 :: y226 :: y227 :: y228 :: y229 :: y230 :: y231 :: y232 :: y233 :: y234 :: y235 :: y236 :: y237 :: y238 :: y239 :: y240 :: y241 :: y242 :: y243 :: y244 :: y245 :: y246 :: y247 :: y248 :: y249 :: y250 :: y251 :: y252 :: y253 :: y254 :: y255 :: y256 :: y257 :: y258 :: y259 :: y260 :: y261 :: y262 :: y263 :: y264 :: y265 :: y266 :: y267 :: y268 :: y269 :: y270 :: y271 :: y272 :: y273 :: y274 :: y275 :: y276 :: y277 :: y278 :: y279 :: y280 :: y281 :: y282 :: y283 :: y284 :: y285 :: y286 :: y287 :: y288 :: y289 :: y290 :: y291 :: y292 :: y293 :: y294 :: y295 :: y296 :: y297 :: y298 :: y299 :: y300 :: y301 :: y302 :: y303 :: y304 :: y305 :: y306 :: y307 :: y308 :: y309 :: y310 :: y311 :: y312 :: y313 :: y314 :: y315 :: y316 :: y317 :: y318 :: y319 :: y320 :: y321 :: y322 :: y323 :: y324 :: y325 :: y326 :: y327 :: y328 :: y329 :: y330 :: y331 :: y332 :: y333 :: y334 :: y335 :: y336 :: y337 :: y338 :: [])), []⟩ wc := by
  conv => arg 2; whnf
  have HpT := hid (Hp5.out.take b s k hfix Hin.out)
  have HmT := hid (Hm5.out.setTook b s k (ag_lt Hknb.out).1 (ag_lt Hknb.out).2.1 (ag_lt Hknb.out).2.2)
  obtain ⟨tcs5, htb5, htc5⟩ := Hm5.out.tc
  have t0 := htb5.cell _ (htc5.took b s k (ag_lt Hknb.out).1 (ag_lt Hknb.out).2.1 (ag_lt Hknb.out).2.2)
  have tf := htb5.free (b * 20 + s * 5 + k)
  clear htb5 htc5
  go_upto_region 44 with (fail)
  clear t0 tf Hm5 Hp5 Hin hfix
  obtain ⟨f6, S4, Hm6, Hp6⟩ : ∃ (f6 : Fam) (S4 : PS), Hid (AgMem w n (i + 1) B f6 f6.ab vv S4 (wc.setCell ⟨B.tb, b * 20 + s * 5 + k, none⟩ (.bool true))) ∧ Hid (PInv n S4) := ⟨_, _, HmT, HpT⟩
  clear HmT HpT
  generalize (wc.setCell ⟨B.tb, b * 20 + s * 5 + k, none⟩ (.bool true)) = w6 at *
  obtain ⟨tcs6, htb6, htc6⟩ := Hm6.out.tc
  have Htk : Hid (∀ q, q < 5 → w6.cell? ⟨B.tb, b * 20 + s * 5 + q, none⟩ = some (.bool (S4.took b s q))) := hid fun q hq => htb6.cell _ (htc6.took b s q (ag_lt Hknb.out).1 (ag_lt Hknb.out).2.1 hq)
  clear htb6 htc6
  go_wp2_with fail
  go_loop [29, 30] (fun v29 v30 => ∃ q : Nat, v30 = .int .i64 q ∧ q ≤ n ∧ v29 = .int .i64 (cntB q (S4.took b s))) (fun _ v30 => n - (intOf v30).toNat)
  case atStart => exact ⟨0, rfl, Nat.zero_le _, rfl⟩
  case round =>
    obtain ⟨q, rfl, hq, rfl⟩ := hrel
    have hle := cntB_le q (S4.took b s)
    have hq5 := Nat.le_trans hq Hn5.out
    by_cases hlt : q < n
    · have t1 := Htk.out q (Nat.lt_of_lt_of_le hlt Hn5.out)
      have hqI : (q : Int) < (n : Int) := Int.ofNat_lt.2 hlt
      have hqI0 : (0 : Int) ≤ (q : Int) := Int.natCast_nonneg q
      have hqI5 : (q : Int) < 5 := Int.ofNat_lt.2 (Nat.lt_of_lt_of_le hlt Hn5.out)
      have Hs := hid (cntB_succ q (S4.took b s))
      have hwq := ag_wrap (Nat.le_trans hq5 (by decide : 5 ≤ 1000000))
      have hwc := ag_wrap (Nat.le_trans (Nat.le_trans hle hq5) (by decide : 5 ≤ 1000000))
      cases hT : S4.took b s q with
      | true =>
        rw [hT] at t1 Hs
        clear hT
        go_wp2_with fail
        go_round
        case rel => exact ⟨q + 1, ag_num (by first | exact hwq | rfl), hlt, ag_cnt1 Hs.out (by first | exact hwc | rfl)⟩
        case measure => exact ag_meas hlt (by first | exact hwq | rfl)
      | false =>
        rw [hT] at t1 Hs
        clear hT
        go_wp2_with fail
        go_round
        case rel => exact ⟨q + 1, ag_num (by first | exact hwq | rfl), hlt, ag_cnt0 Hs.out⟩
        case measure => exact ag_meas hlt (by first | exact hwq | rfl)
    · obtain rfl : n = q := Nat.le_antisymm (Nat.le_of_not_lt hlt) hq
      have h2c := ag_two hle hq5
      have h2d := ag_two0 (cntB n (S4.took b s))
      have hw2 := ag_two_wrap hle hq5
      clear hle
      by_cases hmj : (n : Int) < 2 * (cntB n (S4.took b s) : Nat)
      · have hch := Hp6.out.choose b s (ag_maj hmj)
        have Hp7 := hid hch.2
        have hw : ∃ wq, w6 = wq := ⟨_, rfl⟩
        obtain ⟨ccs, ics, hcc, hic, hc2⟩ := Hm6.out.cc
        have ci := hic.cell s (hc2.is s (ag_lt Hknb.out).2.1)
        have cc0 := hcc.cell s (hc2.chosen s (ag_lt Hknb.out).2.1)
        obtain ⟨hcs6, hhb6, hhc6⟩ := Hm6.out.hc
        have hv6 := hhb6.cell _ (hhc6.value b s (ag_lt Hknb.out).1 (ag_lt Hknb.out).2.1)
        have Hch := hid hch.1
        clear hch hcc hic hc2 hhb6 hhc6 hw Htk
        go_upto_region 51 with (fail)
        go_cut [327] from 313 to 327 (fun v327 wx => v327 = .bool false ∧ Chg No w6 wx)
        case first =>
          by_cases his : S4.is s = true
          · have hce := Hch.out his
            rw [his] at ci
            rw [hce] at cc0
            clear hce his
            go_quiet (fail)
            go_wp2_with fail
            go_meet
            case rel => exact ⟨by simp, (Chg.refl _ _).drewN _⟩
          · rw [ag_ff his] at ci
            clear his
            go_quiet (fail)
            go_wp2_with fail
            go_meet
            case rel => exact ⟨rfl, (Chg.refl _ _).drewN _⟩
        case rest =>
          obtain ⟨rfl, hcx⟩ := hcut
          have Hm7 := hid (Hm6.out.same hcx)
          clear ci cc0 hv6 hcx Hm6
          obtain ⟨ccs, ics, hcc, hic, hc2⟩ := Hm7.out.cc
          have ci := hic.cell s (hc2.is s (ag_lt Hknb.out).2.1)
          have cc0 := hcc.cell s (hc2.chosen s (ag_lt Hknb.out).2.1)
          have cif := hic.free s
          have ccf := hcc.free s
          obtain ⟨hcs6, hhb6, hhc6⟩ := Hm7.out.hc
          have hv6 := hhb6.cell _ (hhc6.value b s (ag_lt Hknb.out).1 (ag_lt Hknb.out).2.1)
          have hne1 := ag_ne Hm7.out.ord
          have Hm8 := hid (Hm7.out.setChosen s (ag_lt Hknb.out).2.1 (S4.value b s))
          clear hcc hic hc2 hhb6 hhc6
          obtain ⟨hne1, hne2, hne3⟩ := hne1
          go_upto_region 53 with (fail)
          go_region
          all_goals go_wp2_with fail
          all_goals exact (hR.out _ _ _ _ _ _ _ _ _ _ _ _ _ _ _ _ _ _ _ _ _ _ _ _ _ _ _ _ _ _ _ _ _ _ _ _ _ _ _ _ _ _ _ _ _ _ _ _ _ _ _ _ _ _ _ _ _ _ _ _ _ _ _ _ _ _ _ _ _ _ _ _ _ _ _ _ _ _ _ _ _ _ _ _ _ _ _ _ _ _ _ _ _ _ _ _ _ _ _ _ _ _ _ _ _ _ _ _ _ _ _ _ _ _ _ _ _ _ _ _ _ _ _ _ _ _ _ _ _ _ _ _ _ _ _ _ _ _ _ _ _ _ _ _ _ _ _ _ _ _ _ _ _ _ _ _ _ _ _ _ _ _ _ _ _ _ _ _ _ _ _ _ _ _ _ _ _ _ _ _ _ _ _ _ _ _ _ _ _ _ _ _ _ _ _ _ _ _ _ _ _ _ _ _ _ _ _ _ _ _ _ _ _ _ _ _ _ _ _ _ _ _ _ _ _ _ _ _ _ _ _ _ _ _ _ _ _ _ _ _ _ _ _ _ _ _ _ _ _ _ _ _ _ _ _ _ _ _ _ _ _ _ _ _ _ _ _ _ _ _ _ _ _ _ _ _ _ _ _ _ _ _ _ _ _ _ _ _ _ _ _ _ _ _ _ _ _ _ _ _ _ _ _ _ _ _ _ _ _ _ _ _ _ _ _ _ _ _ _ _ _ _ _ _ _ _ _ _ _ _ _ _ _ (Hm8.out.same ((Chg.refl No _).drew)) Hp7.out).1
      · clear Htk
        go_wp2_with fail
        exact (hR.out _ _ _ _ _ _ _ _ _ _ _ _ _ _ _ _ _ _ _ _ _ _ _ _ _ _ _ _ _ _ _ _ _ _ _ _ _ _ _ _ _ _ _ _ _ _ _ _ _ _ _ _ _ _ _ _ _ _ _ _ _ _ _ _ _ _ _ _ _ _ _ _ _ _ _ _ _ _ _ _ _ _ _ _ _ _ _ _ _ _ _ _ _ _ _ _ _ _ _ _ _ _ _ _ _ _ _ _ _ _ _ _ _ _ _ _ _ _ _ _ _ _ _ _ _ _ _ _ _ _ _ _ _ _ _ _ _ _ _ _ _ _ _ _ _ _ _ _ _ _ _ _ _ _ _ _ _ _ _ _ _ _ _ _ _ _ _ _ _ _ _ _ _ _ _ _ _ _ _ _ _ _ _ _ _ _ _ _ _ _ _ _ _ _ _ _ _ _ _ _ _ _ _ _ _ _ _ _ _ _ _ _ _ _ _ _ _ _ _ _ _ _ _ _ _ _ _ _ _ _ _ _ _ _ _ _ _ _ _ _ _ _ _ _ _ _ _ _ _ _ _ _ _ _ _ _ _ _ _ _ _ _ _ _ _ _ _ _ _ _ _ _ _ _ _ _ _ _ _ _ _ _ _ _ _ _ _ _ _ _ _ _ _ _ _ _ _ _ _ _ _ _ _ _ _ _ _ _ _ _ _ _ _ _ _ _ _ _ _ _ _ _ _ _ _ _ _ _ _ _ _ _ _ Hm6.out Hp6.out).1
end Go.Proofs.Ytfmcfcjcmmlmfaa

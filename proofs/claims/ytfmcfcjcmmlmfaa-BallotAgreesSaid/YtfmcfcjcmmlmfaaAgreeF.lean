/- BallotAgrees: a value is fixed. -/
import Derived.Test.YtfmcfcjcmmlmfaaAgreeH
namespace Go.Proofs.Ytfmcfcjcmmlmfaa
open Go Go.RowKit Go.Maps
set_option linter.unusedVariables false

set_option maxRecDepth 1000000 in
set_option maxHeartbeats 40000000 in
theorem ag_first (w : World) (z : Int) (l : List StepT) (g off lc n i : Nat) (B : AgB) (f : Fam) (vv : Nat → Nat → Value) (S : PS) (xB k b s : Nat) (xa xb xs xkeep : Int) (w' : World) (y2 y3 y4 y8 y9 y10 y11 y12 y23 y24 y25 y26 y27 y28 y29 y30 y31 y32 y33 y34 y35 y36 y37 y38 y39 y40 y41 y42 y43 y44 y45 y46 y47 y48 y49 y50 y51 y52 y53 y54 y55 y56 y57 y58 y59 y60 y61 y62 y63 y64 y65 y66 y67 y68 y69 y70 y71 y72 y73 y74 y75 y76 y77 y78 y79 y80 y81 y82 y83 y84 y85 y86 y87 y88 y89 y90 y91 y92 y93 y94 y95 y96 y97 y98 y99 y100 y101 y102 y103 y104 y105 y106 y107 y108 y109 y110 y111 y112 y113 y114 y115 y116 y117 y118 y119 y120 y121 y122 y123 y124 y125 y126 y127 y128 y129 y130 y131 y132 y133 y134 y135 y136 y137 y138 y139 y140 y141 y142 y143 y144 y145 y146 y147 y148 y149 y150 y151 y152 y153 y154 y155 y156 y157 y158 y159 y160 y161 y162 y163 y164 y165 y166 y167 y168 y169 y170 y171 y172 y173 y174 y175 y176 y177 y178 y179 y180 y181 y182 y183 y184 y185 y186 y187 y188 y190 y191 y192 y193 y194 y195 y196 y197 y198 y199 y200 y201 y202 y203 y204 y205 y206 y207 y208 y209 y210 y211 y212 y213 y214 y215 y216 y217 y218 y219 y220 y221 y222 y223 y224 y225 y226 y227 y228 y229 y230 y231 y232 y233 y234 y235 y236 y237 y238 y239 y240 y241 y242 y243 y244 y245 y246 y247 y248 y249 y250 y251 y252 y253 y254 y255 y256 y257 y258 y259 y260 y261 y262 y263 y264 y265 y266 y267 y268 y269 y270 y271 y272 y273 y274 y275 y276 y277 y278 y279 y280 y281 y282 y283 y284 y285 y286 y287 y288 y289 y290 y291 y292 y293 y294 y295 y296 y297 y298 y299 y300 y301 y302 y303 y304 y305 y306 y307 y308 y309 y310 y311 y312 y313 y314 y315 y316 y317 y318 y319 y320 y321 y322 y323 y324 y325 y326 y327 y328 y329 y330 y331 y332 y333 y334 y335 y336 y337 y338 : Value) (R : Exit → Act → World → Prop)
    (hR : Hid (∀ (t2 t3 t4 t8 t9 t10 t11 t12 t23 t24 t25 t26 t27 t28 t29 t30 t31 t32 t33 t34 t35 t36 t37 t38 t39 t40 t41 t42 t43 t44 t45 t46 t47 t48 t49 t50 t51 t52 t53 t54 t55 t56 t57 t58 t59 t60 t61 t62 t63 t64 t65 t66 t67 t68 t69 t70 t71 t72 t73 t74 t75 t76 t77 t78 t79 t80 t81 t82 t83 t84 t85 t86 t87 t88 t89 t90 t91 t92 t93 t94 t95 t96 t97 t98 t99 t100 t101 t102 t103 t104 t105 t106 t107 t108 t109 t110 t111 t112 t113 t114 t115 t116 t117 t118 t119 t120 t121 t122 t123 t124 t125 t126 t127 t128 t129 t130 t131 t132 t133 t134 t135 t136 t137 t138 t139 t140 t141 t142 t143 t144 t145 t146 t147 t148 t149 t150 t151 t152 t153 t154 t155 t156 t157 t158 t159 t160 t161 t162 t163 t164 t165 t166 t167 t168 t169 t170 t171 t172 t173 t174 t175 t176 t177 t178 t179 t180 t181 t182 t183 t184 t185 t186 t187 t188 t189 t190 t191 t192 t193 t194 t195 t196 t197 t198 t199 t200 t201 t202 t203 t204 t205 t206 t207 t208 t209 t210 t211 t212 t213 t214 t215 t216 t217 t218 t219 t220 t221 t222 t223 t224 t225 t226 t227 t228 t229 t230 t231 t232 t233 t234 t235 t236 t237 t238 t239 t240 t241 t242 t243 t244 t245 t246 t247 t248 t249 t250 t251 t252 t253 t254 t255 t256 t257 t258 t259 t260 t261 t262 t263 t264 t265 t266 t267 t268 t269 t270 t271 t272 t273 t274 t275 t276 t277 t278 t279 t280 t281 t282 t283 t284 t285 t286 t287 t288 t289 t290 t291 t292 t293 t294 t295 t296 t297 t298 t299 t300 t301 t302 t303 t304 t305 t306 t307 t308 t309 t310 t311 t312 t313 t314 t315 t316 t317 t318 t319 t320 t321 t322 t323 t324 t325 t326 t327 t328 t329 t330 t331 t332 t333 t334 t335 t336 t337 t338 : Value) (wx : World), AgMid w n i B f vv b s xB xkeep wx → R .normal ⟨(List.toArray ((.int .u8 z : Value) :: (.slice (some ⟨g, off, none⟩) l.length lc : Value) :: t2 :: t3 :: t4 :: (.int .i64 n : Value) :: (.pointer (some ⟨B.db, 0, none⟩) : Value) :: (.pointer (some ⟨B.al, 0, none⟩) : Value) :: t8 :: t9 :: t10 :: t11 :: t12 :: (.pointer (some ⟨B.hb, 0, none⟩) : Value) :: (.pointer (some ⟨B.tb, 0, none⟩) : Value) :: (.pointer (some ⟨B.cb, 0, none⟩) : Value) :: (.pointer (some ⟨B.ib, 0, none⟩) : Value) :: (.int .i64 i : Value) :: (.pointer (some ⟨xB, 0, none⟩) : Value) :: (.int .i64 k : Value) :: (.int .i64 b : Value) :: (.int .i64 s : Value) :: (.pointer (some ⟨B.hb, b * 18, none⟩) : Value) :: t23 :: t24 :: t25 :: t26 :: t27 :: t28 :: t29 :: t30 :: t31 :: t32 :: t33 :: t34 :: t35 :: t36 :: t37 :: t38 :: t39 :: t40 :: t41 :: t42 :: t43 :: t44 :: t45 :: t46 :: t47 :: t48 :: t49 :: t50 :: t51 :: t52 :: t53 :: t54 :: t55 :: t56 :: t57 :: t58 :: t59 :: t60 :: t61 :: t62 :: t63 :: t64 :: t65 :: t66 :: t67 :: t68 :: t69 :: t70 :: t71 :: t72 :: t73 :: t74 :: t75 :: t76 :: t77 :: t78 :: t79 :: t80 :: t81 :: t82 :: t83 :: t84 :: t85 :: t86 :: t87 :: t88 :: t89 :: t90 :: t91 :: t92 :: t93 :: t94 :: t95 :: t96 :: t97 :: t98 :: t99 :: t100 :: t101 :: t102 :: t103 :: t104 :: t105 :: t106 :: t107 :: t108 :: t109 :: t110 :: t111 :: t112 :: t113 :: t114 :: t115 :: t116 :: t117 :: t118 :: t119 :: t120 :: t121 :: t122 :: t123 :: t124 :: t125 :: t126 :: t127 :: t128 :: t129 :: t130 :: t131 :: t132 :: t133 :: t134 :: t135 :: t136 :: t137 :: t138 :: t139 :: t140 :: t141 :: t142 :: t143 :: t144 :: t145 :: t146 :: t147 :: t148 :: t149 :: t150 :: t151 :: t152 :: t153 :: t154 :: t155 :: t156 :: t157 :: t158 :: t159 :: t160 :: t161 :: t162 :: t163 :: t164 :: t165 :: t166 :: t167 :: t168 :: t169 :: t170 :: t171 :: t172 :: t173 :: t174 :: t175 :: t176 :: t177 :: t178 :: t179 :: t180 :: t181 :: t182 :: t183 :: t184 :: t185 :: t186 :: t187 :: t188 :: t189 :: t190 :: t191 :: t192 :: t193 :: t194 :: t195 :: t196 :: t197 :: t198 :: t199 :: t200 :: t201 :: t202 :: t203 :: t204 :: t205 :: t206 :: t207 :: t208 :: t209 :: t210 :: t211 :: t212 :: t213 :: t214 :: t215 :: t216 :: t217 :: t218 :: t219 :: t220 :: t221 :: t222 :: t223 :: t224 :: t225 :: t226 :: t227 :: t228 :: t229 :: t230 :: t231 :: t232 :: t233 :: t234 :: t235 :: t236 :: t237 :: t238 :: t239 :: t240 :: t241 :: t242 :: t243 :: t244 :: t245 :: t246 :: t247 :: t248 :: t249 :: t250 :: t251 :: t252 :: t253 :: t254 :: t255 :: t256 :: t257 :: t258 :: t259 :: t260 :: t261 :: t262 :: t263 :: t264 :: t265 :: t266 :: t267 :: t268 :: t269 :: t270 :: t271 :: t272 :: t273 :: t274 :: t275 :: t276 :: t277 :: t278 :: t279 :: t280 :: t281 :: t282 :: t283 :: t284 :: t285 :: t286 :: t287 :: t288 :: t289 :: t290 :: t291 :: t292 :: t293 :: t294 :: t295 :: t296 :: t297 :: t298 :: t299 :: t300 :: t301 :: t302 :: t303 :: t304 :: t305 :: t306 :: t307 :: t308 :: t309 :: t310 :: t311 :: t312 :: t313 :: t314 :: t315 :: t316 :: t317 :: t318 :: t319 :: t320 :: t321 :: t322 :: t323 :: t324 :: t325 :: t326 :: t327 :: t328 :: t329 :: t330 :: t331 :: t332 :: t333 :: t334 :: t335 :: t336 :: t337 :: t338 :: [])), []⟩ wx))
    (Hmem : Hid (AgMem w n i B f f.ab vv S w')) (Hinv : Hid (PInv n S)) (Hx : Hid (Blk w' xB #[.int .u8 1, .int .u8 xa, .int .u8 xb, .int .u8 xs, .int .i64 xkeep] 69)) (hmj2 : (n : Int) < 2 * (cntB 5 (S.said b) : Nat)) (hI80 : (i : Int) < 80) (hI0 : (0 : Int) ≤ (i : Int)) (hbI : (b : Int) < 9) (hbI0 : (0 : Int) ≤ (b : Int)) (hkI : (k : Int) < 5) (hkI0 : (0 : Int) ≤ (k : Int)) (hsI : (s : Int) < 4) (hsI0 : (0 : Int) ≤ (s : Int)) (Hknb : Hid ((k < n ∧ n ≤ 5) ∧ (1 ≤ b ∧ b ≤ 8) ∧ (1 ≤ s ∧ s ≤ 3))) (Hkn : Hid (k < n)) (Hn5 : Hid (n ≤ 5)) (Hxn : Hid (∀ q, B.has q → q ≠ xB)) (Hxo : Hid (∀ k, k < n → ∀ q, f.own k q → q ≠ xB)) :
    agIf.wp Try.prog R ⟨(List.toArray ((.int .u8 z : Value) :: (.slice (some ⟨g, off, none⟩) l.length lc : Value) :: y2 :: y3 :: y4 :: (.int .i64 n : Value) :: (.pointer (some ⟨B.db, 0, none⟩) : Value) :: (.pointer (some ⟨B.al, 0, none⟩) : Value) :: y8 :: y9 :: y10 :: y11 :: y12 :: (.pointer (some ⟨B.hb, 0, none⟩) : Value) :: (.pointer (some ⟨B.tb, 0, none⟩) : Value) :: (.pointer (some ⟨B.cb, 0, none⟩) : Value) :: (.pointer (some ⟨B.ib, 0, none⟩) : Value) :: (.int .i64 i : Value) :: (.pointer (some ⟨xB, 0, none⟩) : Value) :: (.int .i64 k : Value) :: (.int .i64 b : Value) :: (.int .i64 s : Value) :: (.pointer (some ⟨B.hb, b * 18, none⟩) : Value) :: y23 :: y24 :: y25 :: y26 :: y27 :: y28 :: y29 :: y30 :: y31 :: y32 :: y33 :: y34 :: y35 :: y36 :: y37 :: y38 :: y39 :: y40 :: y41 :: y42 :: y43 :: y44 :: y45 :: y46 :: y47 :: y48 :: y49 :: y50 :: y51 :: y52 :: y53 :: y54 :: y55 :: y56 :: y57 :: y58 :: y59 :: y60 :: y61 :: y62 :: y63 :: y64 :: y65 :: y66 :: y67 :: y68 :: y69 :: y70 :: y71 :: y72 :: y73 :: y74 :: y75 :: y76 :: y77 :: y78 :: y79 :: y80 :: y81 :: y82 :: y83 :: y84 :: y85 :: y86 :: y87 :: y88 :: y89 :: y90 :: y91 :: y92 :: y93 :: y94 :: y95 :: y96 :: y97 :: y98 :: y99 :: y100 :: y101 :: y102 :: y103 :: y104 :: y105 :: y106 :: y107 :: y108 :: y109 :: y110 :: y111 :: y112 :: y113 :: y114 :: y115 :: y116 :: y117 :: y118 :: y119 :: y120 :: y121 :: y122 :: y123 :: y124 :: y125 :: y126 :: y127 :: y128 :: y129 :: y130 :: y131 :: y132 :: y133 :: y134 :: y135 :: y136 :: y137 :: y138 :: y139 :: y140 :: y141 :: y142 :: y143 :: y144 :: y145 :: y146 :: y147 :: y148 :: y149 :: y150 :: y151 :: y152 :: y153 :: y154 :: y155 :: y156 :: y157 :: y158 :: y159 :: y160 :: y161 :: y162 :: y163 :: y164 :: y165 :: y166 :: y167 :: y168 :: y169 :: y170 :: y171 :: y172 :: y173 :: y174 :: y175 :: y176 :: y177 :: y178 :: y179 :: y180 :: y181 :: y182 :: y183 :: y184 :: y185 :: y186 :: y187 :: y188 :: (.bool (!S.fixed b s) : Value) :: y190 :: y191 :: y192 :: y193 :: y194 :: y195 :: y196 :: y197 :: y198 :: y199 :: y200 :: y201 :: y202 :: y203 :: y204 :: y205 :: y206 :: y207 :: y208 :: y209 :: y210 :: y211 :: y212 :: y213 :: y214 :: y215 :: y216 :: y217 :: y218 :: y219 :: y220 :: y221 :: y222 :: y223 :: y224 :: y225 :: y226 :: y227 :: y228 :: y229 :: y230 :: y231 :: y232 :: y233 :: y234 :: y235 :: y236 :: y237 :: y238 :: y239 :: y240 :: y241 :: y242 :: y243 :: y244 :: y245 :: y246 :: y247 :: y248 :: y249 :: y250 :: y251 :: y252 :: y253 :: y254 :: y255 :: y256 :: y257 :: y258 :: y259 :: y260 :: y261 :: y262 :: y263 :: y264 :: y265 :: y266 :: y267 :: y268 :: y269 :: y270 :: y271 :: y272 :: y273 :: y274 :: y275 :: y276 :: y277 :: y278 :: y279 :: y280 :: y281 :: y282 :: y283 :: y284 :: y285 :: y286 :: y287 :: y288 :: y289 :: y290 :: y291 :: y292 :: y293 :: y294 :: y295 :: y296 :: y297 :: y298 :: y299 :: y300 :: y301 :: y302 :: y303 :: y304 :: y305 :: y306 :: y307 :: y308 :: y309 :: y310 :: y311 :: y312 :: y313 :: y314 :: y315 :: y316 :: y317 :: y318 :: y319 :: y320 :: y321 :: y322 :: y323 :: y324 :: y325 :: y326 :: y327 :: y328 :: y329 :: y330 :: y331 :: y332 :: y333 :: y334 :: y335 :: y336 :: y337 :: y338 :: [])), []⟩ w' := by
  conv => arg 2; whnf
  obtain ⟨hcs, hhb, hhc⟩ := Hmem.out.hc
  have Hhb := hid hhb
  have Hhc := hid hhc
  have h0 := hhb.cell _ (hhc.fixed b s (ag_lt Hknb.out).1 (ag_lt Hknb.out).2.1)
  have hfr := hhb.free (b * 18 + 10 + s)
  clear hhb hhc
  have hmid : Hid (∀ wx, AgMem w n i B f f.ab vv S wx → Blk wx xB #[.int .u8 1, .int .u8 xa, .int .u8 xb, .int .u8 xs, .int .i64 xkeep] 69 → S.fixed b s = true → AgMid w n i B f vv b s xB xkeep wx) := hid fun wx h1 h2 h3 => ⟨S, xa, xb, xs, h1, Hinv.out, h3, h2⟩
  by_cases hfx : S.fixed b s = true
  · rw [hfx]
    clear h0 hfr
    go_wp2_with fail
    exact hR.out _ _ _ _ _ _ _ _ _ _ _ _ _ _ _ _ _ _ _ _ _ _ _ _ _ _ _ _ _ _ _ _ _ _ _ _ _ _ _ _ _ _ _ _ _ _ _ _ _ _ _ _ _ _ _ _ _ _ _ _ _ _ _ _ _ _ _ _ _ _ _ _ _ _ _ _ _ _ _ _ _ _ _ _ _ _ _ _ _ _ _ _ _ _ _ _ _ _ _ _ _ _ _ _ _ _ _ _ _ _ _ _ _ _ _ _ _ _ _ _ _ _ _ _ _ _ _ _ _ _ _ _ _ _ _ _ _ _ _ _ _ _ _ _ _ _ _ _ _ _ _ _ _ _ _ _ _ _ _ _ _ _ _ _ _ _ _ _ _ _ _ _ _ _ _ _ _ _ _ _ _ _ _ _ _ _ _ _ _ _ _ _ _ _ _ _ _ _ _ _ _ _ _ _ _ _ _ _ _ _ _ _ _ _ _ _ _ _ _ _ _ _ _ _ _ _ _ _ _ _ _ _ _ _ _ _ _ _ _ _ _ _ _ _ _ _ _ _ _ _ _ _ _ _ _ _ _ _ _ _ _ _ _ _ _ _ _ _ _ _ _ _ _ _ _ _ _ _ _ _ _ _ _ _ _ _ _ _ _ _ _ _ _ _ _ _ _ _ _ _ _ _ _ _ _ _ _ _ _ _ _ _ _ _ _ _ _ _ _ _ _ _ _ _ _ (hmid.out _ Hmem.out Hx.out hfx)
  · have hff : S.fixed b s = false := by simpa using hfx
    rw [hff]
    have h1 := Hhb.out.cell _ (Hhc.out.value b s (by have := Hknb.out; omega) (by have := Hknb.out; omega))
    have hfr2 := Hhb.out.free (b * 18 + 14 + s)
    have hlt := Hhb.out.lt
    have hne : B.hb ≠ w'.heap.size := by omega
    have hnb := Blk.new w' #[.int .u8 (48 + (b : Int)), .int .u8 32, .int .u8 (48 + (i : Int) % 10)] 5
    have hnb2 := hnb.kept ((Chg.refl No _).drew) (fun h => h)
    obtain ⟨n0, n1, n2, -⟩ := hnb2.c3
    have hcv : (convert 72 9 (.slice (some ⟨w'.heap.size, 0, none⟩) 3 3)).run Try.prog ((w'.alloc (.cells #[.int .u8 (48 + (b : Int)), .int .u8 32, .int .u8 (48 + (i : Int) % 10)] 5)).drew) = .ok (.string ⟨[UInt8.ofNat (48 + b), 32, UInt8.ofNat (48 + i % 10)].toArray⟩) ((w'.alloc (.cells #[.int .u8 (48 + (b : Int)), .int .u8 32, .int .u8 (48 + (i : Int) % 10)] 5)).drew) := by
      have := run_convert_bytes_back (P := Try.prog) ((w'.alloc (.cells #[.int .u8 (48 + (b : Int)), .int .u8 32, .int .u8 (48 + (i : Int) % 10)] 5)).drew) 72 9 5 ⟨w'.heap.size, 0, none⟩ 3 [UInt8.ofNat (48 + b), 32, UInt8.ofNat (48 + i % 10)] uBytes uU8 uString (fun j hj => by
        have hj3 : j = 0 ∨ j = 1 ∨ j = 2 := by simp at hj; omega
        rcases hj3 with rfl | rfl | rfl
        · refine n0.trans ?_
          show some (Value.int .u8 (48 + (b : Int))) = some (.int .u8 ((UInt8.ofNat (48 + b)).toNat : Int))
          rw [UInt8.toNat_ofNat_of_lt' (by have := Hknb.out; show 48 + b < 256; omega)]
          simp
        · exact n1
        · refine n2.trans ?_
          show some (Value.int .u8 (48 + (i : Int) % 10)) = some (.int .u8 ((UInt8.ofNat (48 + i % 10)).toNat : Int))
          rw [UInt8.toNat_ofNat_of_lt' (by show 48 + i % 10 < 256; omega)]
          simp)
      exact this
    have e1 : IntKind.u8.wrap (48 + IntKind.u8.wrap (b : Int)) = 48 + (b : Int) := by
      have := Hknb.out
      rw [IntKind.wrap_u8, IntKind.wrap_u8]; omega
    have e2 : IntKind.u8.wrap (48 + IntKind.u8.wrap ((i : Int).tmod 10)) = 48 + (i : Int) % 10 := by
      have e : (i : Int).tmod 10 = (i : Int) % 10 := Int.tmod_eq_emod_of_nonneg (by omega)
      rw [e, IntKind.wrap_u8, IntKind.wrap_u8]; omega
    rw [← e1, ← e2] at hcv
    clear hnb hnb2 n0 n1 n2 e1 e2
    go_wp2_with fail
    
    refine wp_region_noPanic ?_
    go_region_law (fail)
    refine NoPanic.normal ?_
    generalize (({ data := #[118, 97, 108, 117, 101, 32] } : ByteArray) ++ { data := #[48 + UInt8.ofNat b, 32, 48 + UInt8.ofNat (i % 10)] }) = own
    have hknb := Hknb.out
    have hm4 := ((Hmem.out.setFixed b s (by omega) (by omega) true).setValue b s (by omega) (by omega) own)
    have hc4 : Chg No _ ((((w'.setCell ⟨B.hb, b * 18 + 10 + s, none⟩ (.bool true)).setCell ⟨B.hb, b * 18 + 14 + s, none⟩ (.string own)).alloc (.cells #[.int .u8 (IntKind.u8.wrap (48 + IntKind.u8.wrap (b : Int))), .int .u8 32, .int .u8 (IntKind.u8.wrap (48 + IntKind.u8.wrap ((i : Int).tmod 10)))] 5)).drew) := (((Chg.refl _ ((w'.setCell ⟨B.hb, b * 18 + 10 + s, none⟩ (.bool true)).setCell ⟨B.hb, b * 18 + 14 + s, none⟩ (.string own))).alloc _).drew)
    have Hm4 := hid (hm4.same hc4)
    have hx4 := ((Hx.out.setOther (p := ⟨B.hb, b * 18 + 10 + s, none⟩) (Ne.symm (Hxn.out B.hb (.inr (.inr (.inl rfl))))) (.bool true)).setOther (p := ⟨B.hb, b * 18 + 14 + s, none⟩) (Ne.symm (Hxn.out B.hb (.inr (.inr (.inl rfl))))) (.string own)).kept hc4 (fun h => h)
    have Hx4 := hid hx4
    clear hm4 hc4 hx4 hknb hcv hlt hne h0 hfr h1 hfr2
    generalize ((((w'.setCell ⟨B.hb, b * 18 + 10 + s, none⟩ (.bool true)).setCell ⟨B.hb, b * 18 + 14 + s, none⟩ (.string own)).alloc (.cells #[.int .u8 (IntKind.u8.wrap (48 + IntKind.u8.wrap (b : Int))), .int .u8 32, .int .u8 (IntKind.u8.wrap (48 + IntKind.u8.wrap ((i : Int).tmod 10)))] 5)).drew) = w4 at *
    obtain ⟨hcs4, hhb4, hhc4⟩ := Hm4.out.hc
    have hknb := Hknb.out
    have hrw := fun j (hj : j < 5) => Hm4.out.vrow b j (by omega) hj
    have hvl := fun j (hj : j < 5) => Hm4.out.vlen b j (by omega) hj
    have hc0 := hhb4.cell _ (hhc4.vote b 0 (by omega) (by omega))
    have hc1 := hhb4.cell _ (hhc4.vote b 1 (by omega) (by omega))
    have hc2' := hhb4.cell _ (hhc4.vote b 2 (by omega) (by omega))
    have hc3 := hhb4.cell _ (hhc4.vote b 3 (by omega) (by omega))
    have hc4 := hhb4.cell _ (hhc4.vote b 4 (by omega) (by omega))
    have hr0 := hrw 0 (by omega)
    have hr1 := hrw 1 (by omega)
    have hr2 := hrw 2 (by omega)
    have hr3 := hrw 3 (by omega)
    have hr4 := hrw 4 (by omega)
    obtain ⟨a0, c0, e0, -⟩ := Row.cells hr0
    obtain ⟨a1, c1, e1, -⟩ := Row.cells hr1
    obtain ⟨a2, c2, e2, -⟩ := Row.cells hr2
    obtain ⟨a3, c3, e3, -⟩ := Row.cells hr3
    obtain ⟨a4, c4, e4, -⟩ := Row.cells hr4
    rw [e0] at hc0 hr0
    rw [e1] at hc1 hr1
    rw [e2] at hc2' hr2
    rw [e3] at hc3 hr3
    rw [e4] at hc4 hr4
    have hvs : (S.vt b 0).length ≤ i ∧ (S.vt b 1).length ≤ i ∧ (S.vt b 2).length ≤ i ∧ (S.vt b 3).length ≤ i ∧ (S.vt b 4).length ≤ i := ⟨hvl 0 (by omega), hvl 1 (by omega), hvl 2 (by omega), hvl 3 (by omega), hvl 4 (by omega)⟩
    have hV := five_seen w4 S b _ _ _ _ _ (hr0.seen (by show (S.vt b 0).length ≤ _; omega)) (hr1.seen (by show (S.vt b 1).length ≤ _; omega)) (hr2.seen (by show (S.vt b 2).length ≤ _; omega)) (hr3.seen (by show (S.vt b 3).length ≤ _; omega)) (hr4.seen (by show (S.vt b 4).length ≤ _; omega))
    have hP := hid (pick_ok _ _ _ hV (by simp only [fiveL, List.flatten_cons, List.flatten_nil, List.length_append, List.length_nil]; omega) (fun x hx => Hinv.out.slots Hn5.out x hx))
    have hcA : Chg No w4 (w4.drew.alloc (.cells #[.slice a0 (S.vt b 0).length c0, .slice a1 (S.vt b 1).length c1, .slice a2 (S.vt b 2).length c2, .slice a3 (S.vt b 3).length c3, .slice a4 (S.vt b 4).length c4] 23)) := ((Chg.refl No w4).drew).alloc _
    have HcA := hid hcA
    have hS : ∀ W, Chg No w4 W → W.cell? ⟨B.hb, b * 18 + 5 + 0, none⟩ = some (.slice a0 (S.vt b 0).length c0) ∧ W.cell? ⟨B.hb, b * 18 + 5 + 1, none⟩ = some (.slice a1 (S.vt b 1).length c1) ∧ W.cell? ⟨B.hb, b * 18 + 5 + 2, none⟩ = some (.slice a2 (S.vt b 2).length c2) ∧ W.cell? ⟨B.hb, b * 18 + 5 + 3, none⟩ = some (.slice a3 (S.vt b 3).length c3) ∧ W.cell? ⟨B.hb, b * 18 + 5 + 4, none⟩ = some (.slice a4 (S.vt b 4).length c4) :=
      fun W h => ⟨h.cellN hc0, h.cellN hc1, h.cellN hc2', h.cellN hc3, h.cellN hc4⟩
    have HS5 := hid hS
    have Hvs := hid hvs
    clear hV hrw hvl hvs hr0 hr1 hr2 hr3 hr4 e0 e1 e2 e3 e4 hhb4 hhc4 hknb hcA hS
    go_upto_region 36 with (fail)
    go_region_held3 (fun W => W.cell? ⟨B.hb, b * 18 + 5 + 0, none⟩ = some (.slice a0 (S.vt b 0).length c0) ∧ W.cell? ⟨B.hb, b * 18 + 5 + 1, none⟩ = some (.slice a1 (S.vt b 1).length c1) ∧ W.cell? ⟨B.hb, b * 18 + 5 + 2, none⟩ = some (.slice a2 (S.vt b 2).length c2) ∧ W.cell? ⟨B.hb, b * 18 + 5 + 3, none⟩ = some (.slice a3 (S.vt b 3).length c3) ∧ W.cell? ⟨B.hb, b * 18 + 5 + 4, none⟩ = some (.slice a4 (S.vt b 4).length c4))
      (first
        | exact HS5.out _ ((Chg.refl _ _).drew)
        | exact HS5.out _ Hc5.out
        | exact HS5.out _ HcA.out)
      (first
        | (go_at_call 8
           refine hP.out.mono ?_
           rintro e w5 ⟨u, rfl, hr5, hch5, hf5⟩
           have Hr5 := hid hr5
           have Hc5 : Hid (Chg No w4 w5) := hid (HcA.out.same hch5)
           have Hf5 := hid hf5
           clear hr5 hch5 hf5)
        | fail)
    have hSu := VRow.seen Hr5.out (Nat.le_trans (pickF_len _) (by have := Hvs.out; simp only [fiveL, List.flatten_cons, List.flatten_nil, List.length_append, List.length_nil]; omega))
    have hlu := hSu
    obtain ⟨ua, uc, rfl, hul, -⟩ := hlu
    have Hul := hid hul
    have Hm5 := hid (Hm4.out.same Hc5.out)
    have Hx5 := hid (Hx4.out.kept Hc5.out (fun h => h))
    have hun : ∀ q, Value.ownBlock (.slice ua (pickF (fiveL S b).flatten).length uc) = some q → ¬ B.has q := fun q hq hB => by
      have h1 := Hf5.out q hq
      have h2 := Hm4.out.blt hB
      have h3 := HcA.out.size
      omega
    have Hun := hid hun
    have Hf5i := hid (Hinv.out.fix5 Hn5.out b s hff (by have := Hknb.out; omega) (by omega) own)
    have Hxn5 := hid (Hxn.out B.hb (.inr (.inr (.inl rfl))))
    clear hSu hul hun
    generalize hL : pickF (fiveL S b).flatten = L at *
    clear hL
    go_wp2_with fail
    go_loopw [28] (fun v28 wq => ∃ q : Nat, v28 = .int .i64 q ∧ q ≤ L.length ∧ AgScan w n i B f vv S b s own L (.slice ua L.length uc) xB xa xb xs xkeep q wq) (fun v28 _ => L.length - (intOf v28).toNat)
    case atStart => exact ⟨0, rfl, Nat.zero_le _, Hm5.out, Hx5.out, Hr5.out⟩
    case round =>
      obtain ⟨q, rfl, hq, hsc⟩ := hrel
      have hwq : wrap64 ((q : Int) + 1) = (q : Int) + 1 := ag_wrap (Nat.le_trans hq Hul.out)
      by_cases hlt : q < L.length
      · obtain ⟨x, hx⟩ : ∃ x, L[q]? = some x := ⟨_, List.getElem?_eq_getElem hlt⟩
        obtain ⟨_, _, he, -, hcs⟩ := VRow.seen hsc.2.2 Hul.out
        cases he
        obtain ⟨gx, ox, rfl, x0, x1, x2⟩ := hcs q x hx
        obtain ⟨hcsq, hhbq, hhcq⟩ := hsc.1.hc
        have v0 := hhbq.cell _ (hhcq.value b s (ag_lt Hknb.out).1 (ag_lt Hknb.out).2.1)
        have vf := hhbq.free (b * 18 + 14 + s)
        have Hsc := hid hsc
        have hqI : (q : Int) < (L.length : Int) := Int.ofNat_lt.2 hlt
        have hqI0 : (0 : Int) ≤ (q : Int) := Int.natCast_nonneg q
        have Hx9 := hid hx
        obtain ⟨xs9, xb9, xv9⟩ := x
        simp only at x0 x1 x2
        clear hsc hcs hhbq hhcq hx
        by_cases hxs : xs9 = (s : Int)
        · have Hsc2 := hid (Hsc.out.hit Hx9.out hxs (ag_lt Hknb.out).1 (ag_lt Hknb.out).2.1 Hxn5.out (fun q hq e => Hun.out q hq (.inr (.inr (.inl e)))))
          have hbq : (xs9 == (s : Int)) = true := ag_beq hxs
          clear hxs
          go_wp2_with fail
          go_region
          all_goals go_wp2_with fail
          all_goals exact ⟨⟨q + 1, ag_num hwq, hlt, Hsc2.out⟩, ag_meas hlt hwq⟩
        · have Hsc2 := hid (Hsc.out.next Hx9.out hxs)
          have hbq : (xs9 == (s : Int)) = false := ag_bne hxs
          clear hxs
          go_wp2_with fail
          exact ⟨⟨q + 1, ag_num hwq, hlt, Hsc2.out⟩, ag_meas hlt hwq⟩
      · have hqq : L.length = q := Nat.le_antisymm (Nat.le_of_not_lt hlt) hq
        obtain ⟨hm9, hx9, -⟩ := hsc
        rw [← hqq, List.take_length] at hm9
        have Hm9 := hid hm9
        have Hx9 := hid hx9
        clear hm9 hx9 hqq
        go_wp2_with fail
        exact hR.out _ _ _ _ _ _ _ _ _ _ _ _ _ _ _ _ _ _ _ _ _ _ _ _ _ _ _ _ _ _ _ _ _ _ _ _ _ _ _ _ _ _ _ _ _ _ _ _ _ _ _ _ _ _ _ _ _ _ _ _ _ _ _ _ _ _ _ _ _ _ _ _ _ _ _ _ _ _ _ _ _ _ _ _ _ _ _ _ _ _ _ _ _ _ _ _ _ _ _ _ _ _ _ _ _ _ _ _ _ _ _ _ _ _ _ _ _ _ _ _ _ _ _ _ _ _ _ _ _ _ _ _ _ _ _ _ _ _ _ _ _ _ _ _ _ _ _ _ _ _ _ _ _ _ _ _ _ _ _ _ _ _ _ _ _ _ _ _ _ _ _ _ _ _ _ _ _ _ _ _ _ _ _ _ _ _ _ _ _ _ _ _ _ _ _ _ _ _ _ _ _ _ _ _ _ _ _ _ _ _ _ _ _ _ _ _ _ _ _ _ _ _ _ _ _ _ _ _ _ _ _ _ _ _ _ _ _ _ _ _ _ _ _ _ _ _ _ _ _ _ _ _ _ _ _ _ _ _ _ _ _ _ _ _ _ _ _ _ _ _ _ _ _ _ _ _ _ _ _ _ _ _ _ _ _ _ _ _ _ _ _ _ _ _ _ _ _ _ _ _ _ _ _ _ _ _ _ _ _ _ _ _ _ _ _ _ _ _ _ _ _ _ _ _ _ ⟨_, xa, xb, xs, Hm9.out, Hf5i.out, if_pos ⟨rfl, rfl⟩, Hx9.out⟩
    
end Go.Proofs.Ytfmcfcjcmmlmfaa

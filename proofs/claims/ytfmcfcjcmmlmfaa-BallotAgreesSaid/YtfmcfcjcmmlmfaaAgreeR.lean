/- The round of BallotAgrees. -/
import Derived.Test.YtfmcfcjcmmlmfaaAgreeF
import Derived.Test.YtfmcfcjcmmlmfaaAgreeT
namespace Go.Proofs.Ytfmcfcjcmmlmfaa
open Go Go.RowKit Go.Maps
set_option linter.unusedVariables false

set_option maxRecDepth 1000000 in
set_option maxHeartbeats 40000000 in
theorem ag_round (w : World) (z : Int) (l : List StepT) (g off lc n i : Nat) (B : AgB) (f : Fam) (vv : Nat → Nat → Value) (S : PS) (wr : World) (y2 y3 y4 y8 y9 y10 y11 y12 y18 y19 y20 y21 y22 y23 y24 y25 y26 y27 y28 y29 y30 y31 y32 y33 y34 y35 y36 y37 y38 y39 y40 y41 y42 y43 y44 y45 y46 y47 y48 y49 y50 y51 y52 y53 y54 y55 y56 y57 y58 y59 y60 y61 y62 y63 y64 y65 y66 y67 y68 y69 y70 y71 y72 y73 y74 y75 y76 y77 y78 y79 y80 y81 y82 y83 y84 y85 y86 y87 y88 y89 y90 y91 y92 y93 y94 y95 y96 y97 y98 y99 y100 y101 y102 y103 y104 y105 y106 y107 y108 y109 y110 y111 y112 y113 y114 y115 y116 y117 y118 y119 y120 y121 y122 y123 y124 y125 y126 y127 y128 y129 y130 y131 y132 y133 y134 y135 y136 y137 y138 y139 y140 y141 y142 y143 y144 y145 y146 y147 y148 y149 y150 y151 y152 y153 y154 y155 y156 y157 y158 y159 y160 y161 y162 y163 y164 y165 y166 y167 y168 y169 y170 y171 y172 y173 y174 y175 y176 y177 y178 y179 y180 y181 y182 y183 y184 y185 y186 y187 y188 y189 y190 y191 y192 y193 y194 y195 y196 y197 y198 y199 y200 y201 y202 y203 y204 y205 y206 y207 y208 y209 y210 y211 y212 y213 y214 y215 y216 y217 y218 y219 y220 y221 y222 y223 y224 y225 y226 y227 y228 y229 y230 y231 y232 y233 y234 y235 y236 y237 y238 y239 y240 y241 y242 y243 y244 y245 y246 y247 y248 y249 y250 y251 y252 y253 y254 y255 y256 y257 y258 y259 y260 y261 y262 y263 y264 y265 y266 y267 y268 y269 y270 y271 y272 y273 y274 y275 y276 y277 y278 y279 y280 y281 y282 y283 y284 y285 y286 y287 y288 y289 y290 y291 y292 y293 y294 y295 y296 y297 y298 y299 y300 y301 y302 y303 y304 y305 y306 y307 y308 y309 y310 y311 y312 y313 y314 y315 y316 y317 y318 y319 y320 y321 y322 y323 y324 y325 y326 y327 y328 y329 y330 y331 y332 y333 y334 y335 y336 y337 y338 : Value) (R : Exit → Act → World → Prop)
    (hR : Hid (∀ (t2 t3 t4 t8 t9 t10 t11 t12 t18 t19 t20 t21 t22 t23 t24 t25 t26 t27 t28 t29 t30 t31 t32 t33 t34 t35 t36 t37 t38 t39 t40 t41 t42 t43 t44 t45 t46 t47 t48 t49 t50 t51 t52 t53 t54 t55 t56 t57 t58 t59 t60 t61 t62 t63 t64 t65 t66 t67 t68 t69 t70 t71 t72 t73 t74 t75 t76 t77 t78 t79 t80 t81 t82 t83 t84 t85 t86 t87 t88 t89 t90 t91 t92 t93 t94 t95 t96 t97 t98 t99 t100 t101 t102 t103 t104 t105 t106 t107 t108 t109 t110 t111 t112 t113 t114 t115 t116 t117 t118 t119 t120 t121 t122 t123 t124 t125 t126 t127 t128 t129 t130 t131 t132 t133 t134 t135 t136 t137 t138 t139 t140 t141 t142 t143 t144 t145 t146 t147 t148 t149 t150 t151 t152 t153 t154 t155 t156 t157 t158 t159 t160 t161 t162 t163 t164 t165 t166 t167 t168 t169 t170 t171 t172 t173 t174 t175 t176 t177 t178 t179 t180 t181 t182 t183 t184 t185 t186 t187 t188 t189 t190 t191 t192 t193 t194 t195 t196 t197 t198 t199 t200 t201 t202 t203 t204 t205 t206 t207 t208 t209 t210 t211 t212 t213 t214 t215 t216 t217 t218 t219 t220 t221 t222 t223 t224 t225 t226 t227 t228 t229 t230 t231 t232 t233 t234 t235 t236 t237 t238 t239 t240 t241 t242 t243 t244 t245 t246 t247 t248 t249 t250 t251 t252 t253 t254 t255 t256 t257 t258 t259 t260 t261 t262 t263 t264 t265 t266 t267 t268 t269 t270 t271 t272 t273 t274 t275 t276 t277 t278 t279 t280 t281 t282 t283 t284 t285 t286 t287 t288 t289 t290 t291 t292 t293 t294 t295 t296 t297 t298 t299 t300 t301 t302 t303 t304 t305 t306 t307 t308 t309 t310 t311 t312 t313 t314 t315 t316 t317 t318 t319 t320 t321 t322 t323 t324 t325 t326 t327 t328 t329 t330 t331 t332 t333 t334 t335 t336 t337 t338 : Value) (w' : World) (f' : Fam) (vv' : Nat → Nat → Value) (S' : PS), AgMem w n (i + 1) B f' f'.ab vv' S' w' → PInv n S' → R .normal ⟨(List.toArray ((.int .u8 z : Value) :: (.slice (some ⟨g, off, none⟩) l.length lc : Value) :: t2 :: t3 :: t4 :: (.int .i64 n : Value) :: (.pointer (some ⟨B.db, 0, none⟩) : Value) :: (.pointer (some ⟨B.al, 0, none⟩) : Value) :: t8 :: t9 :: t10 :: t11 :: t12 :: (.pointer (some ⟨B.hb, 0, none⟩) : Value) :: (.pointer (some ⟨B.tb, 0, none⟩) : Value) :: (.pointer (some ⟨B.cb, 0, none⟩) : Value) :: (.pointer (some ⟨B.ib, 0, none⟩) : Value) :: (.int .i64 ((i : Int) + 1) : Value) :: t18 :: t19 :: t20 :: t21 :: t22 :: t23 :: t24 :: t25 :: t26 :: t27 :: t28 :: t29 :: t30 :: t31 :: t32 :: t33 :: t34 :: t35 :: t36 :: t37 :: t38 :: t39 :: t40 :: t41 :: t42 :: t43 :: t44 :: t45 :: t46 :: t47 :: t48 :: t49 :: t50 :: t51 :: t52 :: t53 :: t54 :: t55 :: t56 :: t57 :: t58 :: t59 :: t60 :: t61 :: t62 :: t63 :: t64 :: t65 :: t66 :: t67 :: t68 :: t69 :: t70 :: t71 :: t72 :: t73 :: t74 :: t75 :: t76 :: t77 :: t78 :: t79 :: t80 :: t81 :: t82 :: t83 :: t84 :: t85 :: t86 :: t87 :: t88 :: t89 :: t90 :: t91 :: t92 :: t93 :: t94 :: t95 :: t96 :: t97 :: t98 :: t99 :: t100 :: t101 :: t102 :: t103 :: t104 :: t105 :: t106 :: t107 :: t108 :: t109 :: t110 :: t111 :: t112 :: t113 :: t114 :: t115 :: t116 :: t117 :: t118 :: t119 :: t120 :: t121 :: t122 :: t123 :: t124 :: t125 :: t126 :: t127 :: t128 :: t129 :: t130 :: t131 :: t132 :: t133 :: t134 :: t135 :: t136 :: t137 :: t138 :: t139 :: t140 :: t141 :: t142 :: t143 :: t144 :: t145 :: t146 :: t147 :: t148 :: t149 :: t150 :: t151 :: t152 :: t153 :: t154 :: t155 :: t156 :: t157 :: t158 :: t159 :: t160 :: t161 :: t162 :: t163 :: t164 :: t165 :: t166 :: t167 :: t168 :: t169 :: t170 :: t171 :: t172 :: t173 :: t174 :: t175 :: t176 :: t177 :: t178 :: t179 :: t180 :: t181 :: t182 :: t183 :: t184 :: t185 :: t186 :: t187 :: t188 :: t189 :: t190 :: t191 :: t192 :: t193 :: t194 :: t195 :: t196 :: t197 :: t198 :: t199 :: t200 :: t201 :: t202 :: t203 :: t204 :: t205 :: t206 :: t207 :: t208 :: t209 :: t210 :: t211 :: t212 :: t213 :: t214 :: t215 :: t216 :: t217 :: t218 :: t219 :: t220 :: t221 :: t222 :: t223 :: t224 :: t225 :: t226 :: t227 :: t228 :: t229 :: t230 :: t231 :: t232 :: t233 :: t234 :: t235 :: t236 :: t237 :: t238 :: t239 :: t240 :: t241 :: t242 :: t243 :: t244 :: t245 :: t246 :: t247 :: t248 :: t249 :: t250 :: t251 :: t252 :: t253 :: t254 :: t255 :: t256 :: t257 :: t258 :: t259 :: t260 :: t261 :: t262 :: t263 :: t264 :: t265 :: t266 :: t267 :: t268 :: t269 :: t270 :: t271 :: t272 :: t273 :: t274 :: t275 :: t276 :: t277 :: t278 :: t279 :: t280 :: t281 :: t282 :: t283 :: t284 :: t285 :: t286 :: t287 :: t288 :: t289 :: t290 :: t291 :: t292 :: t293 :: t294 :: t295 :: t296 :: t297 :: t298 :: t299 :: t300 :: t301 :: t302 :: t303 :: t304 :: t305 :: t306 :: t307 :: t308 :: t309 :: t310 :: t311 :: t312 :: t313 :: t314 :: t315 :: t316 :: t317 :: t318 :: t319 :: t320 :: t321 :: t322 :: t323 :: t324 :: t325 :: t326 :: t327 :: t328 :: t329 :: t330 :: t331 :: t332 :: t333 :: t334 :: t335 :: t336 :: t337 :: t338 :: [])), []⟩ w'))
    (HS : Hid (∀ (wr : World), Chg No w wr → ∀ i x, l[i]? = some x → (u8r x.k ∧ u8r x.a ∧ u8r x.b ∧ u8r x.s) ∧ ∃ g' off', some (⟨g, off, none⟩ : Addr) = some ⟨g', off', none⟩ ∧ wr.cell? ⟨g', off' + i * 5, none⟩ = some (.int .u8 x.k) ∧ wr.cell? ⟨g', off' + i * 5 + 1, none⟩ = some (.int .u8 x.a)
    ∧ wr.cell? ⟨g', off' + i * 5 + 2, none⟩ = some (.int .u8 x.b) ∧ wr.cell? ⟨g', off' + i * 5 + 3, none⟩ = some (.int .u8 x.s) ∧ wr.cell? ⟨g', off' + i * 5 + 4, none⟩ = some (.int .i64 x.keep)))
    (hmem : AgMem w n i B f f.ab vv S wr) (hinv : PInv n S) (hlen : i < l.length) (h80 : i < 80) (hn1 : 1 ≤ n) (hn5 : n ≤ 5) :
    agBody.wp Try.prog R ⟨(List.toArray ((.int .u8 z : Value) :: (.slice (some ⟨g, off, none⟩) l.length lc : Value) :: y2 :: y3 :: y4 :: (.int .i64 n : Value) :: (.pointer (some ⟨B.db, 0, none⟩) : Value) :: (.pointer (some ⟨B.al, 0, none⟩) : Value) :: y8 :: y9 :: y10 :: y11 :: y12 :: (.pointer (some ⟨B.hb, 0, none⟩) : Value) :: (.pointer (some ⟨B.tb, 0, none⟩) : Value) :: (.pointer (some ⟨B.cb, 0, none⟩) : Value) :: (.pointer (some ⟨B.ib, 0, none⟩) : Value) :: (.int .i64 i : Value) :: y18 :: y19 :: y20 :: y21 :: y22 :: y23 :: y24 :: y25 :: y26 :: y27 :: y28 :: y29 :: y30 :: y31 :: y32 :: y33 :: y34 :: y35 :: y36 :: y37 :: y38 :: y39 :: y40 :: y41 :: y42 :: y43 :: y44 :: y45 :: y46 :: y47 :: y48 :: y49 :: y50 :: y51 :: y52 :: y53 :: y54 :: y55 :: y56 :: y57 :: y58 :: y59 :: y60 :: y61 :: y62 :: y63 :: y64 :: y65 :: y66 :: y67 :: y68 :: y69 :: y70 :: y71 :: y72 :: y73 :: y74 :: y75 :: y76 :: y77 :: y78 :: y79 :: y80 :: y81 :: y82 :: y83 :: y84 :: y85 :: y86 :: y87 :: y88 :: y89 :: y90 :: y91 :: y92 :: y93 :: y94 :: y95 :: y96 :: y97 :: y98 :: y99 :: y100 :: y101 :: y102 :: y103 :: y104 :: y105 :: y106 :: y107 :: y108 :: y109 :: y110 :: y111 :: y112 :: y113 :: y114 :: y115 :: y116 :: y117 :: y118 :: y119 :: y120 :: y121 :: y122 :: y123 :: y124 :: y125 :: y126 :: y127 :: y128 :: y129 :: y130 :: y131 :: y132 :: y133 :: y134 :: y135 :: y136 :: y137 :: y138 :: y139 :: y140 :: y141 :: y142 :: y143 :: y144 :: y145 :: y146 :: y147 :: y148 :: y149 :: y150 :: y151 :: y152 :: y153 :: y154 :: y155 :: y156 :: y157 :: y158 :: y159 :: y160 :: y161 :: y162 :: y163 :: y164 :: y165 :: y166 :: y167 :: y168 :: y169 :: y170 :: y171 :: y172 :: y173 :: y174 :: y175 :: y176 :: y177 :: y178 :: y179 :: y180 :: y181 :: y182 :: y183 :: y184 :: y185 :: y186 :: y187 :: y188 :: y189 :: y190 :: y191 :: y192 :: y193 :: y194 :: y195 :: y196 :: y197 :: y198 :: y199 :: y200 :: y201 :: y202 :: y203 :: y204 :: y205 :: y206 :: y207 :: y208 :: y209 :: y210 :: y211 :: y212 :: y213 :: y214 :: y215 :: y216 :: y217 :: y218 :: y219 :: y220 :: y221 :: y222 :: y223 :: y224 :: y225 :: y226 :: y227 :: y228 :: y229 :: y230 :: y231 :: y232 :: y233 :: y234 :: y235 :: y236 :: y237 :: y238 :: y239 :: y240 :: y241 :: y242 :: y243 :: y244 :: y245 :: y246 :: y247 :: y248 :: y249 :: y250 :: y251 :: y252 :: y253 :: y254 :: y255 :: y256 :: y257 :: y258 :: y259 :: y260 :: y261 :: y262 :: y263 :: y264 :: y265 :: y266 :: y267 :: y268 :: y269 :: y270 :: y271 :: y272 :: y273 :: y274 :: y275 :: y276 :: y277 :: y278 :: y279 :: y280 :: y281 :: y282 :: y283 :: y284 :: y285 :: y286 :: y287 :: y288 :: y289 :: y290 :: y291 :: y292 :: y293 :: y294 :: y295 :: y296 :: y297 :: y298 :: y299 :: y300 :: y301 :: y302 :: y303 :: y304 :: y305 :: y306 :: y307 :: y308 :: y309 :: y310 :: y311 :: y312 :: y313 :: y314 :: y315 :: y316 :: y317 :: y318 :: y319 :: y320 :: y321 :: y322 :: y323 :: y324 :: y325 :: y326 :: y327 :: y328 :: y329 :: y330 :: y331 :: y332 :: y333 :: y334 :: y335 :: y336 :: y337 :: y338 :: [])), []⟩ wr := by
  conv => arg 2; whnf
  obtain ⟨x, hx⟩ : ∃ x, l[i]? = some x := ⟨_, List.getElem?_eq_getElem hlen⟩
  obtain ⟨⟨hxk, hxa, hxb, hxs⟩, g', off', he, z0, z1, z2, z3, z4⟩ := HS.out wr hmem.chg i x hx
  cases he
  have haw := hid (awake_ok wr)
  have Hmem := hid hmem
  have Hinv := hid hinv
  have hIl : (i : Int) < (l.length : Int) := by omega
  have hI0 : (0 : Int) ≤ (i : Int) := by omega
  have hI80 : (i : Int) < 80 := by omega
  have hwi : wrap64 ((i : Int) + 1) = (i : Int) + 1 := by unfold wrap64; omega
  obtain ⟨xk, xa, xb, xs, xkeep⟩ := x
  simp only at z0 z1 z2 z3 z4 hxk hxa hxb hxs
  clear hmem hinv hx HS
  go_wp2_with fail
  refine haw.out.mono ?_
  rintro e w1 ⟨rfl, hch⟩
  replace Hmem := hid (Hmem.out.same hch)
  replace z0 := hch.cellN z0
  replace z1 := hch.cellN z1
  replace z2 := hch.cellN z2
  replace z3 := hch.cellN z3
  replace z4 := hch.cellN z4
  clear hch haw
  go_wp2_with fail
  have hBx := Blk.new w1 #[.int .u8 xk, .int .u8 xa, .int .u8 xb, .int .u8 xs, .int .i64 xkeep] 69
  have hcA : Chg No w1 (w1.alloc (.cells #[.int .u8 xk, .int .u8 xa, .int .u8 xb, .int .u8 xs, .int .i64 xkeep] 69)) := (Chg.refl _ _).alloc _
  have Hx := hid hBx
  have Hxn : Hid (∀ q, B.has q → q ≠ w1.heap.size) := hid fun q hq e => by have := Hmem.out.blt hq; omega
  have Hxo : Hid (∀ k, k < n → ∀ q, f.own k q → q ≠ w1.heap.size) := hid fun k hk q hq e => by have := Hmem.out.fin hk hq; omega
  replace Hmem := hid (Hmem.out.same hcA)
  clear hcA hBx z0 z1 z2 z3 z4
  generalize (w1.alloc (.cells #[.int .u8 xk, .int .u8 xa, .int .u8 xb, .int .u8 xs, .int .i64 xkeep] 69)) = w2 at *
  generalize w1.heap.size = xB at *
  obtain ⟨z0, z1, z2, z3, z4, -⟩ := Hx.out.c5
  obtain ⟨hk0, hk1⟩ := hxk
  obtain ⟨ha0, ha1⟩ := hxa
  obtain ⟨hb0, hb1⟩ := hxb
  obtain ⟨hs0, hs1⟩ := hxs
  have hnI : (1 : Int) ≤ (n : Int) := by omega
  have hnI5 : (n : Int) ≤ 5 := by omega
  obtain ⟨k, hk, hkn⟩ : ∃ k : Nat, xa % (n : Int) = (k : Int) ∧ k < n := ⟨(xa % (n : Int)).toNat, by have := Int.emod_nonneg xa (show (n : Int) ≠ 0 by omega); omega, by have h1 := Int.emod_nonneg xa (show (n : Int) ≠ 0 by omega); have h2 := Int.emod_lt_of_pos xa (show (0 : Int) < (n : Int) by omega); omega⟩
  obtain ⟨b, hb, hb1', hb8⟩ : ∃ b : Nat, wrap64 (1 + bits .and .i64 xb 7) = (b : Int) ∧ 1 ≤ b ∧ b ≤ 8 := by
    obtain ⟨y, rfl⟩ := Int.eq_ofNat_of_zero_le hb0
    have h := and7 y (by omega)
    exact ⟨1 + y % 8, by rw [h]; unfold wrap64; omega, by omega, by omega⟩
  obtain ⟨s, hs, hs1', hs3⟩ : ∃ s : Nat, 1 + xs % 3 = (s : Int) ∧ 1 ≤ s ∧ s ≤ 3 := ⟨(1 + xs % 3).toNat, by omega, by omega, by omega⟩
  go_quiet (fail)
  rw [hk, hb]
  clear hk hb hs hk0 hk1 ha0 ha1 hb0 hb1 hs0 hs1
  have hx2 := hid (rfl : xk = xk)
  have hW : Hid (Chg No w2 (w2.drewN nq)) := hid ((Chg.refl _ _).drewN nq)
  replace Hmem := hid (Hmem.out.same hW.out)
  replace Hx := hid (Hx.out.kept hW.out id)
  clear hW z0 z1 z2 z3 z4 hx2 hnI hnI5
  generalize w2.drewN nq = w3 at *
  obtain ⟨z0, z1, z2, z3, z4, zf⟩ := Hx.out.c5
  have hbI : (b : Int) < 9 := by omega
  have hbI0 : (0 : Int) ≤ (b : Int) := by omega
  have hkI : (k : Int) < 5 := by omega
  have hkI0 : (0 : Int) ≤ (k : Int) := by omega
  have hsI : (s : Int) < 4 := by omega
  have hsI0 : (0 : Int) ≤ (s : Int) := by omega
  have Hknb : Hid ((k < n ∧ n ≤ 5) ∧ (1 ≤ b ∧ b ≤ 8) ∧ (1 ≤ s ∧ s ≤ 3)) := hid ⟨⟨hkn, hn5⟩, ⟨hb1', hb8⟩, ⟨hs1', hs3⟩⟩
  obtain ⟨dcs, hdb, hdc⟩ := Hmem.out.dc
  have d0 := hdb.cell k (hdc k hkn)
  have df := hdb.free k
  obtain ⟨acs, hab, hasz, hac⟩ := Hmem.out.ac
  have a0 := hab.cell k (hac k hkn)
  have af := hab.free k
  have Hdb := hid hdb
  have Hab := hid hab
  have Hdc := hid (hdc k hkn)
  have Hac := hid (hac k hkn)
  have hxd := Hxn.out B.db (.inl rfl)
  have Hxd := hid hxd
  have Hkn := hid hkn
  have Hn5 := hid hn5
  clear hdb hab hdc hac hxd hasz hb1' hb8 hs1' hs3 hn1
  by_cases hc2 : xk = 2
  · as_aux_lemma =>
      --CRASH
      subst hc2
      go_upto_region 23 with (fail)
      clear a0 af hsI hsI0 hbI hbI0 zf
      have hS : ∀ (T : Nat → Prop) (W : World), Chg T w3 W → (∀ q, T q → q ≠ B.db ∧ q ≠ xB) → W.cell? ⟨B.db, k, none⟩ = some (.pointer (some ⟨f.d k, 0, none⟩)) ∧ W.cell? ⟨xB, 4, none⟩ = some (.int .i64 xkeep) := by
        intro T W hT hq
        exact ⟨(hT.cell (p := ⟨B.db, k, none⟩) Hdb.out.lt (fun h => (hq _ h).1 rfl)).trans d0, (hT.cell (p := ⟨xB, 4, none⟩) Hx.out.lt (fun h => (hq _ h).2 rfl)).trans z4⟩
      have HS2 := hid hS
      have hF : ∀ q, f.F k q → q ≠ B.db ∧ q ≠ xB := fun q hq => ⟨fun e => Hmem.out.off k Hkn.out q (.inl hq) (.inl e), Hxo.out k Hkn.out q (.inl hq)⟩
      have HF := hid hF
      have hacc := Hmem.out.acc k Hkn.out
      have hlog := Hmem.out.log k Hkn.out
      have hBk := Blk.new w3.drew #[.int .i64 xkeep] 3
      have hcA : Chg No w3 (w3.drew.alloc (.cells #[.int .i64 xkeep] 3)) := ((Chg.refl _ _).drew).alloc _
      have hcr := dCrash (w3.drew.alloc (.cells #[.int .i64 xkeep] 3)) (f.d k) (f.F k) (f.A k).D ((hacc.kept hcA (fun _ _ h => h)).disk) hacc.up hlog.cnt (.slice (some ⟨w3.heap.size, 0, none⟩) 1 1) [xkeep] (Row.made hBk 1 1 _ rfl (Nat.le_refl _) (by unfold maxLen; omega) (by simp) (fun j u hu => by simpa using hu)) (fun j hj hF => by
        rw [ownBlock_slice] at hj; cases hj
        have := hacc.disk.fin _ hF; omega)
      have Hcr := hid hcr
      have HcA := hid hcA
      have Hlog := hid hlog
      have Hacc := hid hacc
      clear hS hF hBk hcA hcr hlog hacc z0 z1 z2 z3
      go_region_held3 (fun W => W.cell? ⟨B.db, k, none⟩ = some (.pointer (some ⟨f.d k, 0, none⟩)) ∧ W.cell? ⟨xB, 4, none⟩ = some (.int .i64 xkeep))
        (first
          | exact HS2.out No _ ((Chg.refl _ _).drew) (fun _ h => h.elim)
          | exact HS2.out _ _ Hc4.out HF.out
          | exact HS2.out No _ HcA.out (fun _ h => h.elim))
        (first
          | (go_at_call 19
             refine Hcr.out.mono ?_
             rintro e w4 ⟨rfl, hD4, hc4⟩
             have HD4 := hid hD4
             have Hc4 : Hid (Chg (f.F k) w3 w4) := hid ((HcA.out.mono (fun _ _ h => h.elim)).trans hc4 (fun _ _ h => h))
             clear hD4 hc4)
          | fail)
      have hc4 := (HS2.out _ _ Hc4.out HF.out).1
      have hup := hid (dUp w4 (f.d k) (f.F k) _ HD4.out)
      clear d0 z4
      go_wp2_with fail
      refine hup.out.mono ?_
      rintro e w5 ⟨rfl, hD5, hc5⟩
      have hdF := hD5.fd
      have hc35 : Chg (f.F k) w3 w5 := Hc4.out.trans hc5 (fun q _ e => by have : q = f.d k := e; subst this; exact hdF)
      have hc6 := (HS2.out _ _ hc35 HF.out).1
      have Hc35 := hid hc35
      obtain ⟨n0, hn0⟩ : ∃ n0, cut [xkeep] 0 (logB (S.rs k)).length (logB ((S.rs k).take (S.sn k))).length = n0 := ⟨_, rfl⟩
      have hcut := cut_le [xkeep] 0 (logB (S.rs k)).length (logB ((S.rs k).take (S.sn k))).length (by
        have := logB_mono (S.rs k) Hlog.out.le
        rw [List.take_length] at this
        exact this)
      rw [hn0] at hcut
      have hlog5 : (({ (f.A k).D with logs := crashLogs [xkeep] 0 (f.A k).D.logs, down := true, armed := 0 } : DiskS)).logs[0]? = some ((logB (S.rs k)).take n0, n0) := by
        show (crashLogs [xkeep] 0 (f.A k).D.logs)[0]? = _
        rw [crashLogs_get, Hlog.out.log]
        simp only [Option.map_some, Nat.zero_add, hn0]
      obtain ⟨j, hj1, hj2, hlo, hL⟩ := torn_log (D := { (f.A k).D with logs := crashLogs [xkeep] 0 (f.A k).D.logs, down := false, armed := 0 }) (i := 0) Hlog.out.ok Hlog.out.le hcut.1 hcut.2 hlog5 (by show (crashLogs [xkeep] 0 (f.A k).D.logs).length ≤ _; rw [crashLogs_len]; exact Hlog.out.cnt)
      have hvr := Hlog.out.ok
      have hjl : ((S.rs k).take j).length = j := by rw [List.length_take]; omega
      have hrl := Hmem.out.len k Hkn.out
      have hll := logB_len (S.rs k) hvr.ok
      have hvj := hvr.take j
      have hop := open_recs w5 (f.d k) (f.F k) 0 { (f.A k).D with logs := crashLogs [xkeep] 0 (f.A k).D.logs, down := false, armed := 0 } _ ((S.rs k).take j) hD5 hlog5 rfl rfl (by show ((logB (S.rs k)).take n0).length ≤ _; rw [List.length_take]; omega) hlo hvj.ok (by omega)
      have hmv := Hinv.out.moved k Hkn.out ((S.rs k).take j) j hvj (by omega) (by rw [List.take_take, Nat.min_self]; exact prom_mono hvr hj1)
        (fun r hr => by rw [List.take_take, Nat.min_self]; rw [← take_take_le (S.rs k) hj1] at hr; exact List.mem_of_mem_take hr) (fun x hx => .inl (List.mem_of_mem_take hx))
      have Hop := hid hop
      have Hmv := hid hmv
      have HL := hid hL
      have Hjl := hid (show ((S.rs k).take j).length ≤ i + 1 by omega)
      clear hop hmv hL hjl hrl hll hvj hvr hlo hlog5 hcut hn0 hD5 hc5 hup hc35 hdF hj1 hj2 hc4 HD4
      generalize (S.rs k).take j = rj at *
      go_wp2_with fail
      refine Hop.out.mono ?_
      rintro e w6 ⟨ab2, wb2, mb2, F2, rfl, hA6, hU6⟩
      have hU : Upd w3 (f.own k) w6 (accF F2 ab2 wb2 mb2) := by
        refine ⟨(Hc35.out.mono (T := f.own k) (fun q _ h => .inl h)).trans hU6.chg (fun q _ h => .inl h), fun q hq => ?_⟩
        rcases hU6.foot q hq with h | h
        · exact .inl (.inl h)
        · exact .inr (Nat.le_trans Hc35.out.size h)
      have hm6 := Hmem.out.act (c' := i + 1) Hkn.out hA6 HL.out hU Hjl.out (by omega)
      have hm7 := hm6.setAc k Hkn.out ab2
      obtain ⟨acs2, hab2, -, hac2⟩ := hm6.ac
      have a0 := hab2.cell k (hac2 k Hkn.out)
      have af := hab2.free k
      have Hm7 := hid hm7
      clear hm6 hm7 hA6 hU6 hU hab2 hac2 hc6
      go_wp2_with fail
      exact hR.out _ _ _ _ _ _ _ _ _ _ _ _ _ _ _ _ _ _ _ _ _ _ _ _ _ _ _ _ _ _ _ _ _ _ _ _ _ _ _ _ _ _ _ _ _ _ _ _ _ _ _ _ _ _ _ _ _ _ _ _ _ _ _ _ _ _ _ _ _ _ _ _ _ _ _ _ _ _ _ _ _ _ _ _ _ _ _ _ _ _ _ _ _ _ _ _ _ _ _ _ _ _ _ _ _ _ _ _ _ _ _ _ _ _ _ _ _ _ _ _ _ _ _ _ _ _ _ _ _ _ _ _ _ _ _ _ _ _ _ _ _ _ _ _ _ _ _ _ _ _ _ _ _ _ _ _ _ _ _ _ _ _ _ _ _ _ _ _ _ _ _ _ _ _ _ _ _ _ _ _ _ _ _ _ _ _ _ _ _ _ _ _ _ _ _ _ _ _ _ _ _ _ _ _ _ _ _ _ _ _ _ _ _ _ _ _ _ _ _ _ _ _ _ _ _ _ _ _ _ _ _ _ _ _ _ _ _ _ _ _ _ _ _ _ _ _ _ _ _ _ _ _ _ _ _ _ _ _ _ _ _ _ _ _ _ _ _ _ _ _ _ _ _ _ _ _ _ _ _ _ _ _ _ _ _ _ _ _ _ _ _ _ _ _ _ _ _ _ _ _ _ _ _ _ _ _ _ _ _ _ _ _ _ _ _ _ _ _ _ _ _ _ _ _ _ _ _ _ _ _ _ _ _ Hm7.out Hmv.out
      --ENDCRASH
  · have hq2 : (xk == 2) = false := by simpa using hc2
    by_cases hc1 : xk = 1
    · subst hc1
      have hknb := Hknb.out
      obtain ⟨hcs, hhb, hhc⟩ := Hmem.out.hc
      have Hhb := hid hhb
      have Hhc := hid hhc
      have hmany := hid (many_ok w3 B.hb (b * 18) (S.said b) (fun j hj => hhb.cell _ (hhc.said b j (by omega) hj)))
      have h0 := hhb.cell _ (hhc.fixed b s (by omega) (by omega))
      have hfr := hhb.free (b * 18 + 10 + s)
      clear hhb hhc hknb d0 df a0 af zf z1 z2 z3
      go_wp2_with fail
      refine hmany.out.mono ?_
      rintro e w' ⟨rfl, rfl⟩
      have hcl := cntB_le 5 (S.said b)
      have h2c : ((2 : Int) * (cntB 5 (S.said b) : Nat)) < 11 := by omega
      have h2c0 : (0 : Int) ≤ ((2 : Int) * (cntB 5 (S.said b) : Nat)) := by omega
      have hw2 : wrap64 (2 * (cntB 5 (S.said b) : Nat)) = 2 * (cntB 5 (S.said b) : Nat) := by unfold wrap64; omega
      by_cases hmj : (2 : Int) * (cntB 5 (S.said b) : Nat) ≤ (n : Int)
      · have Hm := hid (Hmem.out.more (show i ≤ i + 1 by omega))
        clear hmany h0 hfr
        go_wp2_with fail
        exact hR.out _ _ _ _ _ _ _ _ _ _ _ _ _ _ _ _ _ _ _ _ _ _ _ _ _ _ _ _ _ _ _ _ _ _ _ _ _ _ _ _ _ _ _ _ _ _ _ _ _ _ _ _ _ _ _ _ _ _ _ _ _ _ _ _ _ _ _ _ _ _ _ _ _ _ _ _ _ _ _ _ _ _ _ _ _ _ _ _ _ _ _ _ _ _ _ _ _ _ _ _ _ _ _ _ _ _ _ _ _ _ _ _ _ _ _ _ _ _ _ _ _ _ _ _ _ _ _ _ _ _ _ _ _ _ _ _ _ _ _ _ _ _ _ _ _ _ _ _ _ _ _ _ _ _ _ _ _ _ _ _ _ _ _ _ _ _ _ _ _ _ _ _ _ _ _ _ _ _ _ _ _ _ _ _ _ _ _ _ _ _ _ _ _ _ _ _ _ _ _ _ _ _ _ _ _ _ _ _ _ _ _ _ _ _ _ _ _ _ _ _ _ _ _ _ _ _ _ _ _ _ _ _ _ _ _ _ _ _ _ _ _ _ _ _ _ _ _ _ _ _ _ _ _ _ _ _ _ _ _ _ _ _ _ _ _ _ _ _ _ _ _ _ _ _ _ _ _ _ _ _ _ _ _ _ _ _ _ _ _ _ _ _ _ _ _ _ _ _ _ _ _ _ _ _ _ _ _ _ _ _ _ _ _ _ _ _ _ _ _ _ _ _ _ _ _ _ _ _ _ _ _ _ _ Hm.out Hinv.out
      · have hmj2 : (n : Int) < 2 * (cntB 5 (S.said b) : Nat) := by omega
        clear hmany
        go_upto_if 189 with (fail)
        rename_i K2 hK2 hn9 K1 hK1
        have hN : Hid (∀ (t2 t3 t4 t8 t9 t10 t11 t12 t18 t19 t20 t21 t22 t23 t24 t25 t26 t27 t28 t29 t30 t31 t32 t33 t34 t35 t36 t37 t38 t39 t40 t41 t42 t43 t44 t45 t46 t47 t48 t49 t50 t51 t52 t53 t54 t55 t56 t57 t58 t59 t60 t61 t62 t63 t64 t65 t66 t67 t68 t69 t70 t71 t72 t73 t74 t75 t76 t77 t78 t79 t80 t81 t82 t83 t84 t85 t86 t87 t88 t89 t90 t91 t92 t93 t94 t95 t96 t97 t98 t99 t100 t101 t102 t103 t104 t105 t106 t107 t108 t109 t110 t111 t112 t113 t114 t115 t116 t117 t118 t119 t120 t121 t122 t123 t124 t125 t126 t127 t128 t129 t130 t131 t132 t133 t134 t135 t136 t137 t138 t139 t140 t141 t142 t143 t144 t145 t146 t147 t148 t149 t150 t151 t152 t153 t154 t155 t156 t157 t158 t159 t160 t161 t162 t163 t164 t165 t166 t167 t168 t169 t170 t171 t172 t173 t174 t175 t176 t177 t178 t179 t180 t181 t182 t183 t184 t185 t186 t187 t188 t189 t190 t191 t192 t193 t194 t195 t196 t197 t198 t199 t200 t201 t202 t203 t204 t205 t206 t207 t208 t209 t210 t211 t212 t213 t214 t215 t216 t217 t218 t219 t220 t221 t222 t223 t224 t225 t226 t227 t228 t229 t230 t231 t232 t233 t234 t235 t236 t237 t238 t239 t240 t241 t242 t243 t244 t245 t246 t247 t248 t249 t250 t251 t252 t253 t254 t255 t256 t257 t258 t259 t260 t261 t262 t263 t264 t265 t266 t267 t268 t269 t270 t271 t272 t273 t274 t275 t276 t277 t278 t279 t280 t281 t282 t283 t284 t285 t286 t287 t288 t289 t290 t291 t292 t293 t294 t295 t296 t297 t298 t299 t300 t301 t302 t303 t304 t305 t306 t307 t308 t309 t310 t311 t312 t313 t314 t315 t316 t317 t318 t319 t320 t321 t322 t323 t324 t325 t326 t327 t328 t329 t330 t331 t332 t333 t334 t335 t336 t337 t338 : Value) (f' : Fam) (vv' : Nat → Nat → Value) (S' : PS) (w2 : World), AgMem w n (i + 1) B f' f'.ab vv' S' w2 → PInv n S' → K2 ⟨(List.toArray ((.int .u8 z : Value) :: (.slice (some ⟨g, off, none⟩) l.length lc : Value) :: t2 :: t3 :: t4 :: (.int .i64 n : Value) :: (.pointer (some ⟨B.db, 0, none⟩) : Value) :: (.pointer (some ⟨B.al, 0, none⟩) : Value) :: t8 :: t9 :: t10 :: t11 :: t12 :: (.pointer (some ⟨B.hb, 0, none⟩) : Value) :: (.pointer (some ⟨B.tb, 0, none⟩) : Value) :: (.pointer (some ⟨B.cb, 0, none⟩) : Value) :: (.pointer (some ⟨B.ib, 0, none⟩) : Value) :: (.int .i64 i : Value) :: t18 :: t19 :: t20 :: t21 :: t22 :: t23 :: t24 :: t25 :: t26 :: t27 :: t28 :: t29 :: t30 :: t31 :: t32 :: t33 :: t34 :: t35 :: t36 :: t37 :: t38 :: t39 :: t40 :: t41 :: t42 :: t43 :: t44 :: t45 :: t46 :: t47 :: t48 :: t49 :: t50 :: t51 :: t52 :: t53 :: t54 :: t55 :: t56 :: t57 :: t58 :: t59 :: t60 :: t61 :: t62 :: t63 :: t64 :: t65 :: t66 :: t67 :: t68 :: t69 :: t70 :: t71 :: t72 :: t73 :: t74 :: t75 :: t76 :: t77 :: t78 :: t79 :: t80 :: t81 :: t82 :: t83 :: t84 :: t85 :: t86 :: t87 :: t88 :: t89 :: t90 :: t91 :: t92 :: t93 :: t94 :: t95 :: t96 :: t97 :: t98 :: t99 :: t100 :: t101 :: t102 :: t103 :: t104 :: t105 :: t106 :: t107 :: t108 :: t109 :: t110 :: t111 :: t112 :: t113 :: t114 :: t115 :: t116 :: t117 :: t118 :: t119 :: t120 :: t121 :: t122 :: t123 :: t124 :: t125 :: t126 :: t127 :: t128 :: t129 :: t130 :: t131 :: t132 :: t133 :: t134 :: t135 :: t136 :: t137 :: t138 :: t139 :: t140 :: t141 :: t142 :: t143 :: t144 :: t145 :: t146 :: t147 :: t148 :: t149 :: t150 :: t151 :: t152 :: t153 :: t154 :: t155 :: t156 :: t157 :: t158 :: t159 :: t160 :: t161 :: t162 :: t163 :: t164 :: t165 :: t166 :: t167 :: t168 :: t169 :: t170 :: t171 :: t172 :: t173 :: t174 :: t175 :: t176 :: t177 :: t178 :: t179 :: t180 :: t181 :: t182 :: t183 :: t184 :: t185 :: t186 :: t187 :: t188 :: t189 :: t190 :: t191 :: t192 :: t193 :: t194 :: t195 :: t196 :: t197 :: t198 :: t199 :: t200 :: t201 :: t202 :: t203 :: t204 :: t205 :: t206 :: t207 :: t208 :: t209 :: t210 :: t211 :: t212 :: t213 :: t214 :: t215 :: t216 :: t217 :: t218 :: t219 :: t220 :: t221 :: t222 :: t223 :: t224 :: t225 :: t226 :: t227 :: t228 :: t229 :: t230 :: t231 :: t232 :: t233 :: t234 :: t235 :: t236 :: t237 :: t238 :: t239 :: t240 :: t241 :: t242 :: t243 :: t244 :: t245 :: t246 :: t247 :: t248 :: t249 :: t250 :: t251 :: t252 :: t253 :: t254 :: t255 :: t256 :: t257 :: t258 :: t259 :: t260 :: t261 :: t262 :: t263 :: t264 :: t265 :: t266 :: t267 :: t268 :: t269 :: t270 :: t271 :: t272 :: t273 :: t274 :: t275 :: t276 :: t277 :: t278 :: t279 :: t280 :: t281 :: t282 :: t283 :: t284 :: t285 :: t286 :: t287 :: t288 :: t289 :: t290 :: t291 :: t292 :: t293 :: t294 :: t295 :: t296 :: t297 :: t298 :: t299 :: t300 :: t301 :: t302 :: t303 :: t304 :: t305 :: t306 :: t307 :: t308 :: t309 :: t310 :: t311 :: t312 :: t313 :: t314 :: t315 :: t316 :: t317 :: t318 :: t319 :: t320 :: t321 :: t322 :: t323 :: t324 :: t325 :: t326 :: t327 :: t328 :: t329 :: t330 :: t331 :: t332 :: t333 :: t334 :: t335 :: t336 :: t337 :: t338 :: [])), []⟩ w2) := by
          refine hid fun t2 t3 t4 t8 t9 t10 t11 t12 t18 t19 t20 t21 t22 t23 t24 t25 t26 t27 t28 t29 t30 t31 t32 t33 t34 t35 t36 t37 t38 t39 t40 t41 t42 t43 t44 t45 t46 t47 t48 t49 t50 t51 t52 t53 t54 t55 t56 t57 t58 t59 t60 t61 t62 t63 t64 t65 t66 t67 t68 t69 t70 t71 t72 t73 t74 t75 t76 t77 t78 t79 t80 t81 t82 t83 t84 t85 t86 t87 t88 t89 t90 t91 t92 t93 t94 t95 t96 t97 t98 t99 t100 t101 t102 t103 t104 t105 t106 t107 t108 t109 t110 t111 t112 t113 t114 t115 t116 t117 t118 t119 t120 t121 t122 t123 t124 t125 t126 t127 t128 t129 t130 t131 t132 t133 t134 t135 t136 t137 t138 t139 t140 t141 t142 t143 t144 t145 t146 t147 t148 t149 t150 t151 t152 t153 t154 t155 t156 t157 t158 t159 t160 t161 t162 t163 t164 t165 t166 t167 t168 t169 t170 t171 t172 t173 t174 t175 t176 t177 t178 t179 t180 t181 t182 t183 t184 t185 t186 t187 t188 t189 t190 t191 t192 t193 t194 t195 t196 t197 t198 t199 t200 t201 t202 t203 t204 t205 t206 t207 t208 t209 t210 t211 t212 t213 t214 t215 t216 t217 t218 t219 t220 t221 t222 t223 t224 t225 t226 t227 t228 t229 t230 t231 t232 t233 t234 t235 t236 t237 t238 t239 t240 t241 t242 t243 t244 t245 t246 t247 t248 t249 t250 t251 t252 t253 t254 t255 t256 t257 t258 t259 t260 t261 t262 t263 t264 t265 t266 t267 t268 t269 t270 t271 t272 t273 t274 t275 t276 t277 t278 t279 t280 t281 t282 t283 t284 t285 t286 t287 t288 t289 t290 t291 t292 t293 t294 t295 t296 t297 t298 t299 t300 t301 t302 t303 t304 t305 t306 t307 t308 t309 t310 t311 t312 t313 t314 t315 t316 t317 t318 t319 t320 t321 t322 t323 t324 t325 t326 t327 t328 t329 t330 t331 t332 t333 t334 t335 t336 t337 t338 f' vv' S' w2 hm hp => hK2 _ _ ?_
          clear hK1 hK2 Hmem Hinv Hx Hhb Hhc Hdb Hab Hdc Hac h0 hfr z0 z4 hmj hmj2 hcl h2c h2c0 hw2 hn9
          have Hm := hid hm
          have Hp := hid hp
          clear hm hp
          go_wp2_with fail
          exact hR.out _ _ _ _ _ _ _ _ _ _ _ _ _ _ _ _ _ _ _ _ _ _ _ _ _ _ _ _ _ _ _ _ _ _ _ _ _ _ _ _ _ _ _ _ _ _ _ _ _ _ _ _ _ _ _ _ _ _ _ _ _ _ _ _ _ _ _ _ _ _ _ _ _ _ _ _ _ _ _ _ _ _ _ _ _ _ _ _ _ _ _ _ _ _ _ _ _ _ _ _ _ _ _ _ _ _ _ _ _ _ _ _ _ _ _ _ _ _ _ _ _ _ _ _ _ _ _ _ _ _ _ _ _ _ _ _ _ _ _ _ _ _ _ _ _ _ _ _ _ _ _ _ _ _ _ _ _ _ _ _ _ _ _ _ _ _ _ _ _ _ _ _ _ _ _ _ _ _ _ _ _ _ _ _ _ _ _ _ _ _ _ _ _ _ _ _ _ _ _ _ _ _ _ _ _ _ _ _ _ _ _ _ _ _ _ _ _ _ _ _ _ _ _ _ _ _ _ _ _ _ _ _ _ _ _ _ _ _ _ _ _ _ _ _ _ _ _ _ _ _ _ _ _ _ _ _ _ _ _ _ _ _ _ _ _ _ _ _ _ _ _ _ _ _ _ _ _ _ _ _ _ _ _ _ _ _ _ _ _ _ _ _ _ _ _ _ _ _ _ _ _ _ _ _ _ _ _ _ _ _ _ _ _ _ _ _ _ _ _ _ _ _ _ _ _ _ _ _ _ _ _ _ _ Hm.out Hp.out
        have hknb := Hknb.out
        refine wp_code (c' := agIf) (by kernel_rfl) ?_
        refine ag_first w z l g off lc n i B f vv S xB k b s xa xb xs xkeep w' _ _ _ _ _ _ _ _ _ _ _ _ _ _ _ _ _ _ _ _ _ _ _ _ _ _ _ _ _ _ _ _ _ _ _ _ _ _ _ _ _ _ _ _ _ _ _ _ _ _ _ _ _ _ _ _ _ _ _ _ _ _ _ _ _ _ _ _ _ _ _ _ _ _ _ _ _ _ _ _ _ _ _ _ _ _ _ _ _ _ _ _ _ _ _ _ _ _ _ _ _ _ _ _ _ _ _ _ _ _ _ _ _ _ _ _ _ _ _ _ _ _ _ _ _ _ _ _ _ _ _ _ _ _ _ _ _ _ _ _ _ _ _ _ _ _ _ _ _ _ _ _ _ _ _ _ _ _ _ _ _ _ _ _ _ _ _ _ _ _ _ _ _ _ _ _ _ _ _ _ _ _ _ _ _ _ _ _ _ _ _ _ _ _ _ _ _ _ _ _ _ _ _ _ _ _ _ _ _ _ _ _ _ _ _ _ _ _ _ _ _ _ _ _ _ _ _ _ _ _ _ _ _ _ _ _ _ _ _ _ _ _ _ _ _ _ _ _ _ _ _ _ _ _ _ _ _ _ _ _ _ _ _ _ _ _ _ _ _ _ _ _ _ _ _ _ _ _ _ _ _ _ _ _ _ _ _ _ _ _ _ _ _ _ _ _ _ _ _ _ _ _ _ _ _ _ _ _ _ _ _ _ _ _ _ _ _ _ _ _ _ _ _ _ (hid fun t2 t3 t4 t8 t9 t10 t11 t12 t23 t24 t25 t26 t27 t28 t29 t30 t31 t32 t33 t34 t35 t36 t37 t38 t39 t40 t41 t42 t43 t44 t45 t46 t47 t48 t49 t50 t51 t52 t53 t54 t55 t56 t57 t58 t59 t60 t61 t62 t63 t64 t65 t66 t67 t68 t69 t70 t71 t72 t73 t74 t75 t76 t77 t78 t79 t80 t81 t82 t83 t84 t85 t86 t87 t88 t89 t90 t91 t92 t93 t94 t95 t96 t97 t98 t99 t100 t101 t102 t103 t104 t105 t106 t107 t108 t109 t110 t111 t112 t113 t114 t115 t116 t117 t118 t119 t120 t121 t122 t123 t124 t125 t126 t127 t128 t129 t130 t131 t132 t133 t134 t135 t136 t137 t138 t139 t140 t141 t142 t143 t144 t145 t146 t147 t148 t149 t150 t151 t152 t153 t154 t155 t156 t157 t158 t159 t160 t161 t162 t163 t164 t165 t166 t167 t168 t169 t170 t171 t172 t173 t174 t175 t176 t177 t178 t179 t180 t181 t182 t183 t184 t185 t186 t187 t188 t189 t190 t191 t192 t193 t194 t195 t196 t197 t198 t199 t200 t201 t202 t203 t204 t205 t206 t207 t208 t209 t210 t211 t212 t213 t214 t215 t216 t217 t218 t219 t220 t221 t222 t223 t224 t225 t226 t227 t228 t229 t230 t231 t232 t233 t234 t235 t236 t237 t238 t239 t240 t241 t242 t243 t244 t245 t246 t247 t248 t249 t250 t251 t252 t253 t254 t255 t256 t257 t258 t259 t260 t261 t262 t263 t264 t265 t266 t267 t268 t269 t270 t271 t272 t273 t274 t275 t276 t277 t278 t279 t280 t281 t282 t283 t284 t285 t286 t287 t288 t289 t290 t291 t292 t293 t294 t295 t296 t297 t298 t299 t300 t301 t302 t303 t304 t305 t306 t307 t308 t309 t310 t311 t312 t313 t314 t315 t316 t317 t318 t319 t320 t321 t322 t323 t324 t325 t326 t327 t328 t329 t330 t331 t332 t333 t334 t335 t336 t337 t338 wx hmid => hK1 _ _ (wp_code (c' := agRest) (by kernel_rfl) ?_)) Hmem Hinv Hx hmj2 hI80 hI0 hbI hbI0 hkI hkI0 hsI hsI0 Hknb Hkn Hn5 Hxn Hxo
        exact ag_rest w z l g off lc n i B f vv xB k b s xkeep wx t2 t3 t4 t8 t9 t10 t11 t12 t23 t24 t25 t26 t27 t28 t29 t30 t31 t32 t33 t34 t35 t36 t37 t38 t39 t40 t41 t42 t43 t44 t45 t46 t47 t48 t49 t50 t51 t52 t53 t54 t55 t56 t57 t58 t59 t60 t61 t62 t63 t64 t65 t66 t67 t68 t69 t70 t71 t72 t73 t74 t75 t76 t77 t78 t79 t80 t81 t82 t83 t84 t85 t86 t87 t88 t89 t90 t91 t92 t93 t94 t95 t96 t97 t98 t99 t100 t101 t102 t103 t104 t105 t106 t107 t108 t109 t110 t111 t112 t113 t114 t115 t116 t117 t118 t119 t120 t121 t122 t123 t124 t125 t126 t127 t128 t129 t130 t131 t132 t133 t134 t135 t136 t137 t138 t139 t140 t141 t142 t143 t144 t145 t146 t147 t148 t149 t150 t151 t152 t153 t154 t155 t156 t157 t158 t159 t160 t161 t162 t163 t164 t165 t166 t167 t168 t169 t170 t171 t172 t173 t174 t175 t176 t177 t178 t179 t180 t181 t182 t183 t184 t185 t186 t187 t188 t189 t190 t191 t192 t193 t194 t195 t196 t197 t198 t199 t200 t201 t202 t203 t204 t205 t206 t207 t208 t209 t210 t211 t212 t213 t214 t215 t216 t217 t218 t219 t220 t221 t222 t223 t224 t225 t226 t227 t228 t229 t230 t231 t232 t233 t234 t235 t236 t237 t238 t239 t240 t241 t242 t243 t244 t245 t246 t247 t248 t249 t250 t251 t252 t253 t254 t255 t256 t257 t258 t259 t260 t261 t262 t263 t264 t265 t266 t267 t268 t269 t270 t271 t272 t273 t274 t275 t276 t277 t278 t279 t280 t281 t282 t283 t284 t285 t286 t287 t288 t289 t290 t291 t292 t293 t294 t295 t296 t297 t298 t299 t300 t301 t302 t303 t304 t305 t306 t307 t308 t309 t310 t311 t312 t313 t314 t315 t316 t317 t318 t319 t320 t321 t322 t323 t324 t325 t326 t327 t328 t329 t330 t331 t332 t333 t334 t335 t336 t337 t338 _ (hid fun t2 t3 t4 t8 t9 t10 t11 t12 t18 t19 t20 t21 t22 t23 t24 t25 t26 t27 t28 t29 t30 t31 t32 t33 t34 t35 t36 t37 t38 t39 t40 t41 t42 t43 t44 t45 t46 t47 t48 t49 t50 t51 t52 t53 t54 t55 t56 t57 t58 t59 t60 t61 t62 t63 t64 t65 t66 t67 t68 t69 t70 t71 t72 t73 t74 t75 t76 t77 t78 t79 t80 t81 t82 t83 t84 t85 t86 t87 t88 t89 t90 t91 t92 t93 t94 t95 t96 t97 t98 t99 t100 t101 t102 t103 t104 t105 t106 t107 t108 t109 t110 t111 t112 t113 t114 t115 t116 t117 t118 t119 t120 t121 t122 t123 t124 t125 t126 t127 t128 t129 t130 t131 t132 t133 t134 t135 t136 t137 t138 t139 t140 t141 t142 t143 t144 t145 t146 t147 t148 t149 t150 t151 t152 t153 t154 t155 t156 t157 t158 t159 t160 t161 t162 t163 t164 t165 t166 t167 t168 t169 t170 t171 t172 t173 t174 t175 t176 t177 t178 t179 t180 t181 t182 t183 t184 t185 t186 t187 t188 t189 t190 t191 t192 t193 t194 t195 t196 t197 t198 t199 t200 t201 t202 t203 t204 t205 t206 t207 t208 t209 t210 t211 t212 t213 t214 t215 t216 t217 t218 t219 t220 t221 t222 t223 t224 t225 t226 t227 t228 t229 t230 t231 t232 t233 t234 t235 t236 t237 t238 t239 t240 t241 t242 t243 t244 t245 t246 t247 t248 t249 t250 t251 t252 t253 t254 t255 t256 t257 t258 t259 t260 t261 t262 t263 t264 t265 t266 t267 t268 t269 t270 t271 t272 t273 t274 t275 t276 t277 t278 t279 t280 t281 t282 t283 t284 t285 t286 t287 t288 t289 t290 t291 t292 t293 t294 t295 t296 t297 t298 t299 t300 t301 t302 t303 t304 t305 t306 t307 t308 t309 t310 t311 t312 t313 t314 t315 t316 t317 t318 t319 t320 t321 t322 t323 t324 t325 t326 t327 t328 t329 t330 t331 t332 t333 t334 t335 t336 t337 t338 f' vv' S' w2 hm hp => ⟨hN.out t2 t3 t4 t8 t9 t10 t11 t12 t18 t19 t20 t21 t22 t23 t24 t25 t26 t27 t28 t29 t30 t31 t32 t33 t34 t35 t36 t37 t38 t39 t40 t41 t42 t43 t44 t45 t46 t47 t48 t49 t50 t51 t52 t53 t54 t55 t56 t57 t58 t59 t60 t61 t62 t63 t64 t65 t66 t67 t68 t69 t70 t71 t72 t73 t74 t75 t76 t77 t78 t79 t80 t81 t82 t83 t84 t85 t86 t87 t88 t89 t90 t91 t92 t93 t94 t95 t96 t97 t98 t99 t100 t101 t102 t103 t104 t105 t106 t107 t108 t109 t110 t111 t112 t113 t114 t115 t116 t117 t118 t119 t120 t121 t122 t123 t124 t125 t126 t127 t128 t129 t130 t131 t132 t133 t134 t135 t136 t137 t138 t139 t140 t141 t142 t143 t144 t145 t146 t147 t148 t149 t150 t151 t152 t153 t154 t155 t156 t157 t158 t159 t160 t161 t162 t163 t164 t165 t166 t167 t168 t169 t170 t171 t172 t173 t174 t175 t176 t177 t178 t179 t180 t181 t182 t183 t184 t185 t186 t187 t188 t189 t190 t191 t192 t193 t194 t195 t196 t197 t198 t199 t200 t201 t202 t203 t204 t205 t206 t207 t208 t209 t210 t211 t212 t213 t214 t215 t216 t217 t218 t219 t220 t221 t222 t223 t224 t225 t226 t227 t228 t229 t230 t231 t232 t233 t234 t235 t236 t237 t238 t239 t240 t241 t242 t243 t244 t245 t246 t247 t248 t249 t250 t251 t252 t253 t254 t255 t256 t257 t258 t259 t260 t261 t262 t263 t264 t265 t266 t267 t268 t269 t270 t271 t272 t273 t274 t275 t276 t277 t278 t279 t280 t281 t282 t283 t284 t285 t286 t287 t288 t289 t290 t291 t292 t293 t294 t295 t296 t297 t298 t299 t300 t301 t302 t303 t304 t305 t306 t307 t308 t309 t310 t311 t312 t313 t314 t315 t316 t317 t318 t319 t320 t321 t322 t323 t324 t325 t326 t327 t328 t329 t330 t331 t332 t333 t334 t335 t336 t337 t338 f' vv' S' w2 hm hp, hN.out t2 t3 t4 t8 t9 t10 t11 t12 t18 t19 t20 t21 t22 t23 t24 t25 t26 t27 t28 t29 t30 t31 t32 t33 t34 t35 t36 t37 t38 t39 t40 t41 t42 t43 t44 t45 t46 t47 t48 t49 t50 t51 t52 t53 t54 t55 t56 t57 t58 t59 t60 t61 t62 t63 t64 t65 t66 t67 t68 t69 t70 t71 t72 t73 t74 t75 t76 t77 t78 t79 t80 t81 t82 t83 t84 t85 t86 t87 t88 t89 t90 t91 t92 t93 t94 t95 t96 t97 t98 t99 t100 t101 t102 t103 t104 t105 t106 t107 t108 t109 t110 t111 t112 t113 t114 t115 t116 t117 t118 t119 t120 t121 t122 t123 t124 t125 t126 t127 t128 t129 t130 t131 t132 t133 t134 t135 t136 t137 t138 t139 t140 t141 t142 t143 t144 t145 t146 t147 t148 t149 t150 t151 t152 t153 t154 t155 t156 t157 t158 t159 t160 t161 t162 t163 t164 t165 t166 t167 t168 t169 t170 t171 t172 t173 t174 t175 t176 t177 t178 t179 t180 t181 t182 t183 t184 t185 t186 t187 t188 t189 t190 t191 t192 t193 t194 t195 t196 t197 t198 t199 t200 t201 t202 t203 t204 t205 t206 t207 t208 t209 t210 t211 t212 t213 t214 t215 t216 t217 t218 t219 t220 t221 t222 t223 t224 t225 t226 t227 t228 t229 t230 t231 t232 t233 t234 t235 t236 t237 t238 t239 t240 t241 t242 t243 t244 t245 t246 t247 t248 t249 t250 t251 t252 t253 t254 t255 t256 t257 t258 t259 t260 t261 t262 t263 t264 t265 t266 t267 t268 t269 t270 t271 t272 t273 t274 t275 t276 t277 t278 t279 t280 t281 t282 t283 t284 t285 t286 t287 t288 t289 t290 t291 t292 t293 t294 t295 t296 t297 t298 t299 t300 t301 t302 t303 t304 t305 t306 t307 t308 t309 t310 t311 t312 t313 t314 t315 t316 t317 t318 t319 t320 t321 t322 t323 t324 t325 t326 t327 t328 t329 t330 t331 t332 t333 t334 t335 t336 t337 t338 f' vv' S' w2 hm hp⟩) hmid hI80 hI0 hbI hbI0 hkI hkI0 hsI hsI0 Hknb Hkn Hn5 Hxn Hxo
    · have hq1 : (xk == 1) = false := by simpa using hc1
      have hq3 : (xk != 1) = true := by simpa using hc1
      --PREP
      as_aux_lemma =>
        have hacc := Hmem.out.acc k Hkn.out
        have hlog := Hmem.out.log k Hkn.out
        have hlen := Hmem.out.len k Hkn.out
        have hp := hid (prepare_ls w3 (f.ab k) (f.wb k) (f.mb k) (f.d k) 0 (f.F k) (f.A k) (S.rs k) (S.sn k) b hacc hlog (by omega))
        have Hlen := hid hlen
        obtain ⟨hcs, hhb, hhc⟩ := Hmem.out.hc
        have Hhb := hid hhb
        have Hhc := hid hhc
        have hknb := Hknb.out
        have Hsaid := hid (hhc.said b k (by omega) (by omega))
        clear hacc hlog hlen d0 df zf z1 z2 z3 hc1 hc2 hhb hhc hknb
        go_wp2_with fail
        refine hp.out.mono ?_
        rintro e w4 ⟨A4, v4, F4, hI4, rfl, hA4, hU4, hr4, hf4, hd4⟩
        have hU4' : Upd w3 (f.own k) w4 (accF F4 (f.ab k) (f.wb k) (f.mb k)) := hU4
        have hnB : ∀ q, (B.has q ∨ q = xB) → ¬ f.own k q := fun q hq ho => by
          rcases hq with hq | hq
          · exact Hmem.out.off k Hkn.out q ho hq
          · exact Hxo.out k Hkn.out q ho hq
        have HnB := hid hnB
        have a1 := (Hab.out.kept hU4'.chg (HnB.out _ (.inl (.inr (.inl rfl))))).cell k Hac.out
        have z5 := (Hx.out.kept hU4'.chg (HnB.out _ (.inr rfl))).cell 4 rfl
        have hcl := (prepL_len (S.rs k) b).2
        have hm4 := Hmem.out.actSame (c' := i + 1) Hkn.out hA4 hI4 hU4' (by have := Hlen.out; omega) (by omega)
        have hp4 := Hinv.out.prep k Hkn.out b
        by_cases hy : whyF (stateR (S.rs k)).1 b = 0
        · have hpp := prepL_prom hy
          rw [if_pos hy] at hr4
          rw [← hpp.2] at hr4
          obtain ⟨va4, vc4, rfl, -, -, -⟩ := Row.cells hr4
          have Hr4 := hid hr4
          have Hpp := hid hpp.1
          by_cases hke : (bits .and .i64 xkeep 1 == 0) = true
          · have hs := sync_ls w4 (f.ab k) (f.wb k) (f.mb k) (f.d k) 0 F4 A4 (prepL (S.rs k) b) (S.sn k) hA4 hI4
            have Hs := hid hs
            obtain ⟨e0, e1, e2, ef⟩ := hA4.on.head.c3
            have HU4 := hid hU4'
            have Hf4 := hid hf4
            have Hd4 := hid hd4
            have hp5 := Hinv.out.prepS k Hkn.out b
            have Hp5 := hid hp5
            rw [hy]
            clear hm4 hp4 hs hA4 hI4 hU4 hU4' hr4 hf4 hd4 hcl hp hnB hy hpp hp5 a0 z4
            generalize hl4 : prepL (S.rs k) b = l4 at *
            have Hl4 := hid hl4
            clear hl4
            go_wp2_with fail
            refine Hs.out.mono ?_
            rintro e w5 ⟨A5, F5, hI5, rfl, hA5, hU5⟩
            have hU := HU4.out.trans hU5
            have hm5 := Hmem.out.actSame (c' := i + 1) Hkn.out hA5 hI5 hU (by rw [← Hl4.out]; have := (prepL_len (S.rs k) b).2; have := Hlen.out; omega) (by omega)
            have hh := (Hhb.out.kept hU.chg (HnB.out _ (.inl (.inr (.inr (.inl rfl))))))
            have h0 := hh.cell _ Hsaid.out
            have hfr := hh.free (b * 18 + k)
            have hfr2 := hh.free (b * 18 + 5 + k)
            have hknb := Hknb.out
            obtain ⟨x2, hx2⟩ : ∃ x2, hcs[b * 18 + 5 + k]? = some x2 := ⟨_, Array.getElem?_eq_getElem (by rw [Hhc.out.size]; omega)⟩
            have h2 := hh.cell _ hx2
            by_cases hsd : S.said b k = true
            · have Hm5 := hid hm5
              rw [hsd] at h0
              clear hm5 hU5 hA5 hI5 hU hh hfr hfr2 hx2 h2 hknb e0 e1 e2 ef a1 z5
              go_wp2_with fail
              exact hR.out _ _ _ _ _ _ _ _ _ _ _ _ _ _ _ _ _ _ _ _ _ _ _ _ _ _ _ _ _ _ _ _ _ _ _ _ _ _ _ _ _ _ _ _ _ _ _ _ _ _ _ _ _ _ _ _ _ _ _ _ _ _ _ _ _ _ _ _ _ _ _ _ _ _ _ _ _ _ _ _ _ _ _ _ _ _ _ _ _ _ _ _ _ _ _ _ _ _ _ _ _ _ _ _ _ _ _ _ _ _ _ _ _ _ _ _ _ _ _ _ _ _ _ _ _ _ _ _ _ _ _ _ _ _ _ _ _ _ _ _ _ _ _ _ _ _ _ _ _ _ _ _ _ _ _ _ _ _ _ _ _ _ _ _ _ _ _ _ _ _ _ _ _ _ _ _ _ _ _ _ _ _ _ _ _ _ _ _ _ _ _ _ _ _ _ _ _ _ _ _ _ _ _ _ _ _ _ _ _ _ _ _ _ _ _ _ _ _ _ _ _ _ _ _ _ _ _ _ _ _ _ _ _ _ _ _ _ _ _ _ _ _ _ _ _ _ _ _ _ _ _ _ _ _ _ _ _ _ _ _ _ _ _ _ _ _ _ _ _ _ _ _ _ _ _ _ _ _ _ _ _ _ _ _ _ _ _ _ _ _ _ _ _ _ _ _ _ _ _ _ _ _ _ _ _ _ _ _ _ _ _ _ _ _ _ _ _ _ _ _ _ _ _ _ _ _ _ _ _ _ _ _ _ Hm5.out Hp5.out
            · have hsf : S.said b k = false := by simpa using hsd
              rw [hsf] at h0
              have hap : ∀ q, Value.ownBlock (.slice va4 (stateR l4).2.length vc4) = some q → ¬ B.has q ∧ (∀ j, j < n → ¬ (f.set k (f.ab k) (f.wb k) (f.mb k) F5 A5).own j q) := by
                intro q hq
                have q1 := Hf4.out q hq
                have q2 := Hd4.out q hq
                have q3 := Row.lt Hr4.out hq
                refine ⟨fun hB => by have := Hmem.out.blt hB; omega, fun j hj ho => ?_⟩
                by_cases e : j = k
                · subst e
                  have ho' : accF F5 (f.ab j) (f.wb j) (f.mb j) q := by simpa [Fam.own, Fam.set] using ho
                  rcases hU5.foot q ho' with h | h
                  · exact q2 h
                  · omega
                · have ho' : f.own j q := by simpa [Fam.own, Fam.set, e] using ho
                  have := Hmem.out.fin hj ho'
                  omega
              have hr5 : VRow w5 (.slice va4 (stateR l4).2.length vc4) (stateR l4).2 := Row.kept Hr4.out hU5.chg (fun q hq h => Hd4.out q hq h)
              have hlen4 : (stateR l4).2.length ≤ i + 1 := by
                have h1 := stateR_len l4
                have h2 := (prepL_len (S.rs k) b).2
                have h3 := Hlen.out
                rw [Hl4.out] at h2
                omega
              have hmA := (hm5.setSaid b k (by omega) (by omega) true).setVote b k (by omega) (by omega) (.slice va4 (stateR l4).2.length vc4) (stateR l4).2 (Nat.le_refl _) (Row.kept hr5 ((Chg.refl (One B.hb) w5).setCell ⟨B.hb, b * 18 + k, none⟩ (.bool true) (fun _ => rfl)) (fun q hq e => (hap q hq).1 (.inr (.inr (.inl e))))) hlen4 hap
              have hmB := (hm5.setVote b k (by omega) (by omega) (.slice va4 (stateR l4).2.length vc4) (stateR l4).2 (Nat.le_refl _) hr5 hlen4 hap).setSaid b k (by omega) (by omega) true
              have hp6 := Hp5.out.hear b k Hkn.out (by simp) (by simp only [if_true]; exact Hpp.out) hsf
              simp only [if_true] at hp6
              have HmA := hid (hmA.same ((Chg.refl No _).drew))
              have HmB := hid (hmB.same ((Chg.refl No _).drew))
              have Hp6 := hid hp6
              clear hm5 hU5 hA5 hI5 hU hh hx2 hknb e0 e1 e2 ef a1 z5 hap hr5 hlen4 hmA hmB hp6 hsf hsd
              go_wp2_with fail
              go_region
              all_goals go_wp2_with fail
              all_goals first | exact hR.out _ _ _ _ _ _ _ _ _ _ _ _ _ _ _ _ _ _ _ _ _ _ _ _ _ _ _ _ _ _ _ _ _ _ _ _ _ _ _ _ _ _ _ _ _ _ _ _ _ _ _ _ _ _ _ _ _ _ _ _ _ _ _ _ _ _ _ _ _ _ _ _ _ _ _ _ _ _ _ _ _ _ _ _ _ _ _ _ _ _ _ _ _ _ _ _ _ _ _ _ _ _ _ _ _ _ _ _ _ _ _ _ _ _ _ _ _ _ _ _ _ _ _ _ _ _ _ _ _ _ _ _ _ _ _ _ _ _ _ _ _ _ _ _ _ _ _ _ _ _ _ _ _ _ _ _ _ _ _ _ _ _ _ _ _ _ _ _ _ _ _ _ _ _ _ _ _ _ _ _ _ _ _ _ _ _ _ _ _ _ _ _ _ _ _ _ _ _ _ _ _ _ _ _ _ _ _ _ _ _ _ _ _ _ _ _ _ _ _ _ _ _ _ _ _ _ _ _ _ _ _ _ _ _ _ _ _ _ _ _ _ _ _ _ _ _ _ _ _ _ _ _ _ _ _ _ _ _ _ _ _ _ _ _ _ _ _ _ _ _ _ _ _ _ _ _ _ _ _ _ _ _ _ _ _ _ _ _ _ _ _ _ _ _ _ _ _ _ _ _ _ _ _ _ _ _ _ _ _ _ _ _ _ _ _ _ _ _ _ _ _ _ _ _ _ _ _ _ _ _ _ _ _ HmA.out Hp6.out | exact hR.out _ _ _ _ _ _ _ _ _ _ _ _ _ _ _ _ _ _ _ _ _ _ _ _ _ _ _ _ _ _ _ _ _ _ _ _ _ _ _ _ _ _ _ _ _ _ _ _ _ _ _ _ _ _ _ _ _ _ _ _ _ _ _ _ _ _ _ _ _ _ _ _ _ _ _ _ _ _ _ _ _ _ _ _ _ _ _ _ _ _ _ _ _ _ _ _ _ _ _ _ _ _ _ _ _ _ _ _ _ _ _ _ _ _ _ _ _ _ _ _ _ _ _ _ _ _ _ _ _ _ _ _ _ _ _ _ _ _ _ _ _ _ _ _ _ _ _ _ _ _ _ _ _ _ _ _ _ _ _ _ _ _ _ _ _ _ _ _ _ _ _ _ _ _ _ _ _ _ _ _ _ _ _ _ _ _ _ _ _ _ _ _ _ _ _ _ _ _ _ _ _ _ _ _ _ _ _ _ _ _ _ _ _ _ _ _ _ _ _ _ _ _ _ _ _ _ _ _ _ _ _ _ _ _ _ _ _ _ _ _ _ _ _ _ _ _ _ _ _ _ _ _ _ _ _ _ _ _ _ _ _ _ _ _ _ _ _ _ _ _ _ _ _ _ _ _ _ _ _ _ _ _ _ _ _ _ _ _ _ _ _ _ _ _ _ _ _ _ _ _ _ _ _ _ _ _ _ _ _ _ _ _ _ _ _ _ _ _ _ _ _ _ _ _ _ _ _ _ _ _ _ _ _ HmB.out Hp6.out
          · have hkf : (bits .and .i64 xkeep 1 == 0) = false := by simpa using hke
            have Hm4 := hid hm4
            have Hp4 := hid hp4
            rw [hy]
            clear hm4 hp4 hA4 hI4 hU4 hU4' hr4 hf4 hd4 hcl hp hnB hy hpp hke a0 z4
            go_wp2_with fail
            exact hR.out _ _ _ _ _ _ _ _ _ _ _ _ _ _ _ _ _ _ _ _ _ _ _ _ _ _ _ _ _ _ _ _ _ _ _ _ _ _ _ _ _ _ _ _ _ _ _ _ _ _ _ _ _ _ _ _ _ _ _ _ _ _ _ _ _ _ _ _ _ _ _ _ _ _ _ _ _ _ _ _ _ _ _ _ _ _ _ _ _ _ _ _ _ _ _ _ _ _ _ _ _ _ _ _ _ _ _ _ _ _ _ _ _ _ _ _ _ _ _ _ _ _ _ _ _ _ _ _ _ _ _ _ _ _ _ _ _ _ _ _ _ _ _ _ _ _ _ _ _ _ _ _ _ _ _ _ _ _ _ _ _ _ _ _ _ _ _ _ _ _ _ _ _ _ _ _ _ _ _ _ _ _ _ _ _ _ _ _ _ _ _ _ _ _ _ _ _ _ _ _ _ _ _ _ _ _ _ _ _ _ _ _ _ _ _ _ _ _ _ _ _ _ _ _ _ _ _ _ _ _ _ _ _ _ _ _ _ _ _ _ _ _ _ _ _ _ _ _ _ _ _ _ _ _ _ _ _ _ _ _ _ _ _ _ _ _ _ _ _ _ _ _ _ _ _ _ _ _ _ _ _ _ _ _ _ _ _ _ _ _ _ _ _ _ _ _ _ _ _ _ _ _ _ _ _ _ _ _ _ _ _ _ _ _ _ _ _ _ _ _ _ _ _ _ _ _ _ _ _ _ _ _ _ Hm4.out Hp4.out
        · have hyb : (whyF (stateR (S.rs k)).1 b == 0) = false := by simpa using hy
          have Hm4 := hid hm4
          have Hp4 := hid hp4
          clear hm4 hp4 hA4 hI4 hU4 hU4' hr4 hf4 hd4 hcl hp hnB hy a0 z4
          generalize whyF (stateR (S.rs k)).1 b = wc at *
          go_wp2_with fail
          exact hR.out _ _ _ _ _ _ _ _ _ _ _ _ _ _ _ _ _ _ _ _ _ _ _ _ _ _ _ _ _ _ _ _ _ _ _ _ _ _ _ _ _ _ _ _ _ _ _ _ _ _ _ _ _ _ _ _ _ _ _ _ _ _ _ _ _ _ _ _ _ _ _ _ _ _ _ _ _ _ _ _ _ _ _ _ _ _ _ _ _ _ _ _ _ _ _ _ _ _ _ _ _ _ _ _ _ _ _ _ _ _ _ _ _ _ _ _ _ _ _ _ _ _ _ _ _ _ _ _ _ _ _ _ _ _ _ _ _ _ _ _ _ _ _ _ _ _ _ _ _ _ _ _ _ _ _ _ _ _ _ _ _ _ _ _ _ _ _ _ _ _ _ _ _ _ _ _ _ _ _ _ _ _ _ _ _ _ _ _ _ _ _ _ _ _ _ _ _ _ _ _ _ _ _ _ _ _ _ _ _ _ _ _ _ _ _ _ _ _ _ _ _ _ _ _ _ _ _ _ _ _ _ _ _ _ _ _ _ _ _ _ _ _ _ _ _ _ _ _ _ _ _ _ _ _ _ _ _ _ _ _ _ _ _ _ _ _ _ _ _ _ _ _ _ _ _ _ _ _ _ _ _ _ _ _ _ _ _ _ _ _ _ _ _ _ _ _ _ _ _ _ _ _ _ _ _ _ _ _ _ _ _ _ _ _ _ _ _ _ _ _ _ _ _ _ _ _ _ _ _ _ _ _ _ Hm4.out Hp4.out
      --ENDPREP
end Go.Proofs.Ytfmcfcjcmmlmfaa

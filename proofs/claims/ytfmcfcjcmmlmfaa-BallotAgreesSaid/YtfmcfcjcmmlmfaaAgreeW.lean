/- The walk over BallotAgrees. -/
import Derived.Test.YtfmcfcjcmmlmfaaAgreeR
namespace Go.Proofs.Ytfmcfcjcmmlmfaa
open Go Go.RowKit Go.Maps
set_option linter.unusedVariables false

def StepsSeen (w : World) (v : Value) (l : List StepT) : Prop :=
  ∃ a c, v = .slice a l.length c ∧ l.length ≤ 9223372036854775807 ∧ ∀ i x, l[i]? = some x → (u8r x.k ∧ u8r x.a ∧ u8r x.b ∧ u8r x.s) ∧ ∃ g off, a = some ⟨g, off, none⟩ ∧ w.cell? ⟨g, off + i * 5, none⟩ = some (.int .u8 x.k) ∧ w.cell? ⟨g, off + i * 5 + 1, none⟩ = some (.int .u8 x.a)
    ∧ w.cell? ⟨g, off + i * 5 + 2, none⟩ = some (.int .u8 x.b) ∧ w.cell? ⟨g, off + i * 5 + 3, none⟩ = some (.int .u8 x.s) ∧ w.cell? ⟨g, off + i * 5 + 4, none⟩ = some (.int .i64 x.keep)

theorem wp_world {P : Program} {c : Code} {Q : Exit → Act → World → Prop} {a : Act} {w : World} (w' : World) (h : w = w') (k : c.wp P Q a w') : c.wp P Q a w := h ▸ k

set_option maxRecDepth 1000000 in
/-- the frame at the great loop's head -/
inductive AgFr (z : Int) (la : Option Addr) (ln lc n : Nat) (B : AgB) (i : Nat) : Act → Prop
  | mk (t2 t3 t4 t8 t9 t10 t11 t12 t18 t19 t20 t21 t22 t23 t24 t25 t26 t27 t28 t29 t30 t31 t32 t33 t34 t35 t36 t37 t38 t39 t40 t41 t42 t43 t44 t45 t46 t47 t48 t49 t50 t51 t52 t53 t54 t55 t56 t57 t58 t59 t60 t61 t62 t63 t64 t65 t66 t67 t68 t69 t70 t71 t72 t73 t74 t75 t76 t77 t78 t79 t80 t81 t82 t83 t84 t85 t86 t87 t88 t89 t90 t91 t92 t93 t94 t95 t96 t97 t98 t99 t100 t101 t102 t103 t104 t105 t106 t107 t108 t109 t110 t111 t112 t113 t114 t115 t116 t117 t118 t119 t120 t121 t122 t123 t124 t125 t126 t127 t128 t129 t130 t131 t132 t133 t134 t135 t136 t137 t138 t139 t140 t141 t142 t143 t144 t145 t146 t147 t148 t149 t150 t151 t152 t153 t154 t155 t156 t157 t158 t159 t160 t161 t162 t163 t164 t165 t166 t167 t168 t169 t170 t171 t172 t173 t174 t175 t176 t177 t178 t179 t180 t181 t182 t183 t184 t185 t186 t187 t188 t189 t190 t191 t192 t193 t194 t195 t196 t197 t198 t199 t200 t201 t202 t203 t204 t205 t206 t207 t208 t209 t210 t211 t212 t213 t214 t215 t216 t217 t218 t219 t220 t221 t222 t223 t224 t225 t226 t227 t228 t229 t230 t231 t232 t233 t234 t235 t236 t237 t238 t239 t240 t241 t242 t243 t244 t245 t246 t247 t248 t249 t250 t251 t252 t253 t254 t255 t256 t257 t258 t259 t260 t261 t262 t263 t264 t265 t266 t267 t268 t269 t270 t271 t272 t273 t274 t275 t276 t277 t278 t279 t280 t281 t282 t283 t284 t285 t286 t287 t288 t289 t290 t291 t292 t293 t294 t295 t296 t297 t298 t299 t300 t301 t302 t303 t304 t305 t306 t307 t308 t309 t310 t311 t312 t313 t314 t315 t316 t317 t318 t319 t320 t321 t322 t323 t324 t325 t326 t327 t328 t329 t330 t331 t332 t333 t334 t335 t336 t337 t338 : Value) : AgFr z la ln lc n B i ⟨(List.toArray ((.int .u8 z : Value) :: (.slice la ln lc : Value) :: t2 :: t3 :: t4 :: (.int .i64 n : Value) :: (.pointer (some ⟨B.db, 0, none⟩) : Value) :: (.pointer (some ⟨B.al, 0, none⟩) : Value) :: t8 :: t9 :: t10 :: t11 :: t12 :: (.pointer (some ⟨B.hb, 0, none⟩) : Value) :: (.pointer (some ⟨B.tb, 0, none⟩) : Value) :: (.pointer (some ⟨B.cb, 0, none⟩) : Value) :: (.pointer (some ⟨B.ib, 0, none⟩) : Value) :: (.int .i64 i : Value) :: t18 :: t19 :: t20 :: t21 :: t22 :: t23 :: t24 :: t25 :: t26 :: t27 :: t28 :: t29 :: t30 :: t31 :: t32 :: t33 :: t34 :: t35 :: t36 :: t37 :: t38 :: t39 :: t40 :: t41 :: t42 :: t43 :: t44 :: t45 :: t46 :: t47 :: t48 :: t49 :: t50 :: t51 :: t52 :: t53 :: t54 :: t55 :: t56 :: t57 :: t58 :: t59 :: t60 :: t61 :: t62 :: t63 :: t64 :: t65 :: t66 :: t67 :: t68 :: t69 :: t70 :: t71 :: t72 :: t73 :: t74 :: t75 :: t76 :: t77 :: t78 :: t79 :: t80 :: t81 :: t82 :: t83 :: t84 :: t85 :: t86 :: t87 :: t88 :: t89 :: t90 :: t91 :: t92 :: t93 :: t94 :: t95 :: t96 :: t97 :: t98 :: t99 :: t100 :: t101 :: t102 :: t103 :: t104 :: t105 :: t106 :: t107 :: t108 :: t109 :: t110 :: t111 :: t112 :: t113 :: t114 :: t115 :: t116 :: t117 :: t118 :: t119 :: t120 :: t121 :: t122 :: t123 :: t124 :: t125 :: t126 :: t127 :: t128 :: t129 :: t130 :: t131 :: t132 :: t133 :: t134 :: t135 :: t136 :: t137 :: t138 :: t139 :: t140 :: t141 :: t142 :: t143 :: t144 :: t145 :: t146 :: t147 :: t148 :: t149 :: t150 :: t151 :: t152 :: t153 :: t154 :: t155 :: t156 :: t157 :: t158 :: t159 :: t160 :: t161 :: t162 :: t163 :: t164 :: t165 :: t166 :: t167 :: t168 :: t169 :: t170 :: t171 :: t172 :: t173 :: t174 :: t175 :: t176 :: t177 :: t178 :: t179 :: t180 :: t181 :: t182 :: t183 :: t184 :: t185 :: t186 :: t187 :: t188 :: t189 :: t190 :: t191 :: t192 :: t193 :: t194 :: t195 :: t196 :: t197 :: t198 :: t199 :: t200 :: t201 :: t202 :: t203 :: t204 :: t205 :: t206 :: t207 :: t208 :: t209 :: t210 :: t211 :: t212 :: t213 :: t214 :: t215 :: t216 :: t217 :: t218 :: t219 :: t220 :: t221 :: t222 :: t223 :: t224 :: t225 :: t226 :: t227 :: t228 :: t229 :: t230 :: t231 :: t232 :: t233 :: t234 :: t235 :: t236 :: t237 :: t238 :: t239 :: t240 :: t241 :: t242 :: t243 :: t244 :: t245 :: t246 :: t247 :: t248 :: t249 :: t250 :: t251 :: t252 :: t253 :: t254 :: t255 :: t256 :: t257 :: t258 :: t259 :: t260 :: t261 :: t262 :: t263 :: t264 :: t265 :: t266 :: t267 :: t268 :: t269 :: t270 :: t271 :: t272 :: t273 :: t274 :: t275 :: t276 :: t277 :: t278 :: t279 :: t280 :: t281 :: t282 :: t283 :: t284 :: t285 :: t286 :: t287 :: t288 :: t289 :: t290 :: t291 :: t292 :: t293 :: t294 :: t295 :: t296 :: t297 :: t298 :: t299 :: t300 :: t301 :: t302 :: t303 :: t304 :: t305 :: t306 :: t307 :: t308 :: t309 :: t310 :: t311 :: t312 :: t313 :: t314 :: t315 :: t316 :: t317 :: t318 :: t319 :: t320 :: t321 :: t322 :: t323 :: t324 :: t325 :: t326 :: t327 :: t328 :: t329 :: t330 :: t331 :: t332 :: t333 :: t334 :: t335 :: t336 :: t337 :: t338 :: [])), []⟩
set_option maxRecDepth 1000000 in
def AgI (w : World) (z : Int) (la : Option Addr) (l : List StepT) (lc n : Nat) (B : AgB) (m : Nat) (a : Act) (wr : World) : Prop :=
  ∃ (i : Nat) (f : Fam) (vv : Nat → Nat → Value) (S : PS), m = 80 - i ∧ i ≤ 80 ∧ AgMem w n i B f f.ab vv S wr ∧ PInv n S ∧ AgFr z la l.length lc n B i a

theorem ag_down {i : Nat} (h : i < 80) : 80 - (i + 1) < 80 - i := by omega

set_option maxRecDepth 1000000 in
set_option maxHeartbeats 8000000 in
theorem agrees_ok (w : World) (z : Int) (hz : 0 ≤ z ∧ z ≤ 255) (v : Value) (l : List StepT) (hv : StepsSeen w v l) : Calls Try.prog 6 #[.int .u8 z, v] w fun e w' => e = .returned (.bool true) ∧ Chg No w w' := by
  obtain ⟨hz0, hz1⟩ := hz
  obtain ⟨la, lc, rfl, hll, hls⟩ := hv
  have Hll := hid hll
  have HS : Hid (∀ (wr : World), Chg No w wr → ∀ i x, l[i]? = some x → (u8r x.k ∧ u8r x.a ∧ u8r x.b ∧ u8r x.s) ∧ ∃ g off, la = some ⟨g, off, none⟩ ∧ wr.cell? ⟨g, off + i * 5, none⟩ = some (.int .u8 x.k) ∧ wr.cell? ⟨g, off + i * 5 + 1, none⟩ = some (.int .u8 x.a)
    ∧ wr.cell? ⟨g, off + i * 5 + 2, none⟩ = some (.int .u8 x.b) ∧ wr.cell? ⟨g, off + i * 5 + 3, none⟩ = some (.int .u8 x.s) ∧ wr.cell? ⟨g, off + i * 5 + 4, none⟩ = some (.int .i64 x.keep)) := by
    refine hid fun wr hc i x hx => ?_
    obtain ⟨h1, g, off, ha, z0, z1, z2, z3, z4⟩ := hls i x hx
    exact ⟨h1, g, off, ha, hc.cellN z0, hc.cellN z1, hc.cellN z2, hc.cellN z3, hc.cellN z4⟩
  clear hll hls
  go_enter Try.func6, Try.ntmps6
  go_wp2_with fail
  obtain ⟨n, hn⟩ : ∃ n : Nat, 1 + z % 5 = (n : Int) := ⟨(1 + z % 5).toNat, by omega⟩
  have hn1 : 1 ≤ n := by omega
  have hn5 : n ≤ 5 := by omega
  rw [hn]
  clear hn
  have hI0 : AgStart w 0 w.heap.size (w.heap.size + 1) ⟨fun _ => 0, fun _ => 0, fun _ => 0, fun _ => 0, fun _ _ => False, fun _ => AccS.fresh disk1 0⟩ ((w.alloc (.cells #[.pointer none, .pointer none, .pointer none, .pointer none, .pointer none] 57)).alloc (.cells #[.pointer none, .pointer none, .pointer none, .pointer none, .pointer none] 58)) := by
    have h1 := Blk.new w #[.pointer none, .pointer none, .pointer none, .pointer none, .pointer none] 57
    have k1 : Chg No w (w.alloc (.cells #[.pointer none, .pointer none, .pointer none, .pointer none, .pointer none] 57)) := (Chg.refl _ _).alloc _
    have s1 : (w.alloc (.cells #[.pointer none, .pointer none, .pointer none, .pointer none, .pointer none] 57)).heap.size = w.heap.size + 1 := by simp
    generalize (w.alloc (.cells #[.pointer none, .pointer none, .pointer none, .pointer none, .pointer none] 57)) = w1 at *
    have h2 := Blk.new w1 #[.pointer none, .pointer none, .pointer none, .pointer none, .pointer none] 58
    have k2 : Chg No w1 (w1.alloc (.cells #[.pointer none, .pointer none, .pointer none, .pointer none, .pointer none] 58)) := (Chg.refl _ _).alloc _
    rw [s1] at h2
    exact ⟨fun k hk => by omega, fun k hk => by omega, fun j k hj => by omega, fun k hk => by omega, fun k hk => by omega, ⟨Nat.le_refl _, by omega⟩, ⟨_, h1.kept k2 id, rfl, fun k hk => by omega⟩, ⟨_, h2, rfl, fun k hk => by omega⟩, k1.same k2⟩
  have HI0 := hid hI0
  clear hI0
  generalize ((w.alloc (.cells #[.pointer none, .pointer none, .pointer none, .pointer none, .pointer none] 57)).alloc (.cells #[.pointer none, .pointer none, .pointer none, .pointer none, .pointer none] 58)) = W0 at *
  obtain ⟨db, hdb⟩ : ∃ db, w.heap.size = db := ⟨_, rfl⟩
  rw [hdb] at HI0 ⊢
  obtain ⟨al, hal⟩ : ∃ al, db + 1 = al := ⟨_, rfl⟩
  rw [hal] at HI0 ⊢
  clear hdb hal
  go_loopw [8] (fun v8 wr => ∃ (i : Nat) (f : Fam), v8 = .int .i64 i ∧ i ≤ n ∧ AgStart w i db al f wr) (fun v8 _ => n - (intOf v8).toNat)
  case atStart => exact ⟨0, _, rfl, Nat.zero_le _, HI0.out⟩
  case round =>
    obtain ⟨i, f, rfl, hi, hinv⟩ := hrel
    by_cases hlt : i < n
    · as_aux_lemma =>
        have hnw := hid (new_one wr)
        have Hinv := hid hinv
        have hIi : (i : Int) < (n : Int) := by omega
        have hI0 : (0 : Int) ≤ (i : Int) := by omega
        have hI5 : (i : Int) < 5 := by omega
        have hwi : wrap64 ((i : Int) + 1) = (i : Int) + 1 := by unfold wrap64; omega
        clear hinv
        go_wp2_with fail
        refine hnw.out.mono ?_
        rintro e w1 ⟨d, F, rfl, hD, hch, hF⟩
        have ho := hid (open_one w1 d F hD)
        have Hch := hid hch
        have HF := hid hF
        clear hD hch hF
        go_wp2_with fail
        refine ho.out.mono ?_
        rintro e w2 ⟨ab, wb, mb, F2, rfl, hA, hU⟩
        have hst := Hinv.out.step (by omega) Hch.out HF.out hA fresh_log hU
        have hc2 : Chg No wr w2 := Hch.out.trans hU.chg (fun q hq hf => by have := HF.out q hf; omega)
        obtain ⟨dcs, hd, hds, -⟩ := Hinv.out.dc
        obtain ⟨acs, ha, has, -⟩ := Hinv.out.ac
        have hd2 := hd.kept hc2 id
        have ha2 := ha.kept hc2 id
        obtain ⟨x, hx⟩ : ∃ x, dcs[i]? = some x := ⟨_, Array.getElem?_eq_getElem (by omega)⟩
        obtain ⟨y, hy⟩ : ∃ y, acs[i]? = some y := ⟨_, Array.getElem?_eq_getElem (by omega)⟩
        have d0 := hd2.cell i hx
        have df := hd2.free i
        have a0 := ha2.cell i hy
        have af := ha2.free i
        have hne : db ≠ al := by have := Hinv.out.ord; omega
        have Hst := hid hst
        clear hst hA hU hc2 hd ha hd2 ha2 hds has hx hy ho hnw Hch HF
        go_wp2_with fail
        exact ⟨⟨i + 1, _, by go_num, by omega, Hst.out⟩, by first | (rw [hwi]; show n - ((i : Int) + 1).toNat < n - (i : Int).toNat; omega) | (show n - ((i : Int) + 1).toNat < n - (i : Int).toNat; omega)⟩
    · have hii : n = i := by omega
      subst hii
      have hb := hinv.begin hn5
      have Hb := hid hb
      clear hb hinv
      go_wp2_with fail
      refine wp_world ((((wr.alloc (.cells zHeard 65)).alloc (.cells zTook 67)).alloc (.cells #[.string ByteArray.empty, .string ByteArray.empty, .string ByteArray.empty, .string ByteArray.empty] 62)).alloc (.cells #[.bool false, .bool false, .bool false, .bool false] 61)) (by kernel_rfl) ?_
      generalize ((((wr.alloc (.cells zHeard 65)).alloc (.cells zTook 67)).alloc (.cells #[.string ByteArray.empty, .string ByteArray.empty, .string ByteArray.empty, .string ByteArray.empty] 62)).alloc (.cells #[.bool false, .bool false, .bool false, .bool false] 61)) = W1 at *
      obtain ⟨B, hB⟩ : ∃ B : AgB, B = ⟨db, al, wr.heap.size, wr.heap.size + 1, wr.heap.size + 1 + 1, wr.heap.size + 1 + 1 + 1⟩ := ⟨_, rfl⟩
      rw [← hB] at Hb
      have b1 : db = B.db := by rw [hB]
      have b2 : al = B.al := by rw [hB]
      have b6 : wr.heap.size + 1 + 1 + 1 = B.ib := by rw [hB]
      have b5 : wr.heap.size + 1 + 1 = B.cb := by rw [hB]
      have b4 : wr.heap.size + 1 = B.tb := by rw [hB]
      have b3 : wr.heap.size = B.hb := by rw [hB]
      rw [b6, b5, b4, b3, b2, b1]
      clear b1 b2 b3 b4 b5 b6 hB HI0
      refine wp_loop_ghost (AgI w z la l lc n B) 80 ⟨0, f, _, _, rfl, by omega, Hb.out, PInv.start n, AgFr.mk _ _ _ _ _ _ _ _ _ _ _ _ _ _ _ _ _ _ _ _ _ _ _ _ _ _ _ _ _ _ _ _ _ _ _ _ _ _ _ _ _ _ _ _ _ _ _ _ _ _ _ _ _ _ _ _ _ _ _ _ _ _ _ _ _ _ _ _ _ _ _ _ _ _ _ _ _ _ _ _ _ _ _ _ _ _ _ _ _ _ _ _ _ _ _ _ _ _ _ _ _ _ _ _ _ _ _ _ _ _ _ _ _ _ _ _ _ _ _ _ _ _ _ _ _ _ _ _ _ _ _ _ _ _ _ _ _ _ _ _ _ _ _ _ _ _ _ _ _ _ _ _ _ _ _ _ _ _ _ _ _ _ _ _ _ _ _ _ _ _ _ _ _ _ _ _ _ _ _ _ _ _ _ _ _ _ _ _ _ _ _ _ _ _ _ _ _ _ _ _ _ _ _ _ _ _ _ _ _ _ _ _ _ _ _ _ _ _ _ _ _ _ _ _ _ _ _ _ _ _ _ _ _ _ _ _ _ _ _ _ _ _ _ _ _ _ _ _ _ _ _ _ _ _ _ _ _ _ _ _ _ _ _ _ _ _ _ _ _ _ _ _ _ _ _ _ _ _ _ _ _ _ _ _ _ _ _ _ _ _ _ _ _ _ _ _ _ _ _ _ _ _ _ _ _ _ _ _ _ _ _ _ _ _ _ _ _ _ _ _ _ _ _ _ _ _ _ _ _⟩ ?_
      rintro m a wq ⟨i, f, vv, S, rfl, hi80, hmem, hinv, hfr⟩
      cases hfr with
      | mk t2 t3 t4 t8 t9 t10 t11 t12 t18 t19 t20 t21 t22 t23 t24 t25 t26 t27 t28 t29 t30 t31 t32 t33 t34 t35 t36 t37 t38 t39 t40 t41 t42 t43 t44 t45 t46 t47 t48 t49 t50 t51 t52 t53 t54 t55 t56 t57 t58 t59 t60 t61 t62 t63 t64 t65 t66 t67 t68 t69 t70 t71 t72 t73 t74 t75 t76 t77 t78 t79 t80 t81 t82 t83 t84 t85 t86 t87 t88 t89 t90 t91 t92 t93 t94 t95 t96 t97 t98 t99 t100 t101 t102 t103 t104 t105 t106 t107 t108 t109 t110 t111 t112 t113 t114 t115 t116 t117 t118 t119 t120 t121 t122 t123 t124 t125 t126 t127 t128 t129 t130 t131 t132 t133 t134 t135 t136 t137 t138 t139 t140 t141 t142 t143 t144 t145 t146 t147 t148 t149 t150 t151 t152 t153 t154 t155 t156 t157 t158 t159 t160 t161 t162 t163 t164 t165 t166 t167 t168 t169 t170 t171 t172 t173 t174 t175 t176 t177 t178 t179 t180 t181 t182 t183 t184 t185 t186 t187 t188 t189 t190 t191 t192 t193 t194 t195 t196 t197 t198 t199 t200 t201 t202 t203 t204 t205 t206 t207 t208 t209 t210 t211 t212 t213 t214 t215 t216 t217 t218 t219 t220 t221 t222 t223 t224 t225 t226 t227 t228 t229 t230 t231 t232 t233 t234 t235 t236 t237 t238 t239 t240 t241 t242 t243 t244 t245 t246 t247 t248 t249 t250 t251 t252 t253 t254 t255 t256 t257 t258 t259 t260 t261 t262 t263 t264 t265 t266 t267 t268 t269 t270 t271 t272 t273 t274 t275 t276 t277 t278 t279 t280 t281 t282 t283 t284 t285 t286 t287 t288 t289 t290 t291 t292 t293 t294 t295 t296 t297 t298 t299 t300 t301 t302 t303 t304 t305 t306 t307 t308 t309 t310 t311 t312 t313 t314 t315 t316 t317 t318 t319 t320 t321 t322 t323 t324 t325 t326 t327 t328 t329 t330 t331 t332 t333 t334 t335 t336 t337 t338 =>
          by_cases hlen : i < l.length
          · by_cases h80 : i < 80
            · obtain ⟨x, hx⟩ : ∃ x, l[i]? = some x := ⟨_, List.getElem?_eq_getElem hlen⟩
              obtain ⟨-, g, off, rfl, -⟩ := HS.out wq hmem.chg i x hx
              clear hx
              refine wp_code (c' := agBody) (by kernel_rfl) ?_
              exact ag_round w z l g off lc n i B f vv S wq t2 t3 t4 t8 t9 t10 t11 t12 t18 t19 t20 t21 t22 t23 t24 t25 t26 t27 t28 t29 t30 t31 t32 t33 t34 t35 t36 t37 t38 t39 t40 t41 t42 t43 t44 t45 t46 t47 t48 t49 t50 t51 t52 t53 t54 t55 t56 t57 t58 t59 t60 t61 t62 t63 t64 t65 t66 t67 t68 t69 t70 t71 t72 t73 t74 t75 t76 t77 t78 t79 t80 t81 t82 t83 t84 t85 t86 t87 t88 t89 t90 t91 t92 t93 t94 t95 t96 t97 t98 t99 t100 t101 t102 t103 t104 t105 t106 t107 t108 t109 t110 t111 t112 t113 t114 t115 t116 t117 t118 t119 t120 t121 t122 t123 t124 t125 t126 t127 t128 t129 t130 t131 t132 t133 t134 t135 t136 t137 t138 t139 t140 t141 t142 t143 t144 t145 t146 t147 t148 t149 t150 t151 t152 t153 t154 t155 t156 t157 t158 t159 t160 t161 t162 t163 t164 t165 t166 t167 t168 t169 t170 t171 t172 t173 t174 t175 t176 t177 t178 t179 t180 t181 t182 t183 t184 t185 t186 t187 t188 t189 t190 t191 t192 t193 t194 t195 t196 t197 t198 t199 t200 t201 t202 t203 t204 t205 t206 t207 t208 t209 t210 t211 t212 t213 t214 t215 t216 t217 t218 t219 t220 t221 t222 t223 t224 t225 t226 t227 t228 t229 t230 t231 t232 t233 t234 t235 t236 t237 t238 t239 t240 t241 t242 t243 t244 t245 t246 t247 t248 t249 t250 t251 t252 t253 t254 t255 t256 t257 t258 t259 t260 t261 t262 t263 t264 t265 t266 t267 t268 t269 t270 t271 t272 t273 t274 t275 t276 t277 t278 t279 t280 t281 t282 t283 t284 t285 t286 t287 t288 t289 t290 t291 t292 t293 t294 t295 t296 t297 t298 t299 t300 t301 t302 t303 t304 t305 t306 t307 t308 t309 t310 t311 t312 t313 t314 t315 t316 t317 t318 t319 t320 t321 t322 t323 t324 t325 t326 t327 t328 t329 t330 t331 t332 t333 t334 t335 t336 t337 t338 _ (hid fun t2 t3 t4 t8 t9 t10 t11 t12 t18 t19 t20 t21 t22 t23 t24 t25 t26 t27 t28 t29 t30 t31 t32 t33 t34 t35 t36 t37 t38 t39 t40 t41 t42 t43 t44 t45 t46 t47 t48 t49 t50 t51 t52 t53 t54 t55 t56 t57 t58 t59 t60 t61 t62 t63 t64 t65 t66 t67 t68 t69 t70 t71 t72 t73 t74 t75 t76 t77 t78 t79 t80 t81 t82 t83 t84 t85 t86 t87 t88 t89 t90 t91 t92 t93 t94 t95 t96 t97 t98 t99 t100 t101 t102 t103 t104 t105 t106 t107 t108 t109 t110 t111 t112 t113 t114 t115 t116 t117 t118 t119 t120 t121 t122 t123 t124 t125 t126 t127 t128 t129 t130 t131 t132 t133 t134 t135 t136 t137 t138 t139 t140 t141 t142 t143 t144 t145 t146 t147 t148 t149 t150 t151 t152 t153 t154 t155 t156 t157 t158 t159 t160 t161 t162 t163 t164 t165 t166 t167 t168 t169 t170 t171 t172 t173 t174 t175 t176 t177 t178 t179 t180 t181 t182 t183 t184 t185 t186 t187 t188 t189 t190 t191 t192 t193 t194 t195 t196 t197 t198 t199 t200 t201 t202 t203 t204 t205 t206 t207 t208 t209 t210 t211 t212 t213 t214 t215 t216 t217 t218 t219 t220 t221 t222 t223 t224 t225 t226 t227 t228 t229 t230 t231 t232 t233 t234 t235 t236 t237 t238 t239 t240 t241 t242 t243 t244 t245 t246 t247 t248 t249 t250 t251 t252 t253 t254 t255 t256 t257 t258 t259 t260 t261 t262 t263 t264 t265 t266 t267 t268 t269 t270 t271 t272 t273 t274 t275 t276 t277 t278 t279 t280 t281 t282 t283 t284 t285 t286 t287 t288 t289 t290 t291 t292 t293 t294 t295 t296 t297 t298 t299 t300 t301 t302 t303 t304 t305 t306 t307 t308 t309 t310 t311 t312 t313 t314 t315 t316 t317 t318 t319 t320 t321 t322 t323 t324 t325 t326 t327 t328 t329 t330 t331 t332 t333 t334 t335 t336 t337 t338 w' f' vv' S' hm hp => ⟨80 - (i + 1), ag_down h80, i + 1, f', vv', S', rfl, h80, hm, hp, AgFr.mk _ _ _ _ _ _ _ _ _ _ _ _ _ _ _ _ _ _ _ _ _ _ _ _ _ _ _ _ _ _ _ _ _ _ _ _ _ _ _ _ _ _ _ _ _ _ _ _ _ _ _ _ _ _ _ _ _ _ _ _ _ _ _ _ _ _ _ _ _ _ _ _ _ _ _ _ _ _ _ _ _ _ _ _ _ _ _ _ _ _ _ _ _ _ _ _ _ _ _ _ _ _ _ _ _ _ _ _ _ _ _ _ _ _ _ _ _ _ _ _ _ _ _ _ _ _ _ _ _ _ _ _ _ _ _ _ _ _ _ _ _ _ _ _ _ _ _ _ _ _ _ _ _ _ _ _ _ _ _ _ _ _ _ _ _ _ _ _ _ _ _ _ _ _ _ _ _ _ _ _ _ _ _ _ _ _ _ _ _ _ _ _ _ _ _ _ _ _ _ _ _ _ _ _ _ _ _ _ _ _ _ _ _ _ _ _ _ _ _ _ _ _ _ _ _ _ _ _ _ _ _ _ _ _ _ _ _ _ _ _ _ _ _ _ _ _ _ _ _ _ _ _ _ _ _ _ _ _ _ _ _ _ _ _ _ _ _ _ _ _ _ _ _ _ _ _ _ _ _ _ _ _ _ _ _ _ _ _ _ _ _ _ _ _ _ _ _ _ _ _ _ _ _ _ _ _ _ _ _ _ _ _ _ _ _ _ _ _ _ _ _ _ _ _ _ _ _ _ _⟩) HS hmem hinv hlen h80 hn1 hn5
            · have hi8 : i = 80 := by omega
              subst hi8
              have haw := hid (awake_ok wq)
              have Hc := hid hmem.chg
              have hIl : ((80 : Nat) : Int) < (l.length : Int) := by omega
              clear hmem hinv HS
              go_wp2_with fail
              refine haw.out.mono ?_
              rintro e w1 ⟨rfl, hch⟩
              have Hc2 := hid (Hc.out.same hch)
              clear hch haw
              go_wp2_with fail
              go_ret
              exact ⟨rfl, Hc2.out⟩
          · have haw := hid (awake_ok wq)
            have Hc := hid hmem.chg
            have hIl : ¬ ((i : Int) < (l.length : Int)) := by omega
            clear hmem hinv HS
            go_wp2_with fail
            refine haw.out.mono ?_
            rintro e w1 ⟨rfl, hch⟩
            have Hc2 := hid (Hc.out.same hch)
            clear hch haw
            go_wp2_with fail
            go_ret
            exact ⟨rfl, Hc2.out⟩
end Go.Proofs.Ytfmcfcjcmmlmfaa

/- The round of BallotAgrees: words. -/
import Derived.Test.YtfmcfcjcmmlmfaaManyW
import Derived.Test.YtfmcfcjcmmlmfaaAgreeS
import Derived.Test.YtfmcfcjcmmlmfaaAwakeW
import Derived.Test.YtfmcfcjcmmlmfaaFewW
import Derived.Test.YtfmcfcjcmmlmfaaAgreeV
import Derived.Deep.RegionHeld3
import Derived.Deep.CutRange
namespace Go.Proofs.Ytfmcfcjcmmlmfaa
open Go Go.RowKit Go.Maps
set_option linter.unusedVariables false

/-- a step, as the law's argument holds it -/
structure StepT where
  k : Int
  a : Int
  b : Int
  s : Int
  keep : Int
def u8r (x : Int) : Prop := 0 ≤ x ∧ x ≤ 255

theorem and7f : ∀ x : Fin 256, bits .and .i64 (x.val : Int) 7 = ((x.val % 8 : Nat) : Int) := by decide +kernel
theorem and7 (x : Nat) (h : x < 256) : bits .and .i64 (x : Int) 7 = ((x % 8 : Nat) : Int) := and7f ⟨x, h⟩

theorem prepL_vr {rs : List RecT} (h : VR rs) (b : Int) : VR (prepL rs b) := by
  unfold prepL
  split
  · rename_i hc; exact h.snoc hc
  · exact h
theorem prepL_rec {rs : List RecT} {b : Int} {x : VT} (h : RecT.a x ∈ prepL rs b) : RecT.a x ∈ rs := by
  unfold prepL at h
  split at h
  · rcases List.mem_append.1 h with h | h
    · exact h
    · simp at h
  · exact h
theorem take_pre {α : Type} {l t : List α} {k : Nat} (h : k ≤ l.length) : (l ++ t).take k = l.take k := List.take_append_of_le_length h
theorem prepL_take {rs : List RecT} {b : Int} {k : Nat} (h : k ≤ rs.length) : (prepL rs b).take k = rs.take k := by
  obtain ⟨t, ht⟩ := prepL_pre rs b
  rw [ht, take_pre h]
theorem prepL_prom {rs : List RecT} {b : Int} (hw : whyF (stateR rs).1 b = 0) : (stateR (prepL rs b)).1 = b ∧ (stateR (prepL rs b)).2 = (stateR rs).2 := by
  have h1 := (why_iff _ _).1 hw
  unfold prepL
  by_cases hc : whyF (stateR rs).1 b = 0 ∧ (stateR rs).1 < b
  · rw [if_pos hc, stateR_snoc]
    refine ⟨?_, rfl⟩
    show max (stateR rs).1 b = b
    exact Int.max_eq_right (by omega)
  · rw [if_neg hc]
    exact ⟨by omega, rfl⟩
theorem Fam.set_ab (f : Fam) (k wb mb : Nat) (F : Nat → Prop) (A : AccS) : (f.set k (f.ab k) wb mb F A).ab = f.ab := by
  funext q
  show (if q = k then f.ab k else f.ab q) = f.ab q
  split
  · rename_i e; rw [e]
  · rfl
theorem AgMem.actSame {w0 w w' : World} {n c : Nat} {B : AgB} {f : Fam} {vv : Nat → Nat → Value} {S : PS} (h : AgMem w0 n c B f f.ab vv S w) {c' k0 wb mb : Nat} {F : Nat → Prop} {A : AccS} {l : List RecT} {m : Nat} (hk : k0 < n) (hA : AccAt w' (f.ab k0) wb mb (f.d k0) 0 F A) (hI : LogIs A 0 l m) (hU : Upd w (f.own k0) w' (accF F (f.ab k0) wb mb)) (hl : l.length ≤ c') (hc : c ≤ c') :
    AgMem w0 n c' B (f.set k0 (f.ab k0) wb mb F A) (f.set k0 (f.ab k0) wb mb F A).ab vv { S with rs := fun k => if k = k0 then l else S.rs k, sn := fun k => if k = k0 then m else S.sn k } w' := by
  rw [Fam.set_ab]
  exact h.act hk hA hI hU hl hc
/-- a prepare, not sure yet, and sure -/
theorem PInv.prep {n : Nat} {S : PS} (h : PInv n S) (k : Nat) (hk : k < n) (b : Int) : PInv n { S with rs := fun q => if q = k then prepL (S.rs k) b else S.rs q, sn := fun q => if q = k then S.sn k else S.sn q } := by
  have hv := h.vr k hk
  have hs := h.sure k hk
  refine h.moved k hk _ _ (prepL_vr hv b) (Nat.le_trans hs (prepL_len _ _).1) (by rw [prepL_take hs]; exact Int.le_refl _) (fun r hr => by rw [prepL_take hs]; exact hr) (fun x hx => .inl (prepL_rec hx))
theorem PInv.prepS {n : Nat} {S : PS} (h : PInv n S) (k : Nat) (hk : k < n) (b : Int) : PInv n { S with rs := fun q => if q = k then prepL (S.rs k) b else S.rs q, sn := fun q => if q = k then (prepL (S.rs k) b).length else S.sn q } := by
  have hv := h.vr k hk
  have hs := h.sure k hk
  have hv2 := prepL_vr hv b
  refine h.moved k hk _ _ hv2 (Nat.le_refl _) ?_ (fun r hr => ?_) (fun x hx => .inl (prepL_rec hx))
  · rw [List.take_length, ← prepL_take (b := b) hs]
    exact prom_take hv2 _
  · rw [List.take_length]
    rw [← prepL_take (b := b) hs] at hr
    exact List.mem_of_mem_take hr

theorem five_seen (w : World) (S : PS) (b : Nat) (v0 v1 v2 v3 v4 : Value) (h0 : VSeen w v0 (S.vt b 0)) (h1 : VSeen w v1 (S.vt b 1)) (h2 : VSeen w v2 (S.vt b 2)) (h3 : VSeen w v3 (S.vt b 3)) (h4 : VSeen w v4 (S.vt b 4)) :
    VVSeen (w.drew.alloc (.cells #[v0, v1, v2, v3, v4] 23)) (.slice (some ⟨w.heap.size, 0, none⟩) 5 5) (fiveL S b) := by
  have hB := Blk.new w.drew #[v0, v1, v2, v3, v4] 23
  have hc : Chg No w (w.drew.alloc (.cells #[v0, v1, v2, v3, v4] 23)) := ((Chg.refl No w).drew).alloc _
  refine ⟨_, _, rfl, by simp [fiveL], fun k l hk => ?_⟩
  match k, hk with
  | 0, hk => cases hk; exact ⟨_, _, v0, rfl, hB.cell 0 rfl, h0.kept hc⟩
  | 1, hk => cases hk; exact ⟨_, _, v1, rfl, hB.cell 1 rfl, h1.kept hc⟩
  | 2, hk => cases hk; exact ⟨_, _, v2, rfl, hB.cell 2 rfl, h2.kept hc⟩
  | 3, hk => cases hk; exact ⟨_, _, v3, rfl, hB.cell 3 rfl, h3.kept hc⟩
  | 4, hk => cases hk; exact ⟨_, _, v4, rfl, hB.cell 4 rfl, h4.kept hc⟩
  | k + 5, hk => simp [fiveL] at hk

/-- a value is fixed -/
def AgMid (w : World) (n i : Nat) (B : AgB) (f : Fam) (vv : Nat → Nat → Value) (b s xB : Nat) (keep : Int) (wx : World) : Prop :=
  ∃ (S : PS) (xa xb xs : Int), AgMem w n i B f f.ab vv S wx ∧ PInv n S ∧ S.fixed b s = true ∧ Blk wx xB #[.int .u8 1, .int .u8 xa, .int .u8 xb, .int .u8 xs, .int .i64 keep] 69
theorem ag_wrap {q : Nat} (h : q ≤ 1000000) : wrap64 ((q : Int) + 1) = (q : Int) + 1 := by unfold wrap64; omega
theorem ag_num {q : Nat} {x : Int} (h : x = (q : Int) + 1) : Value.int .i64 x = .int .i64 ((q + 1 : Nat) : Int) := by rw [h]; rfl
theorem ag_meas {L q : Nat} {x : Int} (hlt : q < L) (h : x = (q : Int) + 1) : L - (intOf (.int .i64 x)).toNat < L - (intOf (.int .i64 (q : Int))).toNat := by
  rw [h]; show L - ((q : Int) + 1).toNat < L - (q : Int).toNat; omega
theorem ag_lt {k n b s : Nat} (h : (k < n ∧ n ≤ 5) ∧ (1 ≤ b ∧ b ≤ 8) ∧ (1 ≤ s ∧ s ≤ 3)) : b < 9 ∧ s < 4 ∧ k < 5 := by omega
theorem ag_beq {a b : Int} (h : a = b) : (a == b) = true := by simpa using h
theorem ag_bne {a b : Int} (h : ¬ a = b) : (a == b) = false := by simpa using h
theorem ag_900 {x i : Nat} (h : x ≤ i) (h2 : (i : Int) < 80) : x ≤ 900 := by omega
theorem ag_i64 {k n b s : Nat} (h : (k < n ∧ n ≤ 5) ∧ (1 ≤ b ∧ b ≤ 8) ∧ (1 ≤ s ∧ s ≤ 3)) : i64r (s : Int) := by unfold i64r; omega
theorem ag_take {α : Type} {l m : List α} {x : α} {k c : Nat} (h : x ∈ l) : x ∈ (if k = k then l else m).take (if k = k then l.length else c) := by simpa using h
theorem ag_cnt1 {n c : Nat} {x : Int} (h : n = c + if true = true then 1 else 0) (h2 : x = (c : Int) + 1) : Value.int .i64 x = .int .i64 (n : Int) := by rw [h, h2]; rfl
theorem ag_cnt0 {n c : Nat} (h : n = c + if false = true then 1 else 0) : Value.int .i64 (c : Int) = .int .i64 (n : Int) := by rw [h]; rfl
theorem ag_two {c q : Nat} (h : c ≤ q) (h5 : q ≤ 5) : (2 : Int) * (c : Nat) < 11 := by omega
theorem ag_two0 (c : Nat) : (0 : Int) ≤ 2 * (c : Nat) := by omega
theorem ag_two_wrap {c q : Nat} (h : c ≤ q) (h5 : q ≤ 5) : wrap64 (2 * (c : Nat)) = 2 * (c : Nat) := by unfold wrap64; omega
theorem ag_maj {n : Nat} {p : Nat → Bool} (h : (n : Int) < 2 * (cntB n p : Nat)) : Maj n p := by unfold Maj; omega
theorem ag_ff {x : Bool} (h : ¬ x = true) : x = false := by simpa using h
theorem ag_ne {B : AgB} (h : B.Ord) : B.ib ≠ B.cb ∧ B.ib ≠ B.hb ∧ B.cb ≠ B.hb := by have := h.o1; have := h.o2; have := h.o3; have := h.o4; have := h.o5; omega
def AcptDone (f : Fam) (k : Nat) (l : List RecT) (wc wx : World) : Prop := ∃ A5 F5, LogIs A5 0 l l.length ∧ AccAt wx (f.ab k) (f.wb k) (f.mb k) (f.d k) 0 F5 A5 ∧ Upd wc (f.own k) wx (accF F5 (f.ab k) (f.wb k) (f.mb k))
/-- what was picked is gone over -/
def AgScan (w : World) (n i : Nat) (B : AgB) (f : Fam) (vv : Nat → Nat → Value) (S : PS) (b s : Nat) (own : ByteArray) (L : List VT) (u : Value) (xB : Nat) (xa xb xs keep : Int) (q : Nat) (wq : World) : Prop :=
  AgMem w n i B f f.ab vv { S with fixed := fun c t => if c = b ∧ t = s then true else S.fixed c t, value := fun c t => if c = b ∧ t = s then scanV s own (L.take q) else S.value c t } wq
  ∧ Blk wq xB #[.int .u8 1, .int .u8 xa, .int .u8 xb, .int .u8 xs, .int .i64 keep] 69 ∧ VRow wq u L
theorem AgScan.next {w : World} {n i : Nat} {B : AgB} {f : Fam} {vv : Nat → Nat → Value} {S : PS} {b s : Nat} {own : ByteArray} {L : List VT} {u : Value} {xB : Nat} {xa xb xs keep : Int} {q : Nat} {wq : World} {x : VT} (h : AgScan w n i B f vv S b s own L u xB xa xb xs keep q wq) (hx : L[q]? = some x) (hne : ¬ x.slot = s) :
    AgScan w n i B f vv S b s own L u xB xa xb xs keep (q + 1) wq := by
  obtain ⟨h1, h2, h3⟩ := h
  refine ⟨?_, h2, h3⟩
  have e : scanV s own (L.take (q + 1)) = scanV s own (L.take q) := by
    rw [List.take_add_one, hx]
    show scanV s own (L.take q ++ [x]) = _
    rw [scanV_snoc, if_neg hne]
  rw [e]
  exact h1
theorem AgScan.hit {w : World} {n i : Nat} {B : AgB} {f : Fam} {vv : Nat → Nat → Value} {S : PS} {b s : Nat} {own : ByteArray} {L : List VT} {u : Value} {xB : Nat} {xa xb xs keep : Int} {q : Nat} {wq : World} {x : VT} (h : AgScan w n i B f vv S b s own L u xB xa xb xs keep q wq) (hx : L[q]? = some x) (he : x.slot = s) (hb : b < 9) (hs : s < 4) (hxB : B.hb ≠ xB) (hu : ∀ q, u.ownBlock = some q → q ≠ B.hb) :
    AgScan w n i B f vv S b s own L u xB xa xb xs keep (q + 1) (wq.setCell ⟨B.hb, b * 18 + 14 + s, none⟩ (.string x.s)).drew := by
  obtain ⟨h1, h2, h3⟩ := h
  have hset : Chg (One B.hb) wq (wq.setCell ⟨B.hb, b * 18 + 14 + s, none⟩ (.string x.s)).drew := ((Chg.refl (One B.hb) wq).setCell ⟨B.hb, b * 18 + 14 + s, none⟩ _ (fun _ => rfl)).drew
  refine ⟨?_, h2.kept hset (fun e => hxB (Eq.symm e)), Row.kept h3 hset (fun k hk e => hu k hk e)⟩
  have e : scanV s own (L.take (q + 1)) = x.s := by
    rw [List.take_add_one, hx]
    show scanV s own (L.take q ++ [x]) = _
    rw [scanV_snoc, if_pos he]
  rw [e]
  have h4 := (h1.setValue b s hb hs x.s).same ((Chg.refl No _).drew)
  have e2 : (fun c t => if c = b ∧ t = s then x.s else (if c = b ∧ t = s then scanV s own (L.take q) else S.value c t)) = (fun c t => if c = b ∧ t = s then x.s else S.value c t) := by
    funext c t
    by_cases hct : c = b ∧ t = s
    · rw [if_pos hct, if_pos hct]
    · rw [if_neg hct, if_neg hct, if_neg hct]
  rw [← e2]
  exact h4
/-- a function's loops, the outermost -/
def loopsOf : Code → List Code
  | .loop c => [c]
  | .seq a b => loopsOf a ++ loopsOf b
  | .block _ c => loopsOf c
  | .scope c => loopsOf c
  | .cond _ a b => loopsOf a ++ loopsOf b
  | _ => []
noncomputable def agBody : Code := ((Try.f6.body.map loopsOf).bind (·[1]?)).getD .skip

/-- what follows the 'if' of a slot, up to the end of the block that it stands in -/
def afterIf (t : Nat) : Code → Option (Bool × Option Code)
  | .cond o a b =>
    match o with
    | .tmp k => if k = t then some (true, none) else
      match afterIf t a with
      | some r => some r
      | none => afterIf t b
    | _ => none
  | .seq a b =>
    match afterIf t a with
    | some (true, none) => some (true, some b)
    | some (true, some r) => some (true, some (.seq r b))
    | some (false, r) => some (false, r)
    | none => afterIf t b
  | .block _ c => (afterIf t c).map fun r => (false, r.2)
  | .scope c => afterIf t c
  | _ => none
/-- the 'if' of a slot -/
def theIf (t : Nat) : Code → Option Code
  | .cond o a b =>
    match o with
    | .tmp k => if k = t then some (.cond o a b) else
      match theIf t a with
      | some r => some r
      | none => theIf t b
    | _ => none
  | .seq a b =>
    match theIf t a with
    | some r => some r
    | none => theIf t b
  | .block _ c => theIf t c
  | .scope c => theIf t c
  | _ => none
noncomputable def agIf : Code := (theIf 189 agBody).getD .skip
noncomputable def agRest : Code := ((afterIf 189 agBody).bind (·.2)).getD .skip
noncomputable def agCount : Code := ((afterIf 288 agRest).bind (·.2)).getD .skip
theorem wp_code {P : Program} {c c' : Code} {Q : Exit → Act → World → Prop} {a : Act} {w : World} (h : c' = c) (k : c'.wp P Q a w) : c.wp P Q a w := h ▸ k
end Go.Proofs.Ytfmcfcjcmmlmfaa

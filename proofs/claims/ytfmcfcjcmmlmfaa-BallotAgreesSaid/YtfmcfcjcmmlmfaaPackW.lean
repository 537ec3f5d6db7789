/- Walks over wire.Pack. -/
import Derived.Test.YtfmcfcjcmmlmfaaWireW
import Derived.Deep.QuietTactic
import Derived.BigQuiet
import Derived.Lib.Zigzag
import Derived.Deep.DeepCutAuto
import Derived.Deep.CutBlock
namespace Go.Proofs.Ytfmcfcjcmmlmfaa
set_option maxRecDepth 100000
open Go Go.RowKit
set_option linter.unusedVariables false

/-- a value that the program writes: a number (1), a whole number (2), a text (4) -/
structure WV where
  k : Nat
  u : Nat
  i : Int
  s : ByteArray
def WV.cells (v : WV) : List Value := [.int .i64 v.k, .int .u64 v.u, .int .i64 v.i, .float .f64 0, .string v.s]
/-- .. in its form -/
def WV.Ok (v : WV) : Prop :=
  (v.k = 1 ∧ v.u < 18446744073709551616 ∧ v.i = 0 ∧ v.s = ByteArray.empty) ∨
  (v.k = 2 ∧ v.u = 0 ∧ -9223372036854775808 ≤ v.i ∧ v.i ≤ 9223372036854775807 ∧ v.s = ByteArray.empty) ∨
  (v.k = 4 ∧ v.u = 0 ∧ v.i = 0 ∧ v.s.size ≤ 1000)

/-- behind the boxing of an aggregate of five cells -/
theorem boxed5 (w : World) (e : TypeId) (a b c d f : Value) : ∃ W, W = w.alloc (.cells #[a, b, c, d, f] e) ∧ Chg No w W ∧ W.heap.size = w.heap.size + 1 ∧ Blk W w.heap.size #[a, b, c, d, f] e :=
  ⟨_, rfl, (Chg.refl _ _).alloc _, by simp, Blk.new w _ _⟩

theorem call_f64bits (n : Nat) (w : World) : (callFunc 83 #[.float .f64 n]).run Try.prog w = .ok (.value (.int .u64 n)) w := by kernel_rfl

set_option maxHeartbeats 400000 in
theorem plain_u (u : Nat) (w : World) :
    Calls Try.prog 65 #[.agg #[.int .i64 1, .int .u64 u, .int .i64 0, .float .f64 0, .string ByteArray.empty]] w fun e w' => e = .returned (.bool true) ∧ Chg No w w' := by
  obtain ⟨W, hW, hch, hsz, hB⟩ := boxed5 w 91 (.int .i64 1) (.int .u64 u) (.int .i64 0) (.float .f64 0) (.string ByteArray.empty)
  obtain ⟨c0, c1, c2, c3, c4, -⟩ := hB.c5
  have HW := hid hW
  have hfb := call_f64bits
  clear hW hB
  go_enter Try.func65, Try.ntmps65
  go_wp2_with fail
  rw [← HW.out]
  go_quiet (fail)
  go_wp2_with fail
  go_ret
  exact ⟨rfl, hch.drewN nq⟩
set_option maxHeartbeats 400000 in
theorem plain_i (i : Int) (w : World) :
    Calls Try.prog 65 #[.agg #[.int .i64 2, .int .u64 0, .int .i64 i, .float .f64 0, .string ByteArray.empty]] w fun e w' => e = .returned (.bool true) ∧ Chg No w w' := by
  obtain ⟨W, hW, hch, hsz, hB⟩ := boxed5 w 91 (.int .i64 2) (.int .u64 0) (.int .i64 i) (.float .f64 0) (.string ByteArray.empty)
  obtain ⟨c0, c1, c2, c3, c4, -⟩ := hB.c5
  have HW := hid hW
  have hfb := call_f64bits
  clear hW hB
  go_enter Try.func65, Try.ntmps65
  go_wp2_with fail
  rw [← HW.out]
  go_quiet (fail)
  go_wp2_with fail
  go_ret
  exact ⟨rfl, hch.drewN nq⟩
set_option maxHeartbeats 400000 in
theorem plain_t (s : ByteArray) (w : World) :
    Calls Try.prog 65 #[.agg #[.int .i64 4, .int .u64 0, .int .i64 0, .float .f64 0, .string s]] w fun e w' => e = .returned (.bool true) ∧ Chg No w w' := by
  obtain ⟨W, hW, hch, hsz, hB⟩ := boxed5 w 91 (.int .i64 4) (.int .u64 0) (.int .i64 0) (.float .f64 0) (.string s)
  obtain ⟨c0, c1, c2, c3, c4, -⟩ := hB.c5
  have HW := hid hW
  have hfb := call_f64bits
  clear hW hB
  go_enter Try.func65, Try.ntmps65
  go_wp2_with fail
  rw [← HW.out]
  go_quiet (fail)
  go_wp2_with fail
  go_ret
  exact ⟨rfl, hch.drewN nq⟩

theorem plain_ok (v : WV) (h : v.Ok) (w : World) :
    Calls Try.prog 65 #[.agg v.cells.toArray] w fun e w' => e = .returned (.bool true) ∧ Chg No w w' := by
  obtain ⟨k, u, i, s⟩ := v
  rcases h with ⟨h1, h2, h3, h4⟩ | ⟨h1, h2, h3, h3', h4⟩ | ⟨h1, h2, h3, h4⟩ <;> simp only at h1 h2 h3 h4
  · subst h1; subst h3; subst h4; exact plain_u u w
  · subst h1; subst h2; subst h4; exact plain_i i w
  · subst h1; subst h2; subst h3; exact plain_t s w

theorem WV.Ok.text {v : WV} (h : v.Ok) : v.s.size ≤ 1000 := by
  rcases h with ⟨_, _, _, h4⟩ | ⟨_, _, _, _, h4⟩ | ⟨_, _, _, h4⟩
  · rw [h4]; decide
  · rw [h4]; decide
  · exact h4

set_option maxHeartbeats 400000 in
theorem valid_ok (v : WV) (h : v.Ok) (w : World) :
    Calls Try.prog 52 #[.agg v.cells.toArray] w fun e w' => e = .returned (.int .i64 0) ∧ Chg No w w' := by
  have hs := h.text
  have hp := fun W => hid (plain_ok v h W)
  obtain ⟨k, u, i, s⟩ := v
  unfold WV.cells at hp ⊢
  simp only at hp hs ⊢
  obtain ⟨W, hW, hch, hsz, hB⟩ := boxed5 w 91 (.int .i64 k) (.int .u64 u) (.int .i64 i) (.float .f64 0) (.string s)
  obtain ⟨c0, c1, c2, c3, c4, -⟩ := hB.c5
  have hsI : ¬ (1000 : Int) < s.size := by omega
  have HW := hid hW
  clear hW hB
  go_enter Try.func52, Try.ntmps52
  go_wp2_with fail
  rw [← HW.out]
  refine (hp W).out.mono ?_
  rintro e w1 ⟨rfl, hch1⟩
  have d4 := hch1.cellN c4
  go_wp2_with fail
  go_ret
  exact ⟨rfl, hch.same hch1⟩

/-- a whole number as a number -/
def zig (i : Int) : Nat := if 0 ≤ i then (2 * i).toNat else (-2 * i - 1).toNat
def putB (v : WV) : List UInt8 :=
  if v.k = 1 then 1 :: numB v.u else if v.k = 2 then 2 :: numB (zig v.i) else 4 :: (numB v.s.size ++ v.s.data.toList)

/-- what is put behind bytes -/
def PutPost (v : Value) (n : Nat) (xs : List Value) (ys : List UInt8) (w : World) (e : Ending) (w' : World) : Prop :=
  ∃ a' c', e = .returned (.slice a' (n + ys.length) c') ∧ Row w' 5 1 (.slice a' (n + ys.length) c') (n + ys.length) (xs ++ bvs ys) ∧
      Chg (fun k => v.ownBlock = some k) w w' ∧ (Value.ownBlock (.slice a' (n + ys.length) c') = v.ownBlock ∨ ∃ j, Value.ownBlock (.slice a' (n + ys.length) c') = some j ∧ w.heap.size ≤ j)

theorem zig_lt (i : Int) (h1 : -9223372036854775808 ≤ i) (h2 : i ≤ 9223372036854775807) : zig i < 18446744073709551616 := by
  unfold zig; split <;> omega
theorem zig_eq (i : Int) (h1 : -9223372036854775808 ≤ i) (h2 : i ≤ 9223372036854775807) :
    bits .xor .u64 (IntKind.u64.wrap (IntKind.u64.wrap i * 2)) (IntKind.u64.wrap (i / 9223372036854775808)) = (zig i : Int) := by
  by_cases h : 0 ≤ i
  · have e1 : IntKind.u64.wrap (IntKind.u64.wrap i * 2) = (((2 * i).toNat : Nat) : Int) := by rw [IntKind.wrap_u64, IntKind.wrap_u64]; omega
    have e2 : IntKind.u64.wrap (i / 9223372036854775808) = ((0 : Nat) : Int) := by rw [IntKind.wrap_u64]; omega
    rw [e1, e2, bits_xor_u64_nat _ _ (by omega) (by omega)]
    unfold zig; rw [if_pos h, Nat.xor_zero]
  · have e1 : IntKind.u64.wrap (IntKind.u64.wrap i * 2) = (((18446744073709551616 + 2 * i).toNat : Nat) : Int) := by rw [IntKind.wrap_u64, IntKind.wrap_u64]; omega
    have e2 : IntKind.u64.wrap (i / 9223372036854775808) = ((2 ^ 64 - 1 : Nat) : Int) := by rw [IntKind.wrap_u64]; omega
    rw [e1, e2, bits_xor_u64_nat _ _ (by omega) (by omega), Nat.xor_comm, Lib.xor_ones64 _ (by omega)]
    unfold zig; rw [if_neg h]; omega

set_option maxRecDepth 100000 in
set_option maxHeartbeats 800000 in
theorem put_u (u : Nat) (hu : u < 18446744073709551616) (v : Value) (n : Nat) (xs : List Value) (w : World) (hrow : Row w 5 1 v n xs) (hn : n ≤ 4294960000) :
    Calls Try.prog 53 #[v, .agg #[.int .i64 1, .int .u64 u, .int .i64 0, .float .f64 0, .string ByteArray.empty]] w (PutPost v n xs (1 :: numB u) w) := by
  obtain ⟨W, hW, hch, hsz, hB⟩ := boxed5 w 91 (.int .i64 1) (.int .u64 u) (.int .i64 0) (.float .f64 0) (.string ByteArray.empty)
  have HB := hid hB
  obtain ⟨c0, c1, c2, c3, c4, -⟩ := hB.c5
  have HW := hid hW
  obtain ⟨i0, hi0, hz0, hz1, hz2⟩ := info_parts infoU8
  obtain ⟨va, vc, rfl, -, -, -⟩ := hrow.cells
  have hrW := hrow.kept hch (fun _ _ h => h)
  obtain ⟨hr1, hs1, hfin⟩ := push_byte (x := .int .u8 1) rfl hrW (hch.mono (T := fun j => Value.ownBlock (.slice va n vc) = some j) (fun _ _ h => h.elim)) (.inl rfl)
  have Hr1 := hid hr1
  have Hs1 := hid hs1
  have Hf := hid hfin
  have hvlt : ∀ j, Value.ownBlock (.slice va n vc) = some j → j < w.heap.size := fun j hj => hrow.lt hj
  have Hv := hid hvlt
  have HBA := hid (hB.alloc (.cells #[.int .u8 1] 5))
  have Hsz := hid hsz
  clear hW hB hrow hrW hr1 hs1 hfin hvlt hsz
  go_enter Try.func53, Try.ntmps53
  go_upto_region 1 with (fail)
  rw [← HW.out]
  go_upto_region 2 with (at_builtin; refine wpList_append_Row rfl _ _ _ _ rfl 5 i0 _ 1 1 uBytes hi0 hz0 hz1 hz2 rfl (.slice va n vc) n _ rfl Hr1.out (.slice (some ⟨W.heap.size, 0, none⟩) 1 1) rfl 1 _ Hs1.out (by unfold maxLen; omega) (by omega) ?_; intro a1 c1' w1 hr2 hch2 hwh2 _; have hB1 := HBA.out.kept hch2 (fun e => by have := Hv.out _ e; omega); have hff := Hf.out a1 c1' (n + 1) w1 hch2 hwh2; have Hr2 := hid hr2; have HB1 := hid hB1; have Hff := hid hff; have hne1 : Value.ownBlock (.slice a1 (n + 1) c1') ≠ some w.heap.size := (by intro h; rcases hwh2 with h2 | ⟨h2, _⟩; exact absurd (Hv.out _ (h2 ▸ h)) (Nat.lt_irrefl _); rw [h2] at h; have h5 := Hsz.out; simp at h; omega); have Hne := hid hne1; clear hr2 hch2 hwh2 hB1 hff hne1)
  obtain ⟨d0, d1, d2, d3, d4, -⟩ := HB1.out.c5
  clear c0 c1 c2 c3 c4
  go_wp2_with fail
  refine (number_any _ (n + 1) _ u w1 Hr2.out (by omega) hu).mono ?_
  rintro e w3 ⟨a3, c3', rfl, hr3, hch3, hwh3⟩
  go_wp2_with fail
  go_ret
  have e : xs ++ [Value.int .u8 1] = xs ++ bvs [1] := rfl
  have en : n + 1 + (numB u).length = n + (1 :: numB u).length := by simp; omega
  rw [en] at hr3 hwh3
  unfold PutPost
  rw [← en]
  refine ⟨a3, c3', rfl, by rw [en]; rw [e] at hr3; simpa [bvs] using hr3, ?_, ?_⟩
  · exact Hff.out.1.trans hch3 (fun j hj h => by
      rcases Hff.out.2 with h2 | ⟨j2, h2, h3⟩
      · exact h2 ▸ h
      · rw [h2] at h; cases h; omega)
  · rw [en]
    rcases hwh3 with h | ⟨j, h, hj⟩
    · rcases Hff.out.2 with h2 | ⟨j2, h2, h3⟩
      · exact .inl (h.trans h2)
      · exact .inr ⟨j2, h.trans h2, h3⟩
    · exact .inr ⟨j, h, Nat.le_trans Hff.out.1.size hj⟩
set_option maxRecDepth 100000 in
set_option maxHeartbeats 800000 in
theorem put_i (i : Int) (hi1 : -9223372036854775808 ≤ i) (hi2 : i ≤ 9223372036854775807) (v : Value) (n : Nat) (xs : List Value) (w : World) (hrow : Row w 5 1 v n xs) (hn : n ≤ 4294960000) :
    Calls Try.prog 53 #[v, .agg #[.int .i64 2, .int .u64 0, .int .i64 i, .float .f64 0, .string ByteArray.empty]] w (PutPost v n xs (2 :: numB (zig i)) w) := by
  obtain ⟨W, hW, hch, hsz, hB⟩ := boxed5 w 91 (.int .i64 2) (.int .u64 0) (.int .i64 i) (.float .f64 0) (.string ByteArray.empty)
  have HB := hid hB
  obtain ⟨c0, c1, c2, c3, c4, -⟩ := hB.c5
  have HW := hid hW
  obtain ⟨i0, hi0, hz0, hz1, hz2⟩ := info_parts infoU8
  obtain ⟨va, vc, rfl, -, -, -⟩ := hrow.cells
  have hrW := hrow.kept hch (fun _ _ h => h)
  obtain ⟨hr1, hs1, hfin⟩ := push_byte (x := .int .u8 2) rfl hrW (hch.mono (T := fun j => Value.ownBlock (.slice va n vc) = some j) (fun _ _ h => h.elim)) (.inl rfl)
  have Hr1 := hid hr1
  have Hs1 := hid hs1
  have Hf := hid hfin
  have hvlt : ∀ j, Value.ownBlock (.slice va n vc) = some j → j < w.heap.size := fun j hj => hrow.lt hj
  have Hv := hid hvlt
  have HBA := hid (hB.alloc (.cells #[.int .u8 2] 5))
  have Hsz := hid hsz
  clear hW hB hrow hrW hr1 hs1 hfin hvlt hsz
  go_enter Try.func53, Try.ntmps53
  go_upto_region 1 with (fail)
  rw [← HW.out]
  go_upto_region 2 with (at_builtin; refine wpList_append_Row rfl _ _ _ _ rfl 5 i0 _ 1 1 uBytes hi0 hz0 hz1 hz2 rfl (.slice va n vc) n _ rfl Hr1.out (.slice (some ⟨W.heap.size, 0, none⟩) 1 1) rfl 1 _ Hs1.out (by unfold maxLen; omega) (by omega) ?_; intro a1 c1' w1 hr2 hch2 hwh2 _; have hB1 := HBA.out.kept hch2 (fun e => by have := Hv.out _ e; omega); have hff := Hf.out a1 c1' (n + 1) w1 hch2 hwh2; have Hr2 := hid hr2; have HB1 := hid hB1; have Hff := hid hff; have hne1 : Value.ownBlock (.slice a1 (n + 1) c1') ≠ some w.heap.size := (by intro h; rcases hwh2 with h2 | ⟨h2, _⟩; exact absurd (Hv.out _ (h2 ▸ h)) (Nat.lt_irrefl _); rw [h2] at h; have h5 := Hsz.out; simp at h; omega); have Hne := hid hne1; clear hr2 hch2 hwh2 hB1 hff hne1)
  obtain ⟨d0, d1, d2, d3, d4, -⟩ := HB1.out.c5
  clear c0 c1 c2 c3 c4
  have Hz := hid (zig_eq i hi1 hi2)
  go_wp2_with fail
  rw [Hz.out]
  refine (number_any _ (n + 1) _ (zig i) w1 Hr2.out (by omega) (zig_lt i hi1 hi2)).mono ?_
  rintro e w3 ⟨a3, c3', rfl, hr3, hch3, hwh3⟩
  go_wp2_with fail
  go_ret
  have e : xs ++ [Value.int .u8 2] = xs ++ bvs [2] := rfl
  have en : n + 1 + (numB (zig i)).length = n + (2 :: numB (zig i)).length := by simp; omega
  rw [en] at hr3 hwh3
  unfold PutPost
  rw [← en]
  refine ⟨a3, c3', rfl, by rw [en]; rw [e] at hr3; simpa [bvs] using hr3, ?_, ?_⟩
  · exact Hff.out.1.trans hch3 (fun j hj h => by
      rcases Hff.out.2 with h2 | ⟨j2, h2, h3⟩
      · exact h2 ▸ h
      · rw [h2] at h; cases h; omega)
  · rw [en]
    rcases hwh3 with h | ⟨j, h, hj⟩
    · rcases Hff.out.2 with h2 | ⟨j2, h2, h3⟩
      · exact .inl (h.trans h2)
      · exact .inr ⟨j2, h.trans h2, h3⟩
    · exact .inr ⟨j, h, Nat.le_trans Hff.out.1.size hj⟩
end Go.Proofs.Ytfmcfcjcmmlmfaa

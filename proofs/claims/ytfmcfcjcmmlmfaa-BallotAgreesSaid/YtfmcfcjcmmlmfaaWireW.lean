/- Walks over package wire: how values are written. -/
import Derived.Test.YtfmcfcjcmmlmfaaFrameW
import Derived.Deep.RegionWith
import Derived.Deep.RegionLaw
namespace Go.Proofs.Ytfmcfcjcmmlmfaa
set_option maxRecDepth 100000
open Go Go.RowKit
set_option linter.unusedVariables false

/-- a number's bytes -/
def varint : Nat → Nat → List UInt8
  | 0, _ => []
  | k + 1, n => if n < 128 then [UInt8.ofNat n] else UInt8.ofNat (n % 128 + 128) :: varint k (n / 128)
def numB (n : Nat) : List UInt8 := varint 10 n
theorem varint_len : ∀ (k n : Nat), (varint k n).length ≤ k
  | 0, _ => by simp [varint]
  | k + 1, n => by
    unfold varint
    split
    · simp
    · have := varint_len k (n / 128); simp; omega

theorem numB_len (n : Nat) : (numB n).length ≤ 10 := varint_len 10 n

theorem or128 : ∀ x : Fin 256, bits .or .u8 (x.val : Int) 128 = ((x.val % 128 + 128 : Nat) : Int) := by decide +kernel
theorem or128_byte (m : Nat) : Value.int .u8 (bits .or .u8 ((m : Int) % 256) 128) = bv (UInt8.ofNat (m % 128 + 128)) := by
  have h := or128 ⟨m % 256, by omega⟩
  simp only at h
  unfold bv
  rw [show ((m : Int) % 256) = ((m % 256 : Nat) : Int) by omega, h]
  congr 1
  simp
  omega

def NumInv (w0 : World) (v0 : Value) (n0 : Nat) (xs : List Value) (m0 : Nat) (v : Value) (m : Nat) (w : World) : Prop :=
  ∃ ys k, m ≤ m0 ∧ m < 128 ^ k ∧ 0 < k ∧ ys.length + k ≤ 10 ∧ varint 10 m0 = ys ++ varint k m ∧ Row w 5 1 v (n0 + ys.length) (xs ++ bvs ys) ∧ Chg (fun j => v0.ownBlock = some j) w0 w ∧ (v.ownBlock = v0.ownBlock ∨ ∃ j, v.ownBlock = some j ∧ w0.heap.size ≤ j)

/-- one byte more -/
theorem push_byte {w0 w : World} {v0 : Value} {n : Nat} {xs : List Value} {x : Value} {a : Option Addr} {c : Nat} (hx : x.oneCell' = true) (hrow : Row w 5 1 (.slice a n c) n xs) (hch : Chg (fun j => v0.ownBlock = some j) w0 w)
    (hw : Value.ownBlock (.slice a n c) = v0.ownBlock ∨ ∃ j, Value.ownBlock (.slice a n c) = some j ∧ w0.heap.size ≤ j) :
    Row (w.alloc (.cells #[x] 5)) 5 1 (.slice a n c) n xs ∧ Src Try.prog 1 72 (.slice (some ⟨w.heap.size, 0, none⟩) 1 1) 1 [x] (w.alloc (.cells #[x] 5)) ∧
      ∀ (a' : Option Addr) (c' n' : Nat) (w1 : World), Chg (fun j => Value.ownBlock (.slice a n c) = some j) (w.alloc (.cells #[x] 5)) w1 →
        (Value.ownBlock (.slice a' n' c') = Value.ownBlock (.slice a n c) ∨ (Value.ownBlock (.slice a' n' c') = some (w.alloc (.cells #[x] 5)).heap.size ∧ (w.alloc (.cells #[x] 5)).heap.size < w1.heap.size)) →
        Chg (fun j => v0.ownBlock = some j) w0 w1 ∧ (Value.ownBlock (.slice a' n' c') = v0.ownBlock ∨ ∃ j, Value.ownBlock (.slice a' n' c') = some j ∧ w0.heap.size ≤ j) := by
  have hch' := hch.alloc (.cells #[x] 5)
  refine ⟨hrow.kept ((Chg.refl No w).alloc _) (fun _ _ h => h), ?_, ?_⟩
  · exact Src.ofSlice _ uBytes _ 1 1 [x] rfl (fun j u hu => by rw [Addr.add_lit, (Blk.new w _ _).cellEq]; simpa using hu) (by simpa using hx)
  · intro a' c' n' w1 h1 h2
    refine ⟨hch'.trans h1 (fun j hj h => ?_), ?_⟩
    · rcases hw with hw | ⟨k, hw, hk⟩
      · exact hw ▸ h
      · rw [hw] at h; cases h; omega
    · rcases h2 with h2 | ⟨h2, -⟩
      · rcases hw with hw | ⟨k, hw, hk⟩
        · exact .inl (h2.trans hw)
        · exact .inr ⟨k, h2.trans hw, hk⟩
      · exact .inr ⟨_, h2, hch'.size⟩

set_option maxRecDepth 100000 in
set_option maxHeartbeats 400000 in
theorem number_any (v : Value) (n : Nat) (xs : List Value) (m : Nat) (w : World) (hrow : Row w 5 1 v n xs) (hn : n ≤ 4294967296) (hm : m < 18446744073709551616) :
    Calls Try.prog 66 #[v, .int .u64 m] w fun e w' => ∃ a' c', e = .returned (.slice a' (n + (numB m).length) c') ∧ Row w' 5 1 (.slice a' (n + (numB m).length) c') (n + (numB m).length) (xs ++ bvs (numB m)) ∧
      Chg (fun k => v.ownBlock = some k) w w' ∧ (Value.ownBlock (.slice a' (n + (numB m).length) c') = v.ownBlock ∨ ∃ j, Value.ownBlock (.slice a' (n + (numB m).length) c') = some j ∧ w.heap.size ≤ j) := by
  obtain ⟨i0, hi0, hz0, hz1, hz2⟩ := info_parts infoU8
  have HR := hid hrow
  clear hrow
  have Hm := hid hm
  clear hm
  go_enter Try.func66, Try.ntmps66
  go_wp2_with fail
  go_loopw [0, 1] (fun v' i wr => ∃ k : Nat, i = .int .u64 k ∧ NumInv w v n xs m v' k wr) (fun _ i _ => (intOf i).toNat)
  case atStart => exact ⟨m, rfl, [], 10, Nat.le_refl _, by have := Hm.out; omega, by omega, by simp, rfl, by simpa [bvs] using HR.out, Chg.refl _ _, .inl rfl⟩
  case round =>
    obtain ⟨k, rfl, ys, q, hkm, hkq, hq0, hyq, hvi, hr, hch, hwh⟩ := hrel
    obtain ⟨va, vc, rfl, -, -, -⟩ := hr.cells
    obtain ⟨q', rfl⟩ : ∃ q', q = q' + 1 := ⟨q - 1, by omega⟩
    have hk64 : (k : Int) < 18446744073709551616 := by have := Hm.out; omega
    have Hkq := hid hkq
    have Hvi := hid hvi
    have Hkm := hid hkm
    clear hkq hvi hkm
    by_cases hlt : 128 ≤ k
    · obtain ⟨hr1, hs1, hfin⟩ := push_byte (x := .int .u8 (bits .or .u8 ((k : Int) % 256) 128)) rfl hr hch hwh
      have Hr1 := hid hr1
      have Hs1 := hid hs1
      have Hf := hid hfin
      clear hr hch hwh hr1 hs1 hfin
      have hltI : (128 : Int) ≤ k := by omega
      go_wp2_with (at_builtin; refine wpList_append_Row rfl _ _ _ _ rfl 5 i0 _ 1 1 uBytes hi0 hz0 hz1 hz2 rfl (.slice va (n + ys.length) vc) (n + ys.length) _ rfl Hr1.out (.slice (some ⟨wr.heap.size, 0, none⟩) 1 1) rfl 1 _ Hs1.out (by unfold maxLen; omega) (by omega) ?_; intro a' c' w1 hr2 hch2 hwh2 _)
      obtain ⟨f1, f2⟩ := Hf.out a' c' (n + ys.length + 1) w1 hch2 hwh2
      have hq' : 0 < q' := by
        rcases Nat.eq_zero_or_pos q' with h | h
        · subst h; have := Hkq.out; omega
        · exact h
      rw [or128_byte] at hr2
      refine ⟨⟨k / 128, congrArg (Value.int .u64) (by omega), ys ++ [UInt8.ofNat (k % 128 + 128)], q', Nat.le_trans (Nat.div_le_self _ _) Hkm.out, ?_, hq', by simp; omega, ?_, ?_, f1, f2⟩, by simp [intOf]; omega⟩
      · have := Hkq.out; rw [Nat.pow_succ] at this; omega
      · rw [Hvi.out]; conv => lhs; unfold varint
        rw [if_neg (by omega)]; simp
      · simpa [bvs, Nat.add_assoc] using hr2
    · obtain ⟨hr1, hs1, hfin⟩ := push_byte (x := .int .u8 (k : Int)) rfl hr hch hwh
      have Hr1 := hid hr1
      have Hs1 := hid hs1
      have Hf := hid hfin
      clear hr hch hwh hr1 hs1 hfin
      have hltI : ¬ (128 : Int) ≤ k := by omega
      go_wp2_with (at_builtin; refine wpList_append_Row rfl _ _ _ _ rfl 5 i0 _ 1 1 uBytes hi0 hz0 hz1 hz2 rfl (.slice va (n + ys.length) vc) (n + ys.length) _ rfl Hr1.out (.slice (some ⟨wr.heap.size, 0, none⟩) 1 1) rfl 1 _ Hs1.out (by unfold maxLen; omega) (by omega) ?_; intro a' c' w1 hr2 hch2 hwh2 _)
      obtain ⟨f1, f2⟩ := Hf.out a' c' (n + ys.length + 1) w1 hch2 hwh2
      have e1 : numB m = ys ++ [UInt8.ofNat k] := by
        unfold numB; rw [Hvi.out]; conv => lhs; unfold varint
        rw [if_pos (by omega)]
      have e2 : n + (numB m).length = n + ys.length + 1 := by rw [e1]; simp; omega
      have e3 : Value.int .u8 (k : Int) = bv (UInt8.ofNat k) := by unfold bv; congr 1; simp; omega
      go_ret
      rw [e2]
      refine ⟨a', c', rfl, ?_, f1, f2⟩
      rw [e3] at hr2
      rw [e1]; simpa [bvs] using hr2
end Go.Proofs.Ytfmcfcjcmmlmfaa

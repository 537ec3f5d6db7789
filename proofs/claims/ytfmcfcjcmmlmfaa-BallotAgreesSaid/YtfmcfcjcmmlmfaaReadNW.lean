/- Walks over wire's reader: a number, a text, a value that were written. -/
import Derived.Test.YtfmcfcjcmmlmfaaReadW
import Derived.Lib.VarintBits
namespace Go.Proofs.Ytfmcfcjcmmlmfaa
set_option maxRecDepth 100000
open Go Go.RowKit
set_option linter.unusedVariables false

theorem and127 : ∀ x : Fin 256, bits .and .u8 (x.val : Int) 127 = ((x.val % 128 : Nat) : Int) := by decide +kernel
theorem and127' (x : Nat) (h : x < 256) : bits .and .u8 (x : Int) 127 = ((x % 128 : Nat) : Int) := and127 ⟨x, h⟩

/-- the first byte of a number, as a number -/
def firstB (m : Nat) : Nat := if m < 128 then m else m % 128 + 128
theorem firstB_lt (m : Nat) : firstB m < 256 := by unfold firstB; split <;> omega
theorem varint_cons (k m : Nat) : ∃ t, varint (k + 1) m = UInt8.ofNat (firstB m) :: t ∧ (m < 128 → t = []) ∧ (128 ≤ m → t = varint k (m / 128)) := by
  have e : varint (k + 1) m = if m < 128 then [UInt8.ofNat m] else UInt8.ofNat (m % 128 + 128) :: varint k (m / 128) := by conv => lhs; unfold varint
  rw [e]
  unfold firstB
  by_cases h : m < 128
  · rw [if_pos h, if_pos h]; exact ⟨[], rfl, fun _ => rfl, fun h2 => by omega⟩
  · rw [if_neg h, if_neg h]; exact ⟨_, rfl, fun h2 => absurd h2 h, fun _ => rfl⟩
theorem ofNat_firstB (m : Nat) : (UInt8.ofNat (firstB m)).toNat = firstB m := by
  have := firstB_lt m
  simp; omega

/-- what is read joined with what was read -/
theorem join_num (n m j : Nat) (hn : n < 2 ^ (7 * j)) (hj : j < 10) (h : n + m * 2 ^ (7 * j) < 18446744073709551616) (K : Int) (hK : K = 7 * (j : Int)) :
    bits .or .u64 (n : Int) (IntKind.u64.wrap (IntKind.u64.wrap (bits .and .u8 (firstB m : Int) 127) * 2 ^ K.toNat)) = ((n + (m % 128) * 2 ^ (7 * j) : Nat) : Int) := by
  have hb : bits .and .u8 (firstB m : Int) 127 = ((m % 128 : Nat) : Int) := by
    rw [and127' _ (firstB_lt m)]
    unfold firstB
    split <;> omega
  have hk : K.toNat = 7 * j := by omega
  have hw0 : IntKind.u64.wrap ((m % 128 : Nat) : Int) = ((m % 128 : Nat) : Int) := wraps_u64 _ (by omega) (by omega)
  rw [hb, hk, hw0]
  have hp : ((m % 128 : Nat) : Int) * 2 ^ (7 * j) = ((m % 128 * 2 ^ (7 * j) : Nat) : Int) := by push_cast; rfl
  rw [hp]
  have hle : m % 128 * 2 ^ (7 * j) ≤ m * 2 ^ (7 * j) := Nat.mul_le_mul_right _ (Nat.mod_le _ _)
  have hdvd : (m % 128 * 2 ^ (7 * j)) % 2 ^ (7 * j) = 0 := Nat.mul_mod_left _ _
  generalize hA : m % 128 * 2 ^ (7 * j) = A at *
  have hw : IntKind.u64.wrap (A : Int) = (A : Int) := wraps_u64 _ (by omega) (by omega)
  rw [hw]
  have hs : 7 * j ≤ 63 := by omega
  have key := bits_join_low .u64 64 (by decide) wraps_u64 (7 * j) (n : Int) (A : Int) (by omega) (by exact_mod_cast hn) (by omega) (by omega) (by exact_mod_cast hdvd) (by omega)
  rw [key]
  push_cast
  rfl

/-- a read of a number: so far -/
structure RdNum (w : World) (rb : Nat) (a : Option Addr) (c : Nat) (bs : List UInt8) (at_ m0 : Nat) (post : List UInt8) (j m n : Nat) (wr : World) : Prop where
  lt : j < 10
  low : n < 2 ^ (7 * j)
  sum : n + m * 2 ^ (7 * j) = m0
  pos : 0 < j → 0 < m
  rd : Reads wr rb a c bs (at_ + j)
  left : bs.drop (at_ + j) = varint (10 - j) m ++ post
  len : (numB m0).length = j + (varint (10 - j) m).length
  chg : Chg (One rb) w wr

theorem RdNum.small {w : World} {rb : Nat} {a : Option Addr} {c : Nat} {bs : List UInt8} {at_ m0 : Nat} {post : List UInt8} {m n : Nat} {wr : World} (h : RdNum w rb a c bs at_ m0 post 9 m n wr) (hm : m0 < 18446744073709551616) : m ≤ 1 := by
  have := h.sum
  simp at this
  omega
theorem RdNum.next {w : World} {rb : Nat} {a : Option Addr} {c : Nat} {bs : List UInt8} {at_ m0 : Nat} {post : List UInt8} {j m n : Nat} {wr w1 : World} (h : RdNum w rb a c bs at_ m0 post j m n wr) (hm : m0 < 18446744073709551616) (hb : ¬ m < 128)
    (hch : Chg (One rb) wr w1) (hR : Reads w1 rb a c bs (at_ + j + 1)) : RdNum w rb a c bs at_ m0 post (j + 1) (m / 128) (n + (m % 128) * 2 ^ (7 * j)) w1 := by
  have hj : j < 9 := by
    rcases Nat.lt_or_ge j 9 with h2 | h2
    · exact h2
    · have h3 := h.lt
      have : j = 9 := by omega
      subst this
      have := h.small hm
      omega
  have hp : 2 ^ (7 * (j + 1)) = 128 * 2 ^ (7 * j) := by rw [show 7 * (j + 1) = 7 * j + 7 by omega, Nat.pow_add]; omega
  have hsum := h.sum
  have hlow := h.low
  obtain ⟨k, hk⟩ : ∃ k, 10 - j = k + 1 := ⟨9 - j, by omega⟩
  obtain ⟨t, ht, -, ht2⟩ := varint_cons k m
  have ht2 := ht2 (by omega)
  subst ht2
  have hleft := h.left
  have hlen := h.len
  rw [hk, ht] at hleft hlen
  refine ⟨by omega, ?_, ?_, fun _ => by omega, by rw [← Nat.add_assoc]; exact hR, ?_, ?_, h.chg.same hch⟩
  · rw [hp]
    generalize 2 ^ (7 * j) = P at *
    have h1 : m % 128 * P ≤ 127 * P := Nat.mul_le_mul_right _ (by omega)
    omega
  · rw [hp]
    generalize 2 ^ (7 * j) = P at *
    have h1 : m = m / 128 * 128 + m % 128 := by omega
    have h2 : m * P = m / 128 * (128 * P) + m % 128 * P := by
      conv => lhs; rw [h1, Nat.add_mul, Nat.mul_assoc]
    omega
  · rw [show 10 - (j + 1) = k by omega, ← Nat.add_assoc, ← List.drop_drop, hleft]
    rfl
  · rw [show 10 - (j + 1) = k by omega, hlen]
    simp; omega

set_option maxRecDepth 100000 in
set_option maxHeartbeats 1000000 in
theorem rdnum_ok (rb : Nat) (a : Option Addr) (c : Nat) (bs : List UInt8) (at_ : Nat) (w : World) (h : Reads w rb a c bs at_) (m0 : Nat) (post : List UInt8) (hbs : bs.drop at_ = numB m0 ++ post) (hm : m0 < 18446744073709551616) :
    Calls Try.prog 62 #[.pointer (some ⟨rb, 0, none⟩)] w fun e w' => e = .returned (.int .u64 m0) ∧ Chg (One rb) w w' ∧ Reads w' rb a c bs (at_ + (numB m0).length) := by
  have h0 : RdNum w rb a c bs at_ m0 post 0 m0 0 w := ⟨by omega, by simp, by simp, fun h => by omega, h, by rw [Nat.add_zero]; exact hbs, by simp [numB], .refl _ _⟩
  have H0 := hid h0
  have Hm := hid hm
  clear h hbs hm h0
  go_enter Try.func62, Try.ntmps62
  go_wp2_with fail
  go_loopw [3, 4] (fun v3 v4 wr => ∃ (j m n : Nat) (K : Int), v4 = .int .u64 K ∧ K = 7 * (j : Int) ∧ v3 = .int .u64 n ∧ RdNum w rb a c bs at_ m0 post j m n wr) (fun _ v4 _ => 70 - (intOf v4).toNat)
  case atStart => exact ⟨0, m0, 0, 0, rfl, rfl, rfl, H0.out⟩
  case round =>
    obtain ⟨j, m, n, K, rfl, hK, rfl, hinv⟩ := hrel
    have hj := hinv.lt
    obtain ⟨k, hk⟩ : ∃ k, 10 - j = k + 1 := ⟨9 - j, by omega⟩
    obtain ⟨t, ht, ht1, -⟩ := varint_cons k m
    have hleft := hinv.left
    rw [hk, ht] at hleft
    have hat : at_ + j < bs.length := by
      have := congrArg List.length hleft
      simp at this
      omega
    have hbyte : bs[at_ + j].toNat = firstB m := by
      have h1 : bs[at_ + j]? = some (UInt8.ofNat (firstB m)) := by
        have h2 : (bs.drop (at_ + j))[0]? = some (UInt8.ofNat (firstB m)) := by rw [hleft]; rfl
        rw [List.getElem?_drop] at h2
        simpa using h2
      rw [List.getElem?_eq_getElem hat] at h1
      injection h1 with h1
      rw [h1, ofNat_firstB]
    have hnx := next_ok rb a c bs (at_ + j) wr hinv.rd hat
    rw [hbyte] at hnx
    have Hnx := hid hnx
    have hjoin := fun (K : Int) (hK : K = 7 * (j : Int)) => join_num n m j hinv.low hj (by rw [hinv.sum]; exact Hm.out) K hK
    have HJ := hid (hjoin K hK)
    have h9 := fun (e : j = 9) => RdNum.small (by subst e; exact hinv) Hm.out
    have hpos := hinv.pos
    have Hinv := hid hinv
    have hx := firstB_lt m
    have hx1 : m < 128 → firstB m = m := fun h => by unfold firstB; rw [if_pos h]
    have hx2 : ¬ m < 128 → 128 ≤ firstB m := fun h => by unfold firstB; rw [if_neg h]; omega
    have hK0 : 0 ≤ K := by omega
    have hK1 : K ≤ 63 := by omega
    have hKw : IntKind.u64.wrap (K + 7) = K + 7 := wraps_u64 _ (by omega) (by omega)
    have HK := hid hK
    clear hbyte hleft ht hnx hjoin hinv
    generalize firstB m = X at *
    by_cases hm : m < 128
    · have hXm := hx1 hm
      have q3 : (X : Int) < 128 := by omega
      have q1 : ((K == 63) = true ∧ decide ((1 : Int) < (X : Int)) = false) ∨ (K == 63) = false := by
        by_cases e : j = 9
        · exact .inl ⟨by simp; omega, by have := h9 e; simp; omega⟩
        · exact .inr (by simp; omega)
      have q2 : decide ((0 : Int) < K) = false ∨ (decide ((0 : Int) < K) = true ∧ ((X : Int) == 0) = false) := by
        by_cases e : j = 0
        · exact .inl (by simp; omega)
        · exact .inr ⟨by simp; omega, by have := hpos (by omega); simp; omega⟩
      have hlen : (varint (10 - j) m).length = 1 := by
        rw [hk]
        obtain ⟨t, ht, ht1, -⟩ := varint_cons k m
        rw [ht, ht1 hm]; rfl
      have hn0 : n + m % 128 * 2 ^ (7 * j) = m0 := by rw [Nat.mod_eq_of_lt hm]; exact Hinv.out.sum
      have Hlen := hid hlen
      have Hn0 := hid hn0
      clear hx hx1 hx2 hXm h9 hpos hK hk hlen hn0
      rcases q1 with ⟨q1, q1'⟩ | q1 <;> rcases q2 with q2 | ⟨q2, q2'⟩
      all_goals
        go_wp2_with fail
        refine Hnx.out.mono ?_
        rintro e w1 ⟨rfl, hch, hR⟩
        have Hch := hid hch
        have HR := hid hR
        clear hch hR
        go_wp2_with fail
        go_ret
        refine ⟨?_, Hinv.out.chg.same Hch.out, ?_⟩
        · rw [← Hn0.out]; exact congrArg (fun z => Ending.returned (.int .u64 z)) HJ.out
        · rw [Hinv.out.len, Hlen.out, ← Nat.add_assoc]; exact HR.out
    · have hXm := hx2 hm
      have q3 : ¬ (X : Int) < 128 := by omega
      have q1 : (K == 63) = false := by
        by_cases e : j = 9
        · have := h9 e; omega
        · simp; omega
      have q2 : ((X : Int) == 0) = false := by simp; omega
      have hj9 : j ≠ 9 := fun e => by have := h9 e; omega
      have HX := hid hXm
      clear hx hx1 hx2 hXm h9 hpos hK hk ht1
      go_wp2_with fail
      refine Hnx.out.mono ?_
      rintro e w1 ⟨rfl, hch, hR⟩
      have Hnext := hid (Hinv.out.next Hm.out hm hch hR)
      clear hch hR
      by_cases hK63 : 0 < K
      · go_wp2_with fail
        refine ⟨⟨j + 1, m / 128, _, K + 7, rfl, by have := HK.out; omega, congrArg _ HJ.out, Hnext.out⟩, ?_⟩
        show 70 - (K + 7).toNat < 70 - K.toNat
        omega
      · go_wp2_with fail
        refine ⟨⟨j + 1, m / 128, _, K + 7, rfl, by have := HK.out; omega, congrArg _ HJ.out, Hnext.out⟩, ?_⟩
        show 70 - (K + 7).toNat < 70 - K.toNat
        omega
end Go.Proofs.Ytfmcfcjcmmlmfaa

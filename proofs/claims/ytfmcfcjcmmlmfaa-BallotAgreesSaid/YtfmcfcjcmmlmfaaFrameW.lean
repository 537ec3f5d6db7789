/- Walks over package frame. -/
import Derived.Test.YtfmcfcjcmmlmfaaTab
import Derived.Deep.QuietTactic
import Derived.BigQuiet
import Derived.Lib.EndianBits
namespace Go.Proofs.Ytfmcfcjcmmlmfaa
set_option maxRecDepth 100000
open Go Go.RowKit
set_option linter.unusedVariables false

/-- the cells behind a are these bytes -/
def Byt (w : World) (a : Option Addr) (bs : List UInt8) : Prop := ∀ j (h : j < bs.length), ∃ g off, a = some ⟨g, off, none⟩ ∧ w.cell? ⟨g, off + j, none⟩ = some (bv bs[j])

def crcStep (y : Int) : Int := bits .xor .u32 (y / 2) (bits .and .u32 (-bits .and .u32 y 1 % 4294967296) 3988292384)
def crcIter : Nat → Int → Int
  | 0, x => x
  | n + 1, x => crcStep (crcIter n x)
def crcByte (c : Int) (b : UInt8) : Int := crcIter 8 (bits .xor .u32 c (b.toNat % 4294967296))
def onF (c : Int) (bs : List UInt8) : Int := bs.foldl crcByte c
theorem onF_take (c : Int) (bs : List UInt8) (k : Nat) (h : k < bs.length) : onF c (bs.take (k + 1)) = crcByte (onF c (bs.take k)) bs[k] := by
  unfold onF; rw [List.take_succ_eq_append_getElem h, List.foldl_append]; rfl

theorem on_any (c : Int) (a : Option Addr) (cap : Nat) (bs : List UInt8) (w : World) (h : Byt w a bs) (hn : bs.length ≤ 4294967296) :
    Calls Try.prog 81 #[.int .u32 c, .slice a bs.length cap] w fun e w' => e = .returned (.int .u32 (onF c bs)) ∧ w = w' := by
  go_enter Try.func81, Try.ntmps81
  go_wp2_with fail
  go_loop [0, 6, 9] (fun c' _ i => ∃ k : Nat, k ≤ bs.length ∧ i = .int .i64 k ∧ c' = .int .u32 (onF c (bs.take k))) (fun _ _ i => bs.length - (intOf i).toNat)
  case atStart => exact ⟨0, Nat.zero_le _, rfl, rfl⟩
  case round =>
    obtain ⟨k, hk, rfl, rfl⟩ := hrel
    by_cases hlt : k < bs.length
    · obtain ⟨g, off, rfl, hc⟩ := h k hlt
      have HS := hid (onF_take c bs k hlt)
      unfold bv at hc
      clear h
      generalize onF c (bs.take k) = x at *
      go_wp2_with fail
      generalize hb : bits .xor .u32 x ((bs[k].toNat : Int) % 4294967296) = z
      have Hb := hid hb
      clear hb
      go_loop [0, 17] (fun c' i => ∃ j : Nat, j ≤ 8 ∧ i = .int .i64 j ∧ c' = .int .u32 (crcIter j z)) (fun _ i => 8 - (intOf i).toNat)
      case atStart => exact ⟨0, by omega, rfl, rfl⟩
      case round =>
        obtain ⟨j, hj, rfl, rfl⟩ := hrel
        by_cases hj8 : j < 8
        · go_wp2_with fail
          exact ⟨⟨j + 1, by omega, by go_num, rfl⟩, by simp [intOf]; omega⟩
        · obtain rfl : j = 8 := by omega
          go_wp2_with fail
          exact ⟨⟨k + 1, by omega, by go_num, by rw [HS.out]; unfold crcByte; rw [Hb.out]⟩, by simp [intOf]; omega⟩
    · have hkk : k = bs.length := by omega
      clear h
      have HT := hid (show bs.take k = bs by rw [hkk]; exact List.take_length)
      go_wp2_with fail
      go_ret
      exact ⟨rfl, rfl⟩

def bothF (xs ys : List UInt8) : Int := bits .xor .u32 IntKind.u32.max (onF (onF 4294967295 xs) ys)
theorem both_any (a b : Option Addr) (ca cb : Nat) (xs ys : List UInt8) (w : World) (ha : Byt w a xs) (hb : Byt w b ys) (hx : xs.length ≤ 4294967296) (hy : ys.length ≤ 4294967296) :
    Calls Try.prog 60 #[.slice a xs.length ca, .slice b ys.length cb] w fun e w' => e = .returned (.int .u32 (bothF xs ys)) ∧ w = w' := by
  have h1 := hid (on_any 4294967295 a ca xs w ha hx)
  have h2 := hid (on_any (onF 4294967295 xs) b cb ys w hb hy)
  clear ha hb
  go_enter Try.func60, Try.ntmps60
  go_wp2_with fail
  refine h1.out.mono ?_
  rintro e w' ⟨rfl, rfl⟩
  go_wp2_with fail
  refine h2.out.mono ?_
  rintro e w' ⟨rfl, rfl⟩
  go_wp2_with fail
  all_goals
    go_ret
    exact ⟨rfl, rfl⟩

theorem bits_or_comm (k : IntKind) (x y : Int) : bits .or k x y = bits .or k y x := by simp only [bits]; rw [BitVec.or_comm]
theorem or4 (a b c d : UInt8) : bits .or .u32 (bits .or .u32 (bits .or .u32 ((a.toNat : Int) * 16777216) ((b.toNat : Int) * 65536)) ((c.toNat : Int) * 256)) (d.toNat : Int) =
    ((a.toNat * 16777216 + b.toNat * 65536 + c.toNat * 256 + d.toNat : Nat) : Int) := by
  have ra := a.toNat_lt; have rb := b.toNat_lt; have rc := c.toNat_lt; have rd := d.toNat_lt
  have e1 : bits .or .u32 ((b.toNat : Int) * 65536) ((a.toNat : Int) * 16777216) = (b.toNat : Int) * 65536 + (a.toNat : Int) * 16777216 := u32_or24 _ _ (by omega) (by omega) (by omega) (by omega) (by omega)
  have e2 : bits .or .u32 ((c.toNat : Int) * 256) ((b.toNat : Int) * 65536 + (a.toNat : Int) * 16777216) = (c.toNat : Int) * 256 + ((b.toNat : Int) * 65536 + (a.toNat : Int) * 16777216) := u32_or16 _ _ (by omega) (by omega) (by omega) (by omega) (by omega)
  have e3 : bits .or .u32 (d.toNat : Int) ((c.toNat : Int) * 256 + ((b.toNat : Int) * 65536 + (a.toNat : Int) * 16777216)) = (d.toNat : Int) + ((c.toNat : Int) * 256 + ((b.toNat : Int) * 65536 + (a.toNat : Int) * 16777216)) := u32_or8 _ _ (by omega) (by omega) (by omega) (by omega) (by omega)
  rw [bits_or_comm _ ((a.toNat : Int) * 16777216), e1, bits_or_comm _ _ ((c.toNat : Int) * 256), e2, bits_or_comm _ _ (d.toNat : Int), e3]
  omega
/-- the number of the first four bytes -/
def be4 : List UInt8 → Nat
  | a :: b :: c :: d :: _ => a.toNat * 16777216 + b.toNat * 65536 + c.toNat * 256 + d.toNat
  | _ => 0
theorem be4_at (bs : List UInt8) (h : 4 ≤ bs.length) : be4 bs = bs[0].toNat * 16777216 + bs[1].toNat * 65536 + bs[2].toNat * 256 + bs[3].toNat := by
  match bs, h with
  | a :: b :: c :: d :: r, _ => rfl
theorem be4_lt (bs : List UInt8) : be4 bs < 4294967296 := by
  unfold be4
  split
  · rename_i a b c d _
    have ra := a.toNat_lt; have rb := b.toNat_lt; have rc := c.toNat_lt; have rd := d.toNat_lt
    omega
  · omega

set_option maxHeartbeats 400000 in
theorem read_any (a : Option Addr) (cap : Nat) (bs : List UInt8) (w : World) (h : Byt w a bs) (hn : 4 ≤ bs.length) :
    Calls Try.prog 59 #[.slice a bs.length cap] w fun e w' => e = .returned (.int .u32 (be4 bs)) ∧ ∃ k, w' = w.drewN k := by
  have he := be4_at bs hn
  obtain ⟨g, off, rfl, h0⟩ := h 0 (by omega)
  obtain ⟨g1, off1, e1, h1⟩ := h 1 (by omega)
  obtain ⟨g2, off2, e2, h2⟩ := h 2 (by omega)
  obtain ⟨g3, off3, e3, h3⟩ := h 3 (by omega)
  cases e1; cases e2; cases e3
  unfold bv at h0 h1 h2 h3
  clear h
  have b0 : (0 : Int) < bs.length := by omega
  have b1 : (1 : Int) < bs.length := by omega
  have b2 : (2 : Int) < bs.length := by omega
  have b3 : (3 : Int) < bs.length := by omega
  have r0 := bs[0].toNat_lt
  have r1 := bs[1].toNat_lt
  have r2 := bs[2].toNat_lt
  have r3 := bs[3].toNat_lt
  have H4 := hid (or4 bs[0] bs[1] bs[2] bs[3])
  rw [← he] at H4
  generalize be4 bs = R at *
  clear he
  generalize bs[0] = x0 at *
  generalize bs[1] = x1 at *
  generalize bs[2] = x2 at *
  generalize bs[3] = x3 at *
  generalize bs.length = L at *
  have n0 : 0 < L := by omega
  simp only [Nat.add_zero] at h0
  go_enter Try.func59, Try.ntmps59
  go_wp2_with fail
  go_quiet (fail)
  go_wp2_with fail
  go_ret
  exact ⟨by rw [← H4.out]; rfl, nq, rfl⟩

/-- a number's four bytes -/
def fourB (c : Nat) : List UInt8 := [UInt8.ofNat (c / 16777216), UInt8.ofNat (c / 65536), UInt8.ofNat (c / 256), UInt8.ofNat c]
theorem be4_four (c : Nat) (h : c < 4294967296) (r : List UInt8) : be4 (fourB c ++ r) = c := by simp [be4, fourB]; omega
theorem fourB_cells (c : Nat) (h : c < 4294967296) : bvs (fourB c) = [.int .u8 ((c : Int) / 16777216), .int .u8 ((c : Int) / 65536 % 256), .int .u8 ((c : Int) / 256 % 256), .int .u8 ((c : Int) % 256)] := by
  simp [bvs, fourB, bv]; omega

set_option maxRecDepth 100000 in
set_option maxHeartbeats 400000 in
theorem four_any (v : Value) (n : Nat) (xs : List Value) (c : Nat) (w : World) (hrow : Row w 5 1 v n xs) (hn : n ≤ 4294967296) (hc : c < 4294967296) :
    Calls Try.prog 68 #[v, .int .u32 c] w fun e w' => ∃ a' c', e = .returned (.slice a' (n + 4) c') ∧ Row w' 5 1 (.slice a' (n + 4) c') (n + 4) (xs ++ bvs (fourB c)) ∧ Chg (fun k => v.ownBlock = some k) w w' ∧
      (Value.ownBlock (.slice a' (n + 4) c') = v.ownBlock ∨ ∃ j, Value.ownBlock (.slice a' (n + 4) c') = some j ∧ w.heap.size ≤ j) := by
  obtain ⟨i0, hi0, hz0, hz1, hz2⟩ := info_parts infoU8
  obtain ⟨va, vc, rfl, -, -, -⟩ := hrow.cells
  have hc1 : (c : Int) ≤ 4294967295 := by omega
  rw [fourB_cells c hc]
  have hB := hid (Blk.new w #[.int .u8 ((c : Int) / 16777216), .int .u8 ((c : Int) / 65536 % 256), .int .u8 ((c : Int) / 256 % 256), .int .u8 ((c : Int) % 256)] 5)
  have hrow1 := hrow.kept (((Chg.refl (fun _ => False) w).alloc (.cells #[.int .u8 ((c : Int) / 16777216), .int .u8 ((c : Int) / 65536 % 256), .int .u8 ((c : Int) / 256 % 256), .int .u8 ((c : Int) % 256)] 5))) (fun _ _ h => h)
  have hs := Src.ofSlice (P := Try.prog) (w.alloc (.cells #[.int .u8 ((c : Int) / 16777216), .int .u8 ((c : Int) / 65536 % 256), .int .u8 ((c : Int) / 256 % 256), .int .u8 ((c : Int) % 256)] 5)) (size := 1) uBytes ⟨w.heap.size, 0, none⟩ 4 4 [.int .u8 ((c : Int) / 16777216), .int .u8 ((c : Int) / 65536 % 256), .int .u8 ((c : Int) / 256 % 256), .int .u8 ((c : Int) % 256)] rfl
    (fun j u hu => by rw [Addr.add_lit, hB.out.cellEq]; simpa using hu) (by simp [Value.oneCell'])
  have Hr := hid hrow1
  have Hs := hid hs
  have hch := (Chg.refl No w).alloc (.cells #[.int .u8 ((c : Int) / 16777216), .int .u8 ((c : Int) / 65536 % 256), .int .u8 ((c : Int) / 256 % 256), .int .u8 ((c : Int) % 256)] 5)
  have Hc := hid hch
  clear hs hrow1 hrow hch
  go_enter Try.func68, Try.ntmps68
  go_wp2_with (at_builtin; refine wpList_append_Row rfl _ _ _ _ rfl 5 i0 _ 1 1 uBytes hi0 hz0 hz1 hz2 rfl _ n xs rfl Hr.out _ rfl 4 _ Hs.out (by unfold maxLen; omega) (by omega) ?_; intro a' c' w1 hrow1 hch1 hwhere _)
  go_ret
  refine ⟨a', c', rfl, hrow1, (Hc.out.mono (fun _ _ h => h.elim)).trans hch1 (fun _ _ h => h), ?_⟩
  rcases hwhere with h | ⟨h, _⟩
  · exact .inl h
  · exact .inr ⟨_, h, by simp⟩

theorem four_m (v : Value) (n m : Nat) (xs : List Value) (c : Nat) (w : World) (hrow : Row w 5 1 v n xs) (hm : m = n + 4) (hn : n ≤ 4294967296) (hc : c < 4294967296) :
    Calls Try.prog 68 #[v, .int .u32 c] w fun e w' => ∃ a' c', e = .returned (.slice a' m c') ∧ Row w' 5 1 (.slice a' m c') m (xs ++ bvs (fourB c)) ∧ Chg (fun k => v.ownBlock = some k) w w' ∧
      (Value.ownBlock (.slice a' m c') = v.ownBlock ∨ ∃ j, Value.ownBlock (.slice a' m c') = some j ∧ w.heap.size ≤ j) := by
  subst hm; exact four_any v n xs c w hrow hn hc

/-- the sum of two texts, as a number -/
def crcN (xs ys : List UInt8) : Nat := (bothF xs ys).toNat
theorem crcN_eq (xs ys : List UInt8) : bothF xs ys = (crcN xs ys : Int) ∧ crcN xs ys < 4294967296 := by
  have h := bounds_u32 (wf_bits .xor .u32 IntKind.u32.max (onF (onF 4294967295 xs) ys))
  unfold crcN bothF at *
  omega

theorem Row.byt {w : World} {a : Option Addr} {n c : Nat} {bs : List UInt8} (h : Row w 5 1 (.slice a n c) n (bvs bs)) : Byt w a bs := by
  obtain ⟨a', c', he, _, _, hx⟩ := h.cells
  cases he
  intro j hj
  exact hx j _ (by simp [bvs, hj])
theorem Row.len {w : World} {v : Value} {n : Nat} {bs : List UInt8} (h : Row w 5 1 v n (bvs bs)) : n = bs.length := by
  have := h.1; rw [bvs_length] at this; omega

def sealF (bs : List UInt8) : List UInt8 := fourB bs.length ++ fourB (crcN (fourB bs.length) bs) ++ bs
theorem fourB_length (c : Nat) : (fourB c).length = 4 := rfl
theorem sealF_length (bs : List UInt8) : (sealF bs).length = 8 + bs.length := by simp [sealF, fourB_length]; omega

set_option maxRecDepth 100000 in
set_option maxHeartbeats 400000 in
theorem seal_ok (v : Value) (bs : List UInt8) (w : World) (hrow : Row w 5 1 v bs.length (bvs bs)) (hn : bs.length ≤ 65536) :
    Calls Try.prog 54 #[v] w fun e w' => ∃ a' c', e = .returned (.tuple #[.slice a' (8 + bs.length) c', .int .i64 0]) ∧ Row w' 5 1 (.slice a' (8 + bs.length) c') (8 + bs.length) (bvs (sealF bs)) ∧ Chg No w w' ∧
      Fresh w (.slice a' (8 + bs.length) c') := by
  obtain ⟨i0, hi0, hz0, hz1, hz2⟩ := info_parts infoU8
  obtain ⟨va, vc, rfl, -, -, -⟩ := hrow.cells
  obtain ⟨hc1, hc2⟩ := crcN_eq (fourB bs.length) bs
  have Hc1 := hid hc1
  clear hc1
  have hns : ¬ (65536 < (bs.length : Int)) := by omega
  have Hr := hid hrow
  clear hrow
  go_enter Try.func54, Try.ntmps54
  go_wp2_with (at_make; refine wpList_makeN rfl _ _ _ rfl 5 i0 (.int .u8 0) 1 1 uBytes hi0 hz0 hz1 hz2 _ _ 0 (8 + bs.length) rfl rfl rfl (by omega) (Nat.zero_le _) (by omega) (by omega) ?_; intro w1 Z hZ hnew hch hsz _)
  have hr0 : Row w1 5 1 (.slice (some ⟨w.heap.size, 0, none⟩) 0 (8 + bs.length)) 0 [] := Row.made hnew 0 (8 + bs.length) [] rfl (Nat.zero_le _) (by unfold maxLen; omega) (by omega) (fun j u hu => by simp at hu)
  have hf0 : Fresh w (.slice (some ⟨w.heap.size, 0, none⟩) 0 (8 + bs.length)) := by intro j hj; simp [ownBlock_slice] at hj; omega
  have Hr0 := hid hr0
  clear hr0
  refine (four_m _ 0 4 [] bs.length w1 Hr0.out rfl (by omega) (by omega)).mono ?_
  rintro e w2 ⟨a2, c2, rfl, hr2, hch2, hwh2⟩
  have hC2 := hch.fresh hf0 hch2
  have hf2 := hf0.next hch.size hwh2
  simp only [List.nil_append] at hr2
  have Hr2 := hid hr2
  have hl2 := Hr.out.kept hC2 (fun _ _ h => h)
  have Hl2 := hid hl2
  clear hr2 hl2
  go_wp2_with fail
  have h4 : (fourB bs.length).length = 4 := rfl
  refine (both_any a2 va c2 vc (fourB bs.length) bs w2 Hr2.out.byt Hl2.out.byt (by omega) (by omega)).mono ?_
  rintro e w2' ⟨rfl, rfl⟩
  rw [Hc1.out]
  go_wp2_with fail
  refine (four_m _ 4 8 (bvs (fourB bs.length)) (crcN (fourB bs.length) bs) w2 Hr2.out rfl (by omega) hc2).mono ?_
  rintro e w3 ⟨a3, c3, rfl, hr3, hch3, hwh3⟩
  have hC3 := hC2.fresh hf2 hch3
  have hf3 := hf2.next hC2.size hwh3
  have hl3 := Hr.out.kept hC3 (fun _ _ h => h)
  have Hr3 := hid hr3
  have hs3 := hl3.src uBytes (bvs_one _)
  have Hs3 := hid hs3
  clear hr3 hl3 hs3
  go_wp2_with (at_builtin; refine wpList_append_Row rfl _ _ _ _ rfl 5 i0 _ 1 1 uBytes hi0 hz0 hz1 hz2 rfl _ 8 _ rfl Hr3.out _ rfl bs.length _ Hs3.out (by unfold maxLen; omega) (by omega) ?_; intro a4 c4 w4 hr4 hch4 hwh4 _)
  go_ret2
  refine ⟨a4, c4, rfl, ?_, hC3.fresh hf3 hch4, hf3.next' hC3.size hwh4⟩
  simpa [sealF, bvs_append] using hr4
end Go.Proofs.Ytfmcfcjcmmlmfaa

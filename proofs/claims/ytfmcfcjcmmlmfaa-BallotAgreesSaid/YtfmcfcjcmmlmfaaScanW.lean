/- Walks over frame.Open and frame.Scan. -/
import Derived.Test.YtfmcfcjcmmlmfaaFrameW
namespace Go.Proofs.Ytfmcfcjcmmlmfaa
set_option maxRecDepth 100000
open Go Go.RowKit
set_option linter.unusedVariables false

/-- the load of the frame with which bytes begin -/
def openF (bs : List UInt8) : Except Int (List UInt8) :=
  if bs.length < 8 then .error 31
  else if 65536 < be4 bs then .error 30
  else if bs.length - 8 < be4 bs then .error 31
  else if crcN (bs.take 4) ((bs.drop 8).take (be4 bs)) = be4 (bs.drop 4) then .ok ((bs.drop 8).take (be4 bs))
  else .error 32

theorem Byt.take {w : World} {a : Option Addr} {bs : List UInt8} (h : Byt w a bs) (n : Nat) : Byt w a (bs.take n) := by
  intro j hj
  have hj' : j < bs.length := by rw [List.length_take] at hj; omega
  obtain ⟨g, off, ha, hc⟩ := h j hj'
  exact ⟨g, off, ha, by rw [hc]; simp⟩
theorem Byt.drop {w : World} {g off : Nat} {bs : List UInt8} (h : Byt w (some ⟨g, off, none⟩) bs) (n : Nat) : Byt w (some ⟨g, off + n, none⟩) (bs.drop n) := by
  intro j hj
  have hj' : n + j < bs.length := by rw [List.length_drop] at hj; omega
  obtain ⟨g', off', ha, hc⟩ := h (n + j) hj'
  cases ha
  exact ⟨g, off + n, rfl, by rw [Nat.add_assoc, hc]; simp⟩
theorem Byt.nil (w : World) (a : Option Addr) : Byt w a [] := fun j hj => by simp at hj
theorem Byt.drewN {w : World} {a : Option Addr} {bs : List UInt8} (h : Byt w a bs) (n : Nat) : Byt (w.drewN n) a bs := h

theorem Byt.kept {w w' : World} {a : Option Addr} {bs : List UInt8} (h : Byt w a bs) (c : Chg No w w') : Byt w' a bs := fun j hj => by
  obtain ⟨g, off, ha, hc⟩ := h j hj
  exact ⟨g, off, ha, c.cellN hc⟩
theorem Byt.src {w : World} {g off n : Nat} {bs : List UInt8} (h : Byt w (some ⟨g, off, none⟩) bs) (hn : n = bs.length) (cap : Nat) : Src Try.prog 1 72 (.slice (some ⟨g, off, none⟩) n cap) n (bvs bs) w := by
  subst hn
  refine Src.ofSlice w uBytes _ _ cap (bvs bs) (by rw [bvs_length]; omega) (fun j u hu => ?_) (bvs_one _)
  rw [Addr.add_lit]
  have hj : j < bs.length := by have := (List.getElem?_eq_some_iff.1 hu).1; rwa [bvs_length] at this
  obtain ⟨g', off', he, hc⟩ := h j hj
  cases he
  rw [hc, ← hu]; simp [bvs, hj]

theorem open_short (a : Option Addr) (cap : Nat) (bs : List UInt8) (w : World) (h8 : bs.length < 8) :
    Calls Try.prog 48 #[.slice a bs.length cap] w fun e w' => e = .returned (.tuple #[.slice none 0 0, .int .i64 0, .int .i64 31]) ∧ w = w' := by
  have hI : (bs.length : Int) < 8 := by omega
  go_enter Try.func48, Try.ntmps48
  go_wp2_with fail
  go_ret3
  exact ⟨rfl, rfl⟩

set_option maxRecDepth 100000 in
set_option maxHeartbeats 400000 in
theorem open_bad (a : Option Addr) (cap : Nat) (bs : List UInt8) (w : World) (hb : Byt w a bs) (h8 : ¬ bs.length < 8) (hn : bs.length ≤ 4194304) (h : 65536 < be4 bs ∨ bs.length - 8 < be4 bs) :
    Calls Try.prog 48 #[.slice a bs.length cap] w fun e w' => e = .returned (.tuple #[.slice none 0 0, .int .i64 0, .int .i64 (if 65536 < be4 bs then 30 else 31)]) ∧ ∃ k, w' = w.drewN k := by
  have hI : ¬ (bs.length : Int) < 8 := by omega
  have hr := hid (read_any a cap bs w hb (by omega))
  have hlt := be4_lt bs
  clear hb
  generalize be4 bs = n at *
  by_cases h1 : 65536 < n
  · have h1I : (65536 : Int) < n := by omega
    clear h
    go_enter Try.func48, Try.ntmps48
    go_wp2_with (go_at_call 59; refine hr.out.mono ?_; rintro e w' ⟨rfl, k, rfl⟩)
    go_ret3
    exact ⟨rfl, k, rfl⟩
  · have h1I : ¬ (65536 : Int) < n := by omega
    have h2I : (bs.length : Int) - 8 < n := by omega
    clear h
    go_enter Try.func48, Try.ntmps48
    go_wp2_with (go_at_call 59; refine hr.out.mono ?_; rintro e w' ⟨rfl, k, rfl⟩)
    go_ret3
    exact ⟨rfl, k, rfl⟩

set_option maxRecDepth 100000 in
set_option maxHeartbeats 800000 in
theorem open_ok (g off cap n : Nat) (bs : List UInt8) (w : World) (hb : Byt w (some ⟨g, off, none⟩) bs) (h8 : ¬ bs.length < 8) (hn : bs.length ≤ 4194304) (hcap : bs.length ≤ cap) (he : be4 bs = n) (h1 : n ≤ 65536) (h2 : n ≤ bs.length - 8)
    (hc : crcN (bs.take 4) ((bs.drop 8).take n) = be4 (bs.drop 4)) :
    Calls Try.prog 48 #[.slice (some ⟨g, off, none⟩) bs.length cap] w fun e w' => ∃ a', e = .returned (.tuple #[.slice a' n n, .int .i64 (8 + n), .int .i64 0]) ∧
      Row w' 5 1 (.slice a' n n) n (bvs ((bs.drop 8).take n)) ∧ Chg No w w' ∧ Fresh w (.slice a' n n) := by
  have hI : ¬ (bs.length : Int) < 8 := by omega
  have hr := read_any (some ⟨g, off, none⟩) cap bs w hb (by omega)
  rw [he] at hr
  have Hr := hid hr
  have l4 : (bs.take 4).length = 4 := by rw [List.length_take]; omega
  have l8 : ((bs.drop 8).take n).length = n := by rw [List.length_take, List.length_drop]; omega
  obtain ⟨o8, s2, hB8⟩ : ∃ o8, (∀ w, (Instr.slice 72 (.slice (some ⟨g, off, none⟩) bs.length cap) (some (.int .i64 8)) (some (.int .i64 (8 + (n : Int)))) none).run Try.prog w = .ok (.slice (some ⟨g, o8, none⟩) n (cap - 8)) w) ∧ Byt w (some ⟨g, o8, none⟩) ((bs.drop 8).take n) := by
    by_cases hc8 : cap = 8
    · obtain rfl : n = 0 := by omega
      refine ⟨off, fun w => ?_, by simpa using Byt.nil _ _⟩
      have := run_slice_lh_end (P := Try.prog) uBytes sizeU8 (some ⟨g, off, none⟩) bs.length cap 8 8 (Nat.le_refl _) (by omega) hc8 8 (8 + ((0 : Nat) : Int)) rfl rfl w
      rw [this, hc8]
    · refine ⟨off + 8, fun w => ?_, (hb.drop 8).take n⟩
      have := run_slice_lh (P := Try.prog) uBytes sizeU8 g off bs.length cap 8 (8 + n) (by omega) (by omega) hc8 8 (8 + (n : Int)) rfl (by omega) w
      rw [this]; congr 2; omega
  have hboth : ∀ q, Calls Try.prog 60 #[.slice (some ⟨g, off, none⟩) 4 cap, .slice (some ⟨g, o8, none⟩) n (cap - 8)] (w.drewN q) fun e w' => e = .returned (.int .u32 (be4 (bs.drop 4))) ∧ w' = w.drewN q := by
    intro q
    have := both_any (some ⟨g, off, none⟩) (some ⟨g, o8, none⟩) cap (cap - 8) (bs.take 4) ((bs.drop 8).take n) (w.drewN q) (hb.take 4) hB8 (by omega) (by omega)
    rw [l4, l8, (crcN_eq _ _).1, hc] at this
    exact this.mono fun e w' ⟨h1, h2⟩ => ⟨h1, h2.symm⟩
  have hread2 : ∀ q, Calls Try.prog 59 #[.slice (some ⟨g, off + 4, none⟩) (bs.length - 4) (cap - 4)] (w.drewN q) fun e w' => e = .returned (.int .u32 (be4 (bs.drop 4))) ∧ ∃ m, w' = (w.drewN q).drewN m := by
    intro q
    have := read_any (some ⟨g, off + 4, none⟩) (cap - 4) (bs.drop 4) (w.drewN q) (hb.drop 4) (by rw [List.length_drop]; omega)
    rw [List.length_drop] at this
    exact this
  have Hb := hid hboth
  have Hd := hid hread2
  have HB := hid hB8
  clear hB8
  have L8 := hid l8
  obtain ⟨i0, hi0, hz0, hz1, hz2⟩ := info_parts infoU8
  clear hr hb he hc hboth hread2 l4 l8
  have h1I : ¬ (65536 : Int) < n := by omega
  have h2I : ¬ (bs.length : Int) - 8 < n := by omega
  have s1 := run_slice_h (P := Try.prog) uBytes sizeU8 (some ⟨g, off, none⟩) bs.length cap 4 (by omega) 4 rfl
  have s3 := run_slice_l (P := Try.prog) uBytes sizeU8 g off bs.length cap 4 (by omega) (by omega) 4 rfl
  rw [show 4 * 1 = 4 from rfl] at s3
  have hw : IntKind.i64.wrap (8 + (n : Int)) = 8 + (n : Int) := IntWalk.i64_in _ (by omega)
  go_enter Try.func48, Try.ntmps48
  go_wp2_with fail
  refine Hr.out.mono ?_
  rintro e w' ⟨rfl, k, hk⟩
  have hch0 : Chg No w w' := by rw [hk]; exact (Chg.refl _ _).drewN k
  have hboth2 : ∀ q, Calls Try.prog 60 #[.slice (some ⟨g, off, none⟩) 4 cap, .slice (some ⟨g, o8, none⟩) n (cap - 8)] (w'.drewN q) fun e w'' => e = .returned (.int .u32 (be4 (bs.drop 4))) ∧ w'' = w'.drewN q := by
    intro q; subst hk; rw [World.drewN_drewN]; exact Hb.out (k + q)
  have hread3 : ∀ q, Calls Try.prog 59 #[.slice (some ⟨g, off + 4, none⟩) (bs.length - 4) (cap - 4)] (w'.drewN q) fun e w'' => e = .returned (.int .u32 (be4 (bs.drop 4))) ∧ ∃ m, w'' = (w'.drewN q).drewN m := by
    intro q; subst hk; rw [World.drewN_drewN]; exact Hd.out (k + q)
  have Hb2 := hid hboth2
  have Hd2 := hid hread3
  clear hk hboth2 hread3 Hb Hd Hr
  go_wp2_with fail
  go_quiet ((first | (go_at_call 60; exact Calls.quiet_of_same (Hb2.out _)) | (go_at_call 59; exact Calls.quiet_of (Hd2.out _))))
  have hC1 := (hch0.drewN nq).alloc (.cells #[] 5)
  have hs := (HB.out.kept hC1).src (L8.out.symm) (cap - 8)
  have hr0 : Row ((w'.drewN nq).alloc (.cells #[] 5)) 5 1 (.slice (some ⟨w'.heap.size, 0, none⟩) 0 0) 0 [] := Row.made (Blk.new (w'.drewN nq) #[] 5) 0 0 [] rfl (Nat.le_refl _) (by unfold maxLen; omega) (by simp) (fun j u hu => by simp at hu)
  have Hs := hid hs
  have Hr0 := hid hr0
  have hf0 : Fresh w (.slice (some ⟨w'.heap.size, 0, none⟩) 0 0) := by intro j hj; simp [ownBlock_slice] at hj; have := hch0.size; omega
  have hC := hid hC1
  clear hs hr0 hC1
  go_wp2_with (at_builtin; refine wpList_append_Row rfl _ _ _ _ rfl 5 i0 _ 1 1 uBytes hi0 hz0 hz1 hz2 rfl (.slice (some ⟨w'.heap.size, 0, none⟩) 0 0) 0 _ rfl Hr0.out (.slice (some ⟨g, o8, none⟩) n (cap - 8)) rfl n _ Hs.out (by unfold maxLen; omega) (by omega) ?_; intro a4 c4 w4 hr4 hch4 hwh4 _; simp only [Nat.zero_add, List.nil_append] at hr4 hwh4 ⊢; have hle4 : n ≤ c4 := (by obtain ⟨a', c', he, h1, _⟩ := hr4.cells; cases he; exact h1))
  go_ret3
  exact ⟨a4, rfl, hr4.capped, hC.out.fresh hf0 hch4, (hf0.next' hC.out.size hwh4).cap⟩
set_option maxRecDepth 100000 in
set_option maxHeartbeats 800000 in
theorem open_sum (g off cap n : Nat) (bs : List UInt8) (w : World) (hb : Byt w (some ⟨g, off, none⟩) bs) (h8 : ¬ bs.length < 8) (hn : bs.length ≤ 4194304) (hcap : bs.length ≤ cap) (he : be4 bs = n) (h1 : n ≤ 65536) (h2 : n ≤ bs.length - 8)
    (hc : crcN (bs.take 4) ((bs.drop 8).take n) ≠ be4 (bs.drop 4)) :
    Calls Try.prog 48 #[.slice (some ⟨g, off, none⟩) bs.length cap] w fun e w' => e = .returned (.tuple #[.slice none 0 0, .int .i64 0, .int .i64 32]) ∧ Chg No w w' := by
  have hI : ¬ (bs.length : Int) < 8 := by omega
  have hr := read_any (some ⟨g, off, none⟩) cap bs w hb (by omega)
  rw [he] at hr
  have Hr := hid hr
  have l4 : (bs.take 4).length = 4 := by rw [List.length_take]; omega
  have l8 : ((bs.drop 8).take n).length = n := by rw [List.length_take, List.length_drop]; omega
  obtain ⟨o8, s2, hB8⟩ : ∃ o8, (∀ w, (Instr.slice 72 (.slice (some ⟨g, off, none⟩) bs.length cap) (some (.int .i64 8)) (some (.int .i64 (8 + (n : Int)))) none).run Try.prog w = .ok (.slice (some ⟨g, o8, none⟩) n (cap - 8)) w) ∧ Byt w (some ⟨g, o8, none⟩) ((bs.drop 8).take n) := by
    by_cases hc8 : cap = 8
    · obtain rfl : n = 0 := by omega
      refine ⟨off, fun w => ?_, by simpa using Byt.nil _ _⟩
      have := run_slice_lh_end (P := Try.prog) uBytes sizeU8 (some ⟨g, off, none⟩) bs.length cap 8 8 (Nat.le_refl _) (by omega) hc8 8 (8 + ((0 : Nat) : Int)) rfl rfl w
      rw [this, hc8]
    · refine ⟨off + 8, fun w => ?_, (hb.drop 8).take n⟩
      have := run_slice_lh (P := Try.prog) uBytes sizeU8 g off bs.length cap 8 (8 + n) (by omega) (by omega) hc8 8 (8 + (n : Int)) rfl (by omega) w
      rw [this]; congr 2; omega
  have hboth : ∀ q, Calls Try.prog 60 #[.slice (some ⟨g, off, none⟩) 4 cap, .slice (some ⟨g, o8, none⟩) n (cap - 8)] (w.drewN q) fun e w' => e = .returned (.int .u32 (crcN (bs.take 4) ((bs.drop 8).take n))) ∧ w' = w.drewN q := by
    intro q
    have := both_any (some ⟨g, off, none⟩) (some ⟨g, o8, none⟩) cap (cap - 8) (bs.take 4) ((bs.drop 8).take n) (w.drewN q) (hb.take 4) hB8 (by omega) (by omega)
    rw [l4, l8, (crcN_eq _ _).1] at this
    exact this.mono fun e w' ⟨h1, h2⟩ => ⟨h1, h2.symm⟩
  have hread2 : ∀ q, Calls Try.prog 59 #[.slice (some ⟨g, off + 4, none⟩) (bs.length - 4) (cap - 4)] (w.drewN q) fun e w' => e = .returned (.int .u32 (be4 (bs.drop 4))) ∧ ∃ m, w' = (w.drewN q).drewN m := by
    intro q
    have := read_any (some ⟨g, off + 4, none⟩) (cap - 4) (bs.drop 4) (w.drewN q) (hb.drop 4) (by rw [List.length_drop]; omega)
    rw [List.length_drop] at this
    exact this
  have Hb := hid hboth
  have Hd := hid hread2
  have L8 := hid l8
  obtain ⟨i0, hi0, hz0, hz1, hz2⟩ := info_parts infoU8
  have hx1 : ¬ ((crcN (bs.take 4) ((bs.drop 8).take n) : Int) = (be4 (bs.drop 4) : Int)) := by omega
  have hx2 : ((crcN (bs.take 4) ((bs.drop 8).take n) : Int) == (be4 (bs.drop 4) : Int)) = false := beq_eq_false_iff_ne.2 hx1
  generalize crcN (bs.take 4) ((bs.drop 8).take n) = x at *
  generalize be4 (bs.drop 4) = y at *
  clear hr hb he hc hboth hread2 l4 l8 hB8
  have h1I : ¬ (65536 : Int) < n := by omega
  have h2I : ¬ (bs.length : Int) - 8 < n := by omega
  have s1 := run_slice_h (P := Try.prog) uBytes sizeU8 (some ⟨g, off, none⟩) bs.length cap 4 (by omega) 4 rfl
  have s3 := run_slice_l (P := Try.prog) uBytes sizeU8 g off bs.length cap 4 (by omega) (by omega) 4 rfl
  rw [show 4 * 1 = 4 from rfl] at s3
  have hw : IntKind.i64.wrap (8 + (n : Int)) = 8 + (n : Int) := IntWalk.i64_in _ (by omega)
  go_enter Try.func48, Try.ntmps48
  go_wp2_with fail
  refine Hr.out.mono ?_
  rintro e w' ⟨rfl, k, hk⟩
  have hch0 : Chg No w w' := by rw [hk]; exact (Chg.refl _ _).drewN k
  have hboth2 : ∀ q, Calls Try.prog 60 #[.slice (some ⟨g, off, none⟩) 4 cap, .slice (some ⟨g, o8, none⟩) n (cap - 8)] (w'.drewN q) fun e w'' => e = .returned (.int .u32 x) ∧ w'' = w'.drewN q := by
    intro q; subst hk; rw [World.drewN_drewN]; exact Hb.out (k + q)
  have hread3 : ∀ q, Calls Try.prog 59 #[.slice (some ⟨g, off + 4, none⟩) (bs.length - 4) (cap - 4)] (w'.drewN q) fun e w'' => e = .returned (.int .u32 y) ∧ ∃ m, w'' = (w'.drewN q).drewN m := by
    intro q; subst hk; rw [World.drewN_drewN]; exact Hd.out (k + q)
  have Hb2 := hid hboth2
  have Hd2 := hid hread3
  clear hk hboth2 hread3 Hb Hd Hr
  go_wp2_with fail
  go_quiet ((first | (go_at_call 60; exact Calls.quiet_of_same (Hb2.out _)) | (go_at_call 59; exact Calls.quiet_of (Hd2.out _))))
  go_wp2_with fail
  go_ret3
  exact ⟨rfl, hch0.drewN nq⟩


/-- What frame.Open answers. -/
def OpenPost (w : World) (bs : List UInt8) (e : Ending) (w' : World) : Prop :=
  match openF bs with
  | .error k => e = .returned (.tuple #[.slice none 0 0, .int .i64 0, .int .i64 k]) ∧ Chg No w w'
  | .ok l => ∃ a', e = .returned (.tuple #[.slice a' l.length l.length, .int .i64 (8 + l.length), .int .i64 0]) ∧ Row w' 5 1 (.slice a' l.length l.length) l.length (bvs l) ∧ Chg No w w' ∧ Fresh w (.slice a' l.length l.length)

theorem open_any (a : Option Addr) (cap : Nat) (bs : List UInt8) (w : World) (hb : Byt w a bs) (hn : bs.length ≤ 4194304) (hcap : bs.length ≤ cap) :
    Calls Try.prog 48 #[.slice a bs.length cap] w (OpenPost w bs) := by
  by_cases h8 : bs.length < 8
  · refine (open_short a cap bs w h8).mono ?_
    rintro e w' ⟨rfl, rfl⟩
    unfold OpenPost openF; rw [if_pos h8]; exact ⟨rfl, Chg.refl _ _⟩
  obtain ⟨g, off, rfl, -⟩ := hb 0 (by omega)
  by_cases h1 : 65536 < be4 bs
  · refine (open_bad _ cap bs w hb h8 hn (.inl h1)).mono ?_
    rintro e w' ⟨rfl, k, rfl⟩
    unfold OpenPost openF; rw [if_neg h8, if_pos h1]; exact ⟨by rw [if_pos h1], (Chg.refl _ _).drewN k⟩
  by_cases h2 : bs.length - 8 < be4 bs
  · refine (open_bad _ cap bs w hb h8 hn (.inr h2)).mono ?_
    rintro e w' ⟨rfl, k, rfl⟩
    unfold OpenPost openF; rw [if_neg h8, if_neg h1, if_pos h2]; exact ⟨by rw [if_neg h1], (Chg.refl _ _).drewN k⟩
  by_cases hc : crcN (bs.take 4) ((bs.drop 8).take (be4 bs)) = be4 (bs.drop 4)
  · refine (open_ok g off cap (be4 bs) bs w hb h8 hn hcap rfl (by omega) (by omega) hc).mono ?_
    rintro e w' ⟨a', rfl, h3, h4, h5⟩
    have hl : ((bs.drop 8).take (be4 bs)).length = be4 bs := by rw [List.length_take, List.length_drop]; omega
    unfold OpenPost openF; rw [if_neg h8, if_neg h1, if_neg h2, if_pos hc]
    simp only [hl]
    exact ⟨a', rfl, h3, h4, h5⟩
  · refine (open_sum g off cap (be4 bs) bs w hb h8 hn hcap rfl (by omega) (by omega) hc).mono ?_
    rintro e w' ⟨rfl, h4⟩
    unfold OpenPost openF; rw [if_neg h8, if_neg h1, if_neg h2, if_neg hc]
    exact ⟨rfl, h4⟩
end Go.Proofs.Ytfmcfcjcmmlmfaa

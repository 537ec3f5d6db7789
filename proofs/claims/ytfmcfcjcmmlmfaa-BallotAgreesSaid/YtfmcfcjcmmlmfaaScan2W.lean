/- The walk over frame.Scan. -/
import Derived.Test.YtfmcfcjcmmlmfaaScanW
namespace Go.Proofs.Ytfmcfcjcmmlmfaa
set_option maxRecDepth 100000
open Go Go.RowKit
set_option linter.unusedVariables false

/-- the loads of all frames with which bytes begin, and how many bytes these have -/
def scanF : Nat → List UInt8 → List (List UInt8) × Nat
  | 0, _ => ([], 0)
  | k + 1, b => match openF b with
    | .ok l => (l :: (scanF k (b.drop (8 + l.length))).1, 8 + l.length + (scanF k (b.drop (8 + l.length))).2)
    | .error _ => ([], 0)

theorem openF_len {b l : List UInt8} (h : openF b = .ok l) : 8 + l.length ≤ b.length := by
  unfold openF at h
  split at h
  · cases h
  split at h
  · cases h
  split at h
  · cases h
  split at h
  · cases h; rw [List.length_take, List.length_drop]; omega
  · cases h

theorem openF_err {b : List UInt8} {k : Int} (h : openF b = .error k) : k = 30 ∨ k = 31 ∨ k = 32 := by
  unfold openF at h
  split at h
  · cases h; simp
  split at h
  · cases h; simp
  split at h
  · cases h; simp
  split at h
  · cases h
  · cases h; simp

/-- slices of bytes, one behind the other, each in memory that is new since w0 -/
structure Loads (w0 w : World) (vs : List Value) (ls : List (List UInt8)) : Prop where
  len : vs.length = ls.length
  at_ : ∀ (i : Nat) (v : Value) (l : List UInt8), vs[i]? = some v → ls[i]? = some l → ∃ a, v = .slice a l.length l.length ∧ Row w 5 1 v l.length (bvs l) ∧ Fresh w0 v
theorem Loads.one {w0 w : World} {vs : List Value} {ls : List (List UInt8)} (h : Loads w0 w vs ls) : ∀ u ∈ vs, u.oneCell' = true := by
  intro u hu
  obtain ⟨i, hi⟩ := List.getElem?_of_mem hu
  have hlt := (List.getElem?_eq_some_iff.1 hi).1
  obtain ⟨a, rfl, _⟩ := h.at_ i u _ hi (List.getElem?_eq_getElem (by rw [← h.len]; exact hlt))
  rfl
theorem Loads.kept {w0 w w' : World} {S : Nat → Prop} {vs : List Value} {ls : List (List UInt8)} (h : Loads w0 w vs ls) (c : Chg S w w') (hs : ∀ v ∈ vs, ∀ j, v.ownBlock = some j → ¬ S j) : Loads w0 w' vs ls :=
  ⟨h.len, fun i v l hv hl => let ⟨a, h1, h2, h3⟩ := h.at_ i v l hv hl; ⟨a, h1, h2.kept c (hs v (List.mem_of_getElem? hv)), h3⟩⟩
theorem Loads.snoc {w0 w : World} {vs : List Value} {ls : List (List UInt8)} (h : Loads w0 w vs ls) {a : Option Addr} {l : List UInt8} (h1 : Row w 5 1 (.slice a l.length l.length) l.length (bvs l)) (h2 : Fresh w0 (.slice a l.length l.length)) :
    Loads w0 w (vs ++ [.slice a l.length l.length]) (ls ++ [l]) := by
  refine ⟨by simp [h.len], fun i v x hv hx => ?_⟩
  by_cases hi : i < vs.length
  · rw [List.getElem?_append_left hi] at hv
    rw [List.getElem?_append_left (by rw [← h.len]; exact hi)] at hx
    exact h.at_ i v x hv hx
  · rw [List.getElem?_append_right (by omega)] at hv
    rw [List.getElem?_append_right (by rw [← h.len]; omega)] at hx
    have e1 : i - vs.length = 0 := by have := (List.getElem?_eq_some_iff.1 hv).1; simp at this; omega
    rw [← h.len, e1] at hx
    rw [e1] at hv
    simp at hv hx
    subst hv; subst hx
    exact ⟨a, rfl, h1, h2⟩

/-- a slice of slices, new since w0, disjoint from its elements -/
def LoadsRow (w0 w : World) (v : Value) (ls : List (List UInt8)) : Prop :=
  ∃ vs, Row w 72 1 v vs.length vs ∧ Loads w0 w vs ls ∧ Fresh w0 v ∧ ∀ u ∈ vs, ∀ j, v.ownBlock = some j → u.ownBlock ≠ some j

def ScanInv (w0 : World) (b : List UInt8) (K : Nat) (at_ : Nat) (v : Value) (w : World) : Prop :=
  at_ ≤ b.length ∧ Chg No w0 w ∧ ∃ ls k, ls.length ≤ at_ ∧ (b.drop at_).length < k ∧ scanF K b = (ls ++ (scanF k (b.drop at_)).1, at_ + (scanF k (b.drop at_)).2) ∧ LoadsRow w0 w v ls

set_option maxRecDepth 100000 in
set_option maxHeartbeats 800000 in
theorem scan_ok (g n : Nat) (b : List UInt8) (w : World) (hb : Row w 5 1 (.slice (some ⟨g, 0, none⟩) n n) n (bvs b)) (hn : n ≤ 4194304) :
    Calls Try.prog 35 #[.slice (some ⟨g, 0, none⟩) n n] w fun e w' => ∃ v, e = .returned (.tuple #[v, .int .i64 (scanF (n + 1) b).2]) ∧ Chg No w w' ∧ LoadsRow w w' v (scanF (n + 1) b).1 := by
  obtain rfl := hb.len
  have hB := hid hb.byt
  clear hb
  obtain ⟨i0, hi0, hz0, hz1, hz2⟩ := info_parts infoBytes
  go_enter Try.func35, Try.ntmps35
  go_wp2_with fail
  go_loopw [4, 5] (fun l i wr => ∃ at_ : Nat, i = .int .i64 at_ ∧ ScanInv w b (b.length + 1) at_ l wr) (fun _ i _ => b.length - (intOf i).toNat)
  case atStart => exact ⟨0, rfl, Nat.zero_le _, Chg.refl _ _, [], b.length + 1, Nat.le_refl _, by simp, by simp, [], Row.nil _ _ _, ⟨rfl, fun i v l hv => by simp at hv⟩, (fun j hj => by simp [Value.ownBlock] at hj), fun u hu => by simp at hu⟩
  case round =>
    obtain ⟨at_, rfl, hat, hch, ls, k, hla, hk, hsc, vs, hrow, hlo, hfr, hdis⟩ := hrel
    obtain ⟨va, vc, rfl, hvc, -, -⟩ := hrow.cells
    obtain ⟨a2, hs, hB2⟩ : ∃ a2, (∀ w', (Instr.slice 72 (.slice (some ⟨g, 0, none⟩) b.length b.length) (some (.int .i64 at_)) none none).run Try.prog w' = .ok (.slice a2 (b.length - at_) (b.length - at_)) w') ∧ Byt wr a2 (b.drop at_) := by
      by_cases he : b.length = at_
      · refine ⟨some ⟨g, 0, none⟩, fun w' => ?_, ?_⟩
        · rw [run_slice_l_end (P := Try.prog) uBytes sizeU8 (some ⟨g, 0, none⟩) b.length b.length at_ hat he at_ rfl w', he, Nat.sub_self]
        · rw [List.drop_eq_nil_of_le (by omega)]; exact Byt.nil _ _
      · refine ⟨some ⟨g, 0 + at_, none⟩, fun w' => ?_, (hB.out.kept hch).drop at_⟩
        rw [run_slice_l (P := Try.prog) uBytes sizeU8 g 0 b.length b.length at_ hat he at_ rfl w', Nat.mul_one]
    have ho := open_any a2 (b.length - at_) (b.drop at_) wr hB2 (by rw [List.length_drop]; omega) (by rw [List.length_drop]; exact Nat.le_refl _)
    rw [List.length_drop] at ho
    have Ho := hid ho
    have Hr := hid hrow
    clear ho hB2 hrow hB
    go_wp2_with fail
    refine Ho.out.mono ?_
    rintro e w1 hP
    unfold OpenPost at hP
    cases hoF : openF (b.drop at_) with
    | error er =>
      rw [hoF] at hP
      obtain ⟨rfl, hch1⟩ := hP
      have hne : ¬ (er = 0) := by have := openF_err hoF; omega
      have hne2 : (er == 0) = false := by simpa using hne
      have e1 : scanF k (b.drop at_) = ([], 0) := by
        obtain ⟨k', rfl⟩ : ∃ k', k = k' + 1 := ⟨k - 1, by omega⟩
        unfold scanF; rw [hoF]
      rw [e1] at hsc
      have Hsc := hid hsc
      clear hsc e1 hoF
      go_wp2_with fail
      go_ret2
      have e2 := Hsc.out
      simp only [List.append_nil, Nat.add_zero] at e2
      refine ⟨.slice va vs.length vc, by rw [e2]; rfl, hch.same hch1, ?_⟩
      rw [e2]
      exact ⟨vs, Hr.out.kept hch1 (fun _ _ h => h), hlo.kept hch1 (fun _ _ _ _ h => h), hfr, hdis⟩
    | ok l =>
      rw [hoF] at hP
      obtain ⟨a', rfl, hr1, hch1, hf1⟩ := hP
      have hll := openF_len hoF
      rw [List.length_drop] at hll
      have hlen := hlo.len
      have hvl : vs.length ≤ b.length := by omega
      have hla2 : (ls ++ [l]).length ≤ at_ + (8 + l.length) := by simp; omega
      have hk2 : ∃ k2, (b.drop (at_ + (8 + l.length))).length < k2 ∧ scanF (b.length + 1) b = ((ls ++ [l]) ++ (scanF k2 (b.drop (at_ + (8 + l.length)))).1, at_ + (8 + l.length) + (scanF k2 (b.drop (at_ + (8 + l.length)))).2) := by
        obtain ⟨k', rfl⟩ : ∃ k', k = k' + 1 := ⟨k - 1, by omega⟩
        refine ⟨k', by rw [List.length_drop] at hk ⊢; omega, ?_⟩
        rw [hsc]
        conv => lhs; unfold scanF
        rw [hoF]
        simp only [List.drop_drop, List.append_assoc, List.cons_append, List.nil_append, Nat.add_assoc]
      have HK := hid hk2
      have hcA : Chg No w1 (w1.alloc (.cells #[.slice a' l.length l.length] 72)) := (Chg.refl _ _).alloc _
      have hrA := ((Hr.out.kept hch1 (fun _ _ h => h)).kept hcA (fun _ _ h => h))
      have hsA := Src.ofSlice (P := Try.prog) (w1.alloc (.cells #[.slice a' l.length l.length] 72)) (size := 1) uLoads ⟨w1.heap.size, 0, none⟩ 1 1 [.slice a' l.length l.length] rfl
        (fun j u hu => by rw [Addr.add_lit, (Blk.new w1 _ _).cellEq]; simpa using hu) (by simp [Value.oneCell'])
      have hloA := (hlo.kept hch1 (fun _ _ _ _ h => h)).kept hcA (fun _ _ _ _ h => h)
      have hr1A := hr1.kept hcA (fun _ _ h => h)
      have hltv : ∀ j, (Value.slice va vs.length vc).ownBlock = some j → j < wr.heap.size := fun j hj => Hr.out.lt hj
      have hlt1 : ∀ j, (Value.slice a' l.length l.length).ownBlock = some j → j < w1.heap.size := fun j hj => hr1.lt hj
      have hltu : ∀ u ∈ vs, ∀ j, u.ownBlock = some j → j < wr.heap.size := by
        intro u hu j hj
        obtain ⟨i, hi⟩ := List.getElem?_of_mem hu
        have hlt := (List.getElem?_eq_some_iff.1 hi).1
        obtain ⟨_, _, h2, _⟩ := hlo.at_ i u _ hi (List.getElem?_eq_getElem (by rw [← hlo.len]; exact hlt))
        exact h2.lt hj
      have hch01 := hch1.size
      have hchA := (hch.same hch1).same hcA
      have HrA := hid hrA
      have HsA := hid hsA
      have HloA := hid hloA
      have Hr1A := hid hr1A
      have Hltv := hid hltv
      have Hlt1 := hid hlt1
      have Hltu := hid hltu
      have Hdis := hid hdis
      have HchA := hid hchA
      clear hsc hk2 hrA hsA hloA hr1A hltv hlt1 hltu hdis hcA hchA hlen hoF
      go_wp2_with (at_builtin; refine wpList_append_Row rfl _ _ _ _ rfl 72 i0 _ 1 24 uLoads hi0 hz0 hz1 hz2 rfl (.slice va vs.length vc) vs.length vs rfl HrA.out (.slice (some ⟨w1.heap.size, 0, none⟩) 1 1) rfl 1 _ HsA.out (by unfold maxLen; omega) (by omega) ?_; intro a4 c4 w4 hr4 hch4 hwh4 _)
      obtain ⟨k2, hk2, hs2⟩ := HK.out
      have hF4 := hfr.next' HchA.out.size hwh4
      refine ⟨⟨at_ + (8 + l.length), by go_num, by omega, HchA.out.fresh hfr hch4, ls ++ [l], k2, hla2, hk2, hs2, vs ++ [.slice a' l.length l.length], by simpa using hr4, ?_, hF4, ?_⟩, by simp [intOf]; omega⟩
      · refine (HloA.out.kept hch4 ?_).snoc (Hr1A.out.kept hch4 ?_) (fun j hj => Nat.le_trans hch.size (hf1 j hj))
        · exact fun v hv j hj he => Hdis.out v hv j he hj
        · intro j hj he
          have h1 := hf1 j hj
          have h2 := Hltv.out j he
          omega
      · intro u hu j hj he
        rcases hwh4 with h | ⟨h, _⟩
        · rw [h] at hj
          rcases List.mem_append.1 hu with hu | hu
          · exact Hdis.out u hu j hj he
          · simp only [List.mem_singleton] at hu
            subst hu
            have h1 := hf1 j he
            have h2 := Hltv.out j hj
            omega
        · rw [h] at hj
          have hj' : j = w1.heap.size + 1 := by simpa using hj.symm
          rcases List.mem_append.1 hu with hu | hu
          · have := Hltu.out u hu j he; omega
          · simp only [List.mem_singleton] at hu
            subst hu
            have := Hlt1.out j he; omega
end Go.Proofs.Ytfmcfcjcmmlmfaa

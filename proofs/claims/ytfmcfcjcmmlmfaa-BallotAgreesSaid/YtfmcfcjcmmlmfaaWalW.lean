/- Walks over package wal. -/
import Derived.Test.YtfmcfcjcmmlmfaaDiskB
import Derived.Deep.RegionWith
namespace Go.Proofs.Ytfmcfcjcmmlmfaa
set_option maxRecDepth 100000
open Go Go.RowKit
set_option linter.unusedVariables false

theorem met_ok (wb : Nat) (e : Int) (a s lg : Int) (dp : Value) (w : World) (h : Blk w wb #[.int .i64 a, .int .i64 s, dp, .int .i64 lg, .bool false] 97) (he : ¬ e = 71) :
    Calls Try.prog 30 #[.pointer (some ⟨wb, 0, none⟩), .int .i64 e] w fun en w' => en = .returned (.int .i64 e) ∧ Blk w' wb #[.int .i64 a, .int .i64 s, dp, .int .i64 lg, .bool false] 97 ∧ Chg (One wb) w w' := by
  have H := hid h
  obtain ⟨-, -, -, -, c4, hf⟩ := h.c5
  have he2 : (e == 71) = false := by simpa using he
  clear h
  go_enter Try.func30, Try.ntmps30
  go_wp2_with fail
  go_ret
  exact ⟨rfl, H.out.set 4 (.bool false), (Chg.refl _ w).setCell ⟨wb, 4, none⟩ _ (fun _ => rfl)⟩

/-- what an append to a wal leaves -/
def WAppPost (w : World) (wb d : Nat) (F : Nat → Prop) (i : Nat) (a s : Int) (D : DiskS) (bs : List UInt8) (w' : World) : Prop :=
  Blk w' wb #[.int .i64 (wrap64 (a + 1)), .int .i64 s, .pointer (some ⟨d, 0, none⟩), .int .i64 i, .bool false] 97 ∧
    ∃ F', DiskAt w' d F' (D.put i (sealF bs)) ∧ Upd w (fun j => F j ∨ j = wb) w' (fun j => F' j ∨ j = wb) ∧ (∀ j, F' j → F j ∨ w.heap.size ≤ j)

set_option maxRecDepth 100000 in
set_option maxHeartbeats 1000000 in
theorem wAppend (w : World) (wb d : Nat) (F : Nat → Prop) (i : Nat) (a s : Int) (D : DiskS) (l : List UInt8 × Nat) (x : Value) (bs : List UInt8)
    (hw : Blk w wb #[.int .i64 a, .int .i64 s, .pointer (some ⟨d, 0, none⟩), .int .i64 i, .bool false] 97) (hD : DiskAt w d F D) (hwF : ¬ F wb)
    (hl : D.logs[i]? = some l) (hd : D.down = false) (ha : D.armed = 0) (hx : Row w 5 1 x bs.length (bvs bs)) (hb : bs.length ≤ 65536) (hlen : l.1.length + bs.length + 8 ≤ 4194304) :
    Calls Try.prog 41 #[.pointer (some ⟨wb, 0, none⟩), x] w fun e w' => e = .returned (.int .i64 0) ∧ WAppPost w wb d F i a s D bs w' := by
  obtain ⟨xa, xc, rfl, -, -, -⟩ := hx.cells
  obtain ⟨c0, c1, c2, c3, c4, hf⟩ := hw.c5
  have Hw := hid hw
  have HD := hid hD
  have Hx := hid hx
  have Hl := hid hl
  have Hd := hid hd
  have Ha := hid ha
  clear hw hD hx hl hd ha c0 c1
  go_enter Try.func41, Try.ntmps41
  go_wp2_with fail
  refine (seal_ok _ bs w Hx.out hb).mono ?_
  rintro e w1 ⟨a1, k1, rfl, hr1, hch1, hf1⟩
  have hF := HD.out.fin
  have hwlt := Hw.out.lt
  have e2 := hch1.cellN c2
  have e3 := hch1.cellN c3
  have hsl := sealF_length bs
  have hA := dAppend w1.drew d F D ((HD.out.kept hch1 (fun _ _ h => h)).kept ((Chg.refl No w1).drew) (fun _ _ h => h)) i l Hl.out Hd.out Ha.out (.slice a1 (8 + bs.length) k1) (sealF bs) (by rw [hsl]; exact hr1.drew)
    (fun j hj h => by have := hf1 j hj; have := hF j h; omega) (by omega)
  have HA := hid hA
  have Hw1 := hid (Hw.out.kept hch1 id)
  clear hA hsl c2 c3 c4 hf
  go_wp2_with fail
  go_region_with (first
    | (go_at_call 55; refine HA.out.mono ?_; rintro e w2 ⟨rfl, F', hD', hU⟩; have hB2 := hid (Hw1.out.drew.kept hU.chg hwF); have HD' := hid hD'; clear hD')
    | (go_at_call 30; refine (met_ok wb 0 a s i _ _ hB2.out (by omega)).mono ?_; rintro e w3 ⟨rfl, hB3, hch3⟩; have HB3 := hid hB3; have z0 := hB3.c5.1; have z1 := hB3.free; clear hB3))
  all_goals go_wp2_with fail
  all_goals go_ret
  all_goals
    have hFl : ∀ j, F' j → F j ∨ w.heap.size ≤ j := fun j hj => (hU.foot j hj).imp id (fun h => Nat.le_trans hch1.size h)
    have hwF' : ¬ F' wb := fun h => by rcases hFl wb h with h | h; exact hwF h; omega
    refine ⟨rfl, HB3.out.set 0 _, F', ?_, ⟨?_, ?_⟩, hFl⟩
    · exact (HD'.out.kept hch3 (fun j hj e => hwF' (e ▸ hj))).kept ((Chg.refl (One wb) _).setCell ⟨wb, 0, none⟩ _ (fun _ => rfl)) (fun j hj e => hwF' (e ▸ hj))
    · refine Chg.setCell ?_ ⟨wb, 0, none⟩ _ (fun _ => .inr rfl)
      refine Chg.trans (T := One wb) ?_ hch3 (fun j _ h => .inr h)
      exact (hch1.mono (fun _ _ h => h.elim)).trans hU.chg.ofDrew (fun j _ h => .inl h)
    · intro j hj
      rcases hj with hj | hj
      · exact (hFl j hj).imp .inl id
      · exact .inl (.inr hj)

/-- what a Sync of a wal leaves -/
def WSyncPost (w : World) (wb d : Nat) (F : Nat → Prop) (i : Nat) (a : Int) (D : DiskS) (w' : World) : Prop :=
  Blk w' wb #[.int .i64 a, .int .i64 a, .pointer (some ⟨d, 0, none⟩), .int .i64 i, .bool false] 97 ∧
    ∃ F', DiskAt w' d F' (D.synced i) ∧ Upd w (fun j => F j ∨ j = wb) w' (fun j => F' j ∨ j = wb) ∧ (∀ j, F' j → F j ∨ w.heap.size ≤ j)

set_option maxRecDepth 100000 in
set_option maxHeartbeats 1000000 in
theorem wSync (w : World) (wb d : Nat) (F : Nat → Prop) (i : Nat) (a s : Int) (D : DiskS) (l : List UInt8 × Nat)
    (hw : Blk w wb #[.int .i64 a, .int .i64 s, .pointer (some ⟨d, 0, none⟩), .int .i64 i, .bool false] 97) (hD : DiskAt w d F D) (hwF : ¬ F wb)
    (hl : D.logs[i]? = some l) (hd : D.down = false) (ha : D.armed = 0) :
    Calls Try.prog 18 #[.pointer (some ⟨wb, 0, none⟩)] w fun e w' => e = .returned (.int .i64 0) ∧ WSyncPost w wb d F i a D w' := by
  obtain ⟨c0, c1, c2, c3, c4, hf⟩ := hw.c5
  have Hw := hid hw
  have hwlt := hw.lt
  have hA := dSync w.drew d F D (hD.kept ((Chg.refl No w).drew) (fun _ _ h => h)) i l hl hd ha
  have HA := hid hA
  clear hA hw hD hl hd ha c0 c1
  go_enter Try.func18, Try.ntmps18
  go_wp2_with fail
  go_region_with (first
    | (go_at_call 31; refine HA.out.mono ?_; rintro e w2 ⟨rfl, F', hD', hU⟩; have hB2 := hid (Hw.out.drew.kept hU.chg hwF); have HD' := hid hD'; clear hD')
    | (go_at_call 30; refine (met_ok wb 0 a s i _ _ hB2.out (by omega)).mono ?_; rintro e w3 ⟨rfl, hB3, hch3⟩; have HB3 := hid hB3; have z0 := hB3.c5.1; have z1 := hB3.c5.2.1; have z2 := hB3.free; clear hB3))
  all_goals go_wp2_with fail
  all_goals go_ret
  all_goals
    have hFl : ∀ j, F' j → F j ∨ w.heap.size ≤ j := fun j hj => hU.foot j hj
    have hwF' : ¬ F' wb := fun h => by rcases hFl wb h with h | h; exact hwF h; omega
    refine ⟨rfl, HB3.out.set 1 _, F', ?_, ⟨?_, ?_⟩, hFl⟩
    · exact (HD'.out.kept hch3 (fun j hj e => hwF' (e ▸ hj))).kept ((Chg.refl (One wb) _).setCell ⟨wb, 1, none⟩ _ (fun _ => rfl)) (fun j hj e => hwF' (e ▸ hj))
    · refine Chg.setCell ?_ ⟨wb, 1, none⟩ _ (fun _ => .inr rfl)
      refine Chg.trans (T := One wb) ?_ hch3 (fun j _ h => .inr h)
      exact hU.chg.ofDrew.mono (fun j _ h => .inl h)
    · intro j hj
      rcases hj with hj | hj
      · exact (hFl j hj).imp .inl id
      · exact .inl (.inr hj)

/-- the disk behind an Open of a log -/
def DiskS.opened (D : DiskS) (i : Nat) : DiskS :=
  match D.logs[i]? with
  | some l => if (scanF (l.1.length + 1) l.1).2 < l.1.length then D.swapped i (l.1.take (scanF (l.1.length + 1) l.1).2) else if l.2 < (scanF (l.1.length + 1) l.1).2 then D.synced i else D
  | none => D
def DiskS.loads (D : DiskS) (i : Nat) : List (List UInt8) :=
  match D.logs[i]? with
  | some l => (scanF (l.1.length + 1) l.1).1
  | none => []

/-- what an Open of a wal leaves -/
def WOpenPost (w : World) (d : Nat) (F : Nat → Prop) (i : Nat) (D : DiskS) (e : Ending) (w' : World) : Prop :=
  ∃ wb v F', e = .returned (.tuple #[.pointer (some ⟨wb, 0, none⟩), v, .int .i64 0]) ∧
    Blk w' wb #[.int .i64 (D.loads i).length, .int .i64 (D.loads i).length, .pointer (some ⟨d, 0, none⟩), .int .i64 i, .bool false] 97 ∧
    LoadsRow w w' v (D.loads i) ∧ DiskAt w' d F' (D.opened i) ∧ Upd w F w' F' ∧ w.heap.size ≤ wb ∧ ¬ F' wb ∧ (∀ j, v.ownBlock = some j → j ≠ wb ∧ ¬ F' j)

theorem scanF_le : ∀ (k : Nat) (b : List UInt8), (scanF k b).2 ≤ b.length
  | 0, _ => by simp [scanF]
  | k + 1, b => by
    unfold scanF
    cases h : openF b with
    | error e => simp
    | ok l =>
      have := openF_len h
      have h2 := scanF_le k (b.drop (8 + l.length))
      rw [List.length_drop] at h2
      simp only
      omega

theorem LoadsRow.kept {w0 w w' : World} {S : Nat → Prop} {v : Value} {ls : List (List UInt8)} (h : LoadsRow w0 w v ls) (c : Chg S w w') (hs : ∀ j, S j → j < w0.heap.size) : LoadsRow w0 w' v ls := by
  obtain ⟨vs, h1, h2, h3, h4⟩ := h
  refine ⟨vs, h1.kept c (fun j hj hS => by have := hs j hS; have := h3 j hj; omega), h2.kept c (fun u hu j hj hS => ?_), h3, h4⟩
  obtain ⟨i, hi⟩ := List.getElem?_of_mem hu
  have hlt := (List.getElem?_eq_some_iff.1 hi).1
  obtain ⟨_, _, _, h5⟩ := h2.at_ i u _ hi (List.getElem?_eq_getElem (by rw [← h2.len]; exact hlt))
  have := hs j hS; have := h5 j hj; omega

theorem wopen_fin {w w2 w3 : World} {d i vn vc : Nat} {va : Option Addr} {F F' : Nat → Prop} {D D3 : DiskS} {ls : List (List UInt8)} (hch : Chg No w w2) (hL : LoadsRow w w2 (.slice va vn vc) ls) (hP : DiskAt w3 d F' D3) (hU : Upd w2 F w3 F')
    (hop : D.opened i = D3) (hlo : D.loads i = ls) (hF : ∀ j, F j → j < w.heap.size) (hvn : vn = ls.length) :
    WOpenPost w d F i D (.returned (.tuple #[.pointer (some ⟨w3.heap.size, 0, none⟩), .slice va vn vc, .int .i64 0])) (w3.alloc (.cells #[.int .i64 vn, .int .i64 vn, .pointer (some ⟨d, 0, none⟩), .int .i64 i, .bool false] 97)) := by
  have hL3 := hL.kept hU.chg hF
  have hlt3 : ∀ j, Value.ownBlock (.slice va vn vc) = some j → j < w3.heap.size := fun j hj => let ⟨_, h1, _⟩ := hL3; h1.lt hj
  have hF' : ∀ j, F' j → F j ∨ w.heap.size ≤ j := fun j hj => (hU.foot j hj).imp id (fun h => Nat.le_trans hch.size h)
  have hF'w : ∀ j, F' j → j < w3.heap.size := hP.fin
  refine ⟨w3.heap.size, _, F', rfl, ?_, ?_, ?_, ⟨?_, hF'⟩, Nat.le_trans hch.size hU.chg.size, fun h => by have := hF'w _ h; omega, fun j hj => ⟨fun e => by have := hlt3 j hj; omega, fun h => ?_⟩⟩
  · rw [hlo, ← hvn]; exact Blk.new w3 _ _
  · rw [hlo]; exact hL3.kept ((Chg.refl No w3).alloc _) (fun _ h => h.elim)
  · rw [hop]; exact hP.kept ((Chg.refl No w3).alloc _) (fun _ _ h => h)
  · exact ((hch.mono (fun _ _ h => h.elim)).trans hU.chg (fun _ _ h => h)).alloc _
  · rcases hU.foot j h with h | h
    · have h1 := hF j h
      have h2 : w.heap.size ≤ j := let ⟨_, _, _, h3, _⟩ := hL; h3 j hj
      omega
    · have : j < w2.heap.size := let ⟨_, h1, _⟩ := hL; h1.lt hj
      omega

set_option maxRecDepth 100000 in
set_option maxHeartbeats 1000000 in
theorem wOpen (w : World) (d : Nat) (F : Nat → Prop) (i : Nat) (D : DiskS) (l : List UInt8 × Nat) (hD : DiskAt w d F D)
    (hl : D.logs[i]? = some l) (hd : D.down = false) (ha : D.armed = 0) (hlen : l.1.length ≤ 4194304) :
    Calls Try.prog 24 #[.pointer (some ⟨d, 0, none⟩), .int .i64 i] w (WOpenPost w d F i D) := by
  have hsc := scanF_le (l.1.length + 1) l.1
  have hopen : D.opened i = if (scanF (l.1.length + 1) l.1).2 < l.1.length then D.swapped i (l.1.take (scanF (l.1.length + 1) l.1).2) else if l.2 < (scanF (l.1.length + 1) l.1).2 then D.synced i else D := by
    unfold DiskS.opened; rw [hl]
  have hloads : D.loads i = (scanF (l.1.length + 1) l.1).1 := by unfold DiskS.loads; rw [hl]
  generalize hR : scanF (l.1.length + 1) l.1 = R at hsc hopen hloads
  obtain ⟨ls, n⟩ := R
  simp only at hsc hopen hloads
  have HR := hid hR
  have Hopen := hid hopen
  have Hloads := hid hloads
  have hF := hD.fin
  have hread := hid (dRead w d F D hD i l hl hd hlen)
  have HD := hid hD
  have Hl := hid hl
  have Hd := hid hd
  have Ha := hid ha
  clear hR hopen hloads hD hl hd ha
  go_enter Try.func24, Try.ntmps24
  go_wp2_with fail
  refine hread.out.mono ?_
  rintro e w1 ⟨g, rfl, hr1, hch1, hg⟩
  have Hr1 := hid hr1
  clear hr1
  go_wp2_with fail
  refine (scan_ok g l.1.length l.1 w1 Hr1.out hlen).mono ?_
  rintro e w2 ⟨v, rfl, hch2, hL⟩
  rw [HR.out] at hL ⊢
  obtain ⟨vs, hvr, hvl, hvf, hvd⟩ := hL
  obtain ⟨va, vc, rfl, -, -, -⟩ := hvr.cells
  have hch := hch1.same hch2
  have hvn := hvl.len
  have HL : Hid (LoadsRow w w2 (.slice va vs.length vc) ls) := hid ⟨vs, hvr, ⟨hvn, fun i v l hv hl => let ⟨a, h1, h2, h3⟩ := hvl.at_ i v l hv hl; ⟨a, h1, h2, fun j hj => Nat.le_trans hch1.size (h3 j hj)⟩⟩, fun j hj => Nat.le_trans hch1.size (hvf j hj), hvd⟩
  have Hvn := hid hvn
  have hr2 := hid (Hr1.out.kept hch2 (fun _ _ h => h))
  have HD2 := hid (HD.out.kept hch (fun _ _ h => h))
  clear hvr hvl hvf hvd hvn
  simp only
  by_cases hlt : n < l.1.length
  · have hx := hr2.out.cut (k := n) (by omega)
    have ht : (l.1.take n).length = n := by rw [List.length_take]; omega
    have hg2 : g < w2.heap.size := hr2.out.lt rfl
    have hS := dSwap w2 d F D HD2.out i l Hl.out Hd.out Ha.out (.slice (some ⟨g, 0, none⟩) n n) (l.1.take n) (by rw [ht]; exact hx) (fun j hj h => by rw [ownBlock_slice] at hj; cases hj; have := hF _ h; omega) (by omega)
    have HS := hid hS
    have hop := Hopen.out
    rw [if_pos hlt] at hop
    have Hop := hid hop
    clear hx ht hS hop hr2
    go_wp2_with (go_at_call 36; refine HS.out.mono ?_; rintro e w3 ⟨rfl, F', hP, hU⟩)
    go_ret3
    exact wopen_fin hch HL.out hP hU Hop.out Hloads.out hF Hvn.out
  · have hS := dSure w2 d F D HD2.out i l Hl.out
    have HS := hid hS
    by_cases hsu : l.2 < n
    · have hY := dSync w2 d F D HD2.out i l Hl.out Hd.out Ha.out
      have HY := hid hY
      have hop := Hopen.out
      rw [if_neg hlt, if_pos hsu] at hop
      have Hop := hid hop
      clear hop hY hS
      go_wp2_with (first
        | (go_at_call 37; refine HS.out.mono ?_; rintro e w3 ⟨rfl, rfl⟩)
        | (go_at_call 31; refine HY.out.mono ?_; rintro e w3 ⟨rfl, F', hP, hU⟩))
      go_ret3
      exact wopen_fin hch HL.out hP hU Hop.out Hloads.out hF Hvn.out
    · have hop := Hopen.out
      rw [if_neg hlt, if_neg hsu] at hop
      have Hop := hid hop
      clear hop hS
      go_wp2_with (first
        | (go_at_call 37; refine HS.out.mono ?_; rintro e w3 ⟨rfl, rfl⟩))
      go_ret3
      exact wopen_fin hch HL.out HD2.out (Upd.refl _ _) Hop.out Hloads.out hF Hvn.out
end Go.Proofs.Ytfmcfcjcmmlmfaa

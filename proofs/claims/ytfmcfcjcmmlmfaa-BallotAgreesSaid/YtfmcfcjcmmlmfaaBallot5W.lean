/- Walks over ballot: Open of an empty log, Sync. -/
import Derived.Test.YtfmcfcjcmmlmfaaBallot4W
namespace Go.Proofs.Ytfmcfcjcmmlmfaa
open Go Go.RowKit Go.Maps
set_option linter.unusedVariables false

/-- what an Open leaves -/
def AOpenPost (w : World) (d i : Nat) (F : Nat → Prop) (A : AccS) (e : Ending) (w' : World) : Prop :=
  ∃ ab wb mb F', e = .returned (.tuple #[.pointer (some ⟨ab, 0, none⟩), .int .i64 0]) ∧ AccAt w' ab wb mb d i F' A ∧ Upd w F w' (accF F' ab wb mb)
def AccS.fresh (D : DiskS) (i : Nat) : AccS := ⟨0, [], 0, 0, D.opened i⟩

theorem opened_len (D : DiskS) (i : Nat) : (D.opened i).logs.length = D.logs.length := by
  unfold DiskS.opened
  split
  · split
    · simp [DiskS.swapped]
    · split
      · unfold DiskS.synced; split <;> simp
      · rfl
  · rfl
theorem opened_up (D : DiskS) (i : Nat) : (D.opened i).down = D.down ∧ (D.opened i).armed = D.armed := by
  unfold DiskS.opened
  split
  · split
    · simp [DiskS.swapped]
    · split
      · unfold DiskS.synced; split <;> simp
      · exact ⟨rfl, rfl⟩
  · exact ⟨rfl, rfl⟩

set_option maxHeartbeats 1000000 in
theorem open0_ok (w : World) (d : Nat) (F : Nat → Prop) (i : Nat) (D : DiskS) (l : List UInt8 × Nat) (hD : DiskAt w d F D)
    (hl : D.logs[i]? = some l) (hd : D.down = false) (ha : D.armed = 0) (hlen : l.1.length ≤ 4194304) (hlo : D.loads i = []) :
    Calls Try.prog 12 #[.pointer (some ⟨d, 0, none⟩), .int .i64 i] w (AOpenPost w d i F (AccS.fresh D i)) := by
  have Ho := hid (wOpen w d F i D l hD hl hd ha hlen)
  have Hlo := hid hlo
  have hil : i < D.logs.length := (List.getElem?_eq_some_iff.1 hl).1
  have Hil := hid hil
  have Hd := hid hd
  have Ha := hid ha
  clear hD hl hd ha hlen hlo hil
  have hmm := @run_makeMap Try.prog
  go_enter Try.func12, Try.ntmps12
  go_wp2_with fail
  refine Ho.out.mono ?_
  rintro e w1 ⟨wb, v, F', rfl, hB, hL, hDk, hU, hwb, hnF, -⟩
  rw [Hlo.out] at hL hB
  obtain ⟨vs, hr, hls, -, -⟩ := hL
  have h0 : vs = [] := List.eq_nil_of_length_eq_zero hls.len
  subst h0
  obtain ⟨va, vc, rfl, -, -, -⟩ := hr.cells
  have HB := hid hB
  have HDk := hid hDk
  have HU := hid hU
  have HnF := hid hnF
  clear hr hls hB hDk hU hnF
  go_wp2_with fail
  have hc1 : Chg No w1 (w1.alloc (.map #[] 0)) := (Chg.refl _ _).alloc _
  have hM : VMap (w1.alloc (.map #[] 0)) w1.heap.size [] := IMap.made w1
  have hc2 : Chg No (w1.alloc (.map #[] 0)) ((w1.alloc (.map #[] 0)).alloc (.cells #[.pointer (some ⟨wb, 0, none⟩), .int .i64 0, .map (some w1.heap.size)] 53)) := (Chg.refl _ _).alloc _
  have hH : Blk ((w1.alloc (.map #[] 0)).alloc (.cells #[.pointer (some ⟨wb, 0, none⟩), .int .i64 0, .map (some w1.heap.size)] 53)) (w1.heap.size + 1) #[.pointer (some ⟨wb, 0, none⟩), .int .i64 0, .map (some w1.heap.size)] 53 := by
    have := Blk.new (w1.alloc (.map #[] 0)) #[.pointer (some ⟨wb, 0, none⟩), .int .i64 0, .map (some w1.heap.size)] 53
    simpa using this
  have hc := hc1.same hc2
  have hwlt := HB.out.lt
  have hlt := HDk.out.fin
  have hA : AccAt ((w1.alloc (.map #[] 0)).alloc (.cells #[.pointer (some ⟨wb, 0, none⟩), .int .i64 0, .map (some w1.heap.size)] 53)) (w1.heap.size + 1) wb w1.heap.size d i F' (AccS.fresh D i) :=
    ⟨⟨hH, IMap.kept hM hc2 id, HB.out.kept hc id, by omega, by omega, by omega⟩, HDk.out.kept hc (fun _ _ h => h), fun h => by have := hlt _ h; omega, HnF.out, fun h => by have := hlt _ h; omega,
      by show i < (D.opened i).logs.length; rw [opened_len]; exact Hil.out, by show (D.opened i).down = false; rw [(opened_up _ _).1]; exact Hd.out, by show (D.opened i).armed = 0; rw [(opened_up _ _).2]; exact Ha.out, by show (0 : Nat) ≤ _; omega, fun x hx => by cases hx⟩
  have hU2 : Upd w F ((w1.alloc (.map #[] 0)).alloc (.cells #[.pointer (some ⟨wb, 0, none⟩), .int .i64 0, .map (some w1.heap.size)] 53)) (accF F' (w1.heap.size + 1) wb w1.heap.size) := by
    refine ⟨HU.out.chg.same (hc.mono (fun _ _ h => h.elim)), ?_⟩
    have hs := HU.out.chg.size
    rintro j (hj | rfl | rfl | rfl)
    · exact HU.out.foot j hj
    · exact .inr (by omega)
    · exact .inr hwb
    · exact .inr hs
  have HA := hid hA
  have HU2 := hid hU2
  clear hA hU2 hc hwlt hlt hH hc1 hc2 hM
  generalize ((w1.alloc (.map #[] 0)).alloc (.cells #[.pointer (some ⟨wb, 0, none⟩), .int .i64 0, .map (some w1.heap.size)] 53)) = W at *
  go_loopw [28] (fun v wr => v = .int .i64 0 ∧ wr = W) (fun _ _ => 0)
  case atStart => exact ⟨rfl, rfl⟩
  case round =>
    obtain ⟨rfl, rfl⟩ := hrel
    go_wp2_with fail
    go_ret2
    exact ⟨_, _, _, _, rfl, HA.out, HU2.out⟩
end Go.Proofs.Ytfmcfcjcmmlmfaa

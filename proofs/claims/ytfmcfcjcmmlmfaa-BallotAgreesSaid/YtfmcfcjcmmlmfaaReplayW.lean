/- Walks over ballot's replay of records that were laid. -/
import Derived.Test.YtfmcfcjcmmlmfaaUnpackW
import Derived.Test.YtfmcfcjcmmlmfaaBallot5W
namespace Go.Proofs.Ytfmcfcjcmmlmfaa
open Go Go.RowKit Go.Maps
set_option linter.unusedVariables false

/-- the cells of a row, where it is not empty -/
theorem Row.at_ {w : World} {e : TypeId} {size n : Nat} {v : Value} {xs : List Value} (h : Row w e size v n xs) (hn : 0 < xs.length) : ∃ g off c, v = .slice (some ⟨g, off, none⟩) n c ∧ n ≤ c ∧ ∀ j u, xs[j]? = some u → w.cell? ⟨g, off + j, none⟩ = some u := by
  obtain ⟨a, c, rfl, h1, -, h2⟩ := Row.cells h
  obtain ⟨g, off, rfl, -⟩ := h2 0 _ (List.getElem?_eq_getElem hn)
  refine ⟨g, off, c, rfl, h1, fun j u hu => ?_⟩
  obtain ⟨_, _, e1, hc⟩ := h2 j u hu
  cases e1
  exact hc

set_option maxRecDepth 100000 in
set_option maxHeartbeats 2000000 in
theorem replay_p (w : World) (ab wb mb d i : Nat) (prom a s : Int) (m : List VT) (b : Int) (h : AccOn w ab wb mb d i prom m a s) (hb : 1 ≤ b ∧ b ≤ 1099511627776) (la : Option Addr) (bs : List UInt8) (hbs : bs = packB (recP b)) (hB : Byt w la bs) :
    Calls Try.prog 25 #[.pointer (some ⟨ab, 0, none⟩), .slice la bs.length bs.length] w fun e w' => e = .returned (.bool true) ∧ AccOn w' ab wb mb d i (max prom b) m a s ∧ Chg (fun j => j = ab ∨ j = mb) w w' := by
  have hlen := packB_len (recP b) (recP_ok b hb)
  have h2 : (recP b).length = 2 := rfl
  rw [h2, ← hbs] at hlen
  have hU := hid (unpack_ok la bs.length bs (recP b) (recP_ok b hb) (by rw [h2]; omega) hbs w hB (Nat.le_refl _) (by omega))
  have hnum := fun W => hid (number_ok b W)
  have hdn : decide (1 ≤ b ∧ b ≤ 1099511627776) = true := by simpa using hb
  rw [hdn] at hnum
  have H := hid h
  clear h hbs hB hlen hdn
  go_enter Try.func25, Try.ntmps25
  go_wp2_with fail
  refine hU.out.mono ?_
  rintro e w1 ⟨v, rfl, hr, hch, hf⟩
  rw [h2] at hr
  obtain ⟨g, off, vc, rfl, -, hc⟩ := hr.at_ (by show 0 < 10; omega)
  have c0 : w1.cell? ⟨g, off, none⟩ = some (.int .i64 1) := hc 0 (.int .i64 1) rfl
  have c1 : w1.cell? ⟨g, off + 1, none⟩ = some (.int .u64 1) := hc 1 (.int .u64 1) rfl
  have c5 : w1.cell? ⟨g, off + 5, none⟩ = some (.int .i64 2) := hc 5 (.int .i64 2) rfl
  have c7 : w1.cell? ⟨g, off + 7, none⟩ = some (.int .i64 b) := hc 7 (.int .i64 b) rfl
  have hA := H.out.kept hch id id id
  have hg : w.heap.size ≤ g := hf g rfl
  have h1 := H.out.head.lt
  have h3 := IMap.lt H.out.map
  have HA := hid hA
  have Hch := hid hch
  have hga : ab ≠ g := by omega
  have Hn := hnum w1
  clear hr hch hf hc hA hU h2 hnum
  go_wp2_with fail
  refine Hn.out.mono ?_
  rintro e w2 ⟨rfl, rfl⟩
  obtain ⟨a0, a1, a2, af⟩ := HA.out.head.c3
  go_wp2_with fail
  go_region
  all_goals go_wp2_with fail
  all_goals go_ret
  all_goals
    have hset : Chg (One ab) w2 (w2.setCell ⟨ab, 1, none⟩ (.int .i64 (max prom b))).drew := (Chg.drew (.refl _ w2)).setCell _ _ (fun _ => rfl)
    have hH2 : Blk (w2.setCell ⟨ab, 1, none⟩ (.int .i64 (max prom b))).drew ab #[.pointer (some ⟨wb, 0, none⟩), .int .i64 (max prom b), .map (some mb)] 53 := by
      have := HA.out.head.set 1 (.int .i64 (max prom b))
      simp only [List.setIfInBounds_toArray, List.set_cons_succ, List.set_cons_zero] at this
      exact this
    exact ⟨rfl, ⟨hH2, IMap.kept HA.out.map hset (fun e => HA.out.n2 e.symm), HA.out.wal.kept hset (fun e => HA.out.n1 e.symm), HA.out.n1, HA.out.n2, HA.out.n3⟩,
      (Hch.out.mono (fun _ _ h => h.elim)).trans hset (fun j _ h => .inl h)⟩

theorem lt_of_blk {w : World} {b o : Nat} {u : Value} (h : w.cell? ⟨b, o, none⟩ = some u) : b < w.heap.size := World.block_lt_of_cell? w _ h

set_option maxRecDepth 100000 in
set_option maxHeartbeats 2000000 in
theorem replay_a (w : World) (ab wb mb d i : Nat) (prom a s : Int) (m : List VT) (x : VT) (h : AccOn w ab wb mb d i prom m a s) (hm : m.length ≤ 1000000) (hb : 1 ≤ x.b ∧ x.b ≤ 1099511627776) (hs : 1 ≤ x.slot ∧ x.slot ≤ 1000) (hv : x.s.size ≤ 1000)
    (la : Option Addr) (bs : List UInt8) (hbs : bs = packB (recA x)) (hB : Byt w la bs) :
    Calls Try.prog 25 #[.pointer (some ⟨ab, 0, none⟩), .slice la bs.length bs.length] w fun e w' => e = .returned (.bool true) ∧ AccOn w' ab wb mb d i (max prom x.b) (putK VT.slot x m) a s ∧ Chg (fun j => j = ab ∨ j = mb) w w' := by
  have hlen := packB_len (recA x) (recA_ok x hb hs hv)
  have h2 : (recA x).length = 4 := rfl
  rw [h2, ← hbs] at hlen
  have hU := hid (unpack_ok la bs.length bs (recA x) (recA_ok x hb hs hv) (by rw [h2]; omega) hbs w hB (Nat.le_refl _) (by omega))
  have hnum := fun W => hid (number_ok x.b W)
  have hdn : decide (1 ≤ x.b ∧ x.b ≤ 1099511627776) = true := by simpa using hb
  rw [hdn] at hnum
  have hslot := fun W => hid (slot_ok x.slot W)
  have hds : decide (1 ≤ x.slot ∧ x.slot ≤ 1000) = true := by simpa using hs
  rw [hds] at hslot
  have H := hid h
  have Hm := hid hm
  have Hxs : Hid (i64r x.slot) := hid ⟨by omega, by omega⟩
  have hsw : wrap64 x.slot = x.slot := by unfold wrap64; omega
  clear h hbs hB hlen hdn hds hm
  obtain ⟨xs, xb, xv⟩ := x
  go_enter Try.func25, Try.ntmps25
  go_wp2_with fail
  refine hU.out.mono ?_
  rintro e w1 ⟨v, rfl, hr, hch, hf⟩
  rw [h2] at hr
  obtain ⟨g, off, vc, rfl, -, hc⟩ := hr.at_ (by show 0 < 20; omega)
  have c0 : w1.cell? ⟨g, off, none⟩ = some (.int .i64 1) := hc 0 (.int .i64 1) rfl
  have c1 : w1.cell? ⟨g, off + 1, none⟩ = some (.int .u64 2) := hc 1 (.int .u64 2) rfl
  have c5 : w1.cell? ⟨g, off + 5, none⟩ = some (.int .i64 2) := hc 5 (.int .i64 2) rfl
  have c7 : w1.cell? ⟨g, off + 7, none⟩ = some (.int .i64 xb) := hc 7 (.int .i64 xb) rfl
  have c10 : w1.cell? ⟨g, off + 10, none⟩ = some (.int .i64 2) := hc 10 (.int .i64 2) rfl
  have c12 : w1.cell? ⟨g, off + 12, none⟩ = some (.int .i64 xs) := hc 12 (.int .i64 xs) rfl
  have c15 : w1.cell? ⟨g, off + 15, none⟩ = some (.int .i64 4) := hc 15 (.int .i64 4) rfl
  have c19 : w1.cell? ⟨g, off + 19, none⟩ = some (.string xv) := hc 19 (.string xv) rfl
  have hA := H.out.kept hch id id id
  have hg : w.heap.size ≤ g := hf g rfl
  have h1 := H.out.head.lt
  have h3 := IMap.lt H.out.map
  have HA := hid hA
  have Hch := hid hch
  have hga : ab ≠ g := by omega
  have hgm : mb ≠ g := by omega
  have Hn := hnum w1
  have Hs := hslot w1
  try simp only at Hn
  try simp only at Hs
  try simp only at hsw
  have Hne : Hid (ab ≠ g ∧ mb ≠ g) := hid ⟨hga, hgm⟩
  clear hr hch hf hc hA hU h2 hnum hslot hs hb hv h1 h3 hg hga hgm
  go_wp2_with fail
  refine Hn.out.mono ?_
  rintro e w2 ⟨rfl, rfl⟩
  obtain ⟨a0, a1, a2, af⟩ := HA.out.head.c3
  go_wp2_with fail
  refine Hs.out.mono ?_
  rintro e w3 ⟨rfl, rfl⟩
  go_wp2_with fail
  have hS : ∀ W, Chg (fun j => j = ab ∨ j = mb) w3 W → W.cell? ⟨g, off + 12, none⟩ = some (.int .i64 xs) ∧ W.cell? ⟨g, off + 7, none⟩ = some (.int .i64 xb) ∧ W.cell? ⟨g, off + 19, none⟩ = some (.string xv) := by
    intro W hW
    have hn : ¬ (g = ab ∨ g = mb) := by have := Hne.out; omega
    exact ⟨(hW.cell (p := ⟨g, off + 12, none⟩) (lt_of_blk c12) hn).trans c12, (hW.cell (p := ⟨g, off + 7, none⟩) (lt_of_blk c7) hn).trans c7, (hW.cell (p := ⟨g, off + 19, none⟩) (lt_of_blk c19) hn).trans c19⟩
  have HS := hid hS
  have hV := vote_ok w3.drew ab wb mb d i prom a s m ⟨xs, xb, xv⟩ (HA.out.kept ((Chg.refl No w3).drew) id id id) Hm.out Hxs.out
  simp only [VT.val] at hV
  have HV := hid hV
  clear hS hV
  go_region_held3 (fun W => W.cell? ⟨g, off + 12, none⟩ = some (.int .i64 xs) ∧ W.cell? ⟨g, off + 7, none⟩ = some (.int .i64 xb) ∧ W.cell? ⟨g, off + 19, none⟩ = some (.string xv))
    (first
      | exact HS.out _ (Chg.refl _ _).drew
      | exact HS.out _ Hc4.out)
    (first
      | (go_at_call 29
         refine HV.out.mono ?_
         rintro e w4 ⟨rfl, hA4, hc4⟩
         have HA4 := hid hA4
         have Hc4 := hid hc4.ofDrew
         clear hA4 hc4)
      | fail)
  all_goals go_wp2_with fail
  all_goals go_ret
  all_goals exact ⟨rfl, HA4.out, (Hch.out.mono (fun _ _ h => h.elim)).trans Hc4.out (fun _ _ h => h)⟩
end Go.Proofs.Ytfmcfcjcmmlmfaa

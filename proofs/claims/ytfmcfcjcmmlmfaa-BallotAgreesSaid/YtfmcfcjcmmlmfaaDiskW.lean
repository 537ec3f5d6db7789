/- Walks over package disk, said of blocks. -/
import Derived.Test.YtfmcfcjcmmlmfaaTab
import Derived.Deep.RegionLaw
import Derived.BigRegion
namespace Go.Proofs.Ytfmcfcjcmmlmfaa
set_option maxRecDepth 100000
open Go Go.RowKit
set_option linter.unusedVariables false

theorem has_any (d : Nat) (i : Int) (w : World) (a : Option Addr) (len cap : Nat) (h : w.cell? ⟨d, 0, none⟩ = some (.slice a len cap)) :
    Calls Try.prog 47 #[.pointer (some ⟨d, 0, none⟩), .int .i64 i] w fun e w' => e = .returned (.bool (decide (0 ≤ i ∧ i < len))) ∧ w = w' := by
  go_enter Try.func47, Try.ntmps47
  by_cases h1 : 0 ≤ i <;> by_cases h2 : i < len
  all_goals
    go_wp2
    go_ret
    exact ⟨by simp [h1, h2], rfl⟩

set_option maxHeartbeats 400000 in
theorem act_ok (d lb n c i : Nat) (acts size : Int) (keep : Value) (g : Nat) (cp : Array Value) (R : World → Prop) (w : World)
    (hd : Blk w d #[.slice (some ⟨lb, 0, none⟩) n c, .int .i64 acts, .bool false, .int .i64 0, keep] 80)
    (hi : i < n) (hs : size ≤ 4194304) (hen : Enters Try.prog g)
    (hdo : Calls Try.prog g (#[.pointer (some ⟨lb, i * 2, none⟩)] ++ cp) (w.setCell ⟨d, 1, none⟩ (.int .i64 (wrap64 (acts + 1)))) fun e w2 => e = .returned (.tuple #[]) ∧ R w2) :
    Calls Try.prog 42 #[.pointer (some ⟨d, 0, none⟩), .int .i64 i, .int .i64 size, .func (.func g) #[] cp] w fun e w' => e = .returned (.int .i64 0) ∧ R w' := by
  obtain ⟨c0, c1, c2, c3, -, hf⟩ := hd.c5
  have hsz : ¬ (4194304 < size) := by omega
  clear hd
  have H := hid hdo
  have hrun := hen (#[.pointer (some ⟨lb, i * 2, none⟩)] ++ cp) (w.setCell ⟨d, 1, none⟩ (.int .i64 (wrap64 (acts + 1))))
  clear hdo
  go_enter Try.func42, Try.ntmps42
  go_wp2_with (first
    | (go_at_call 47; refine (has_any d i w _ _ _ c0).mono ?_; rintro e w' ⟨rfl, rfl⟩)
    | (refine H.out.mono ?_; rintro e w' ⟨rfl, hR⟩))
  go_ret
  exact ⟨rfl, hR⟩

set_option maxHeartbeats 400000 in
theorem append1 (lb o bx n m : Nat) (v x : Value) (xs news : List Value) (w : World)
    (hl : w.cell? ⟨lb, o, none⟩ = some v) (hf : w.frozen? ⟨lb, o, none⟩ = false) (hrow : Row w 5 1 v n xs) (hne : v.ownBlock ≠ some lb) (hlt : lb < w.heap.size)
    (hb : w.cell? ⟨bx, 0, none⟩ = some x) (hsrc : ∀ w', Chg No w w' → Src Try.prog 1 72 x m news w') (h63 : n + m ≤ 4294967296) :
    Calls Try.prog 69 #[.pointer (some ⟨lb, o, none⟩), .pointer (some ⟨bx, 0, none⟩)] w fun e w' => e = .returned (.tuple #[]) ∧
      ∃ w1 a' c', Row w1 5 1 (.slice a' (n + m) c') (n + m) (xs ++ news) ∧ Chg (fun k => v.ownBlock = some k) w w1 ∧
        (Value.ownBlock (.slice a' (n + m) c') = v.ownBlock ∨ (Value.ownBlock (.slice a' (n + m) c') = some w.heap.size ∧ w.heap.size < w1.heap.size)) ∧ w' = w1.setCell ⟨lb, o, none⟩ (.slice a' (n + m) c') := by
  obtain ⟨i0, hi, hz0, hz1, hz2⟩ := info_parts infoU8
  have hs := hsrc w.drew (Chg.refl _ w).drew
  have hkeep : ∀ w1, Chg (fun k => v.ownBlock = some k) w.drew w1 → w1.cell? ⟨lb, o, none⟩ = some v ∧ w1.frozen? ⟨lb, o, none⟩ = false := fun w1 hc =>
    ⟨(hc.cell (p := ⟨lb, o, none⟩) hlt hne).trans hl, (hc.frozen (p := ⟨lb, o, none⟩) hlt hne).trans hf⟩
  have Hk := hid hkeep
  clear hkeep
  go_enter Try.func69, Try.ntmps69
  go_region_law (refine step_append_Row rfl _ _ _ _ rfl 5 i0 (.int .u8 0) 1 1 uBytes hi hz0 hz1 hz2 rfl v n xs rfl hrow.drew x rfl m news hs (by unfold maxLen; omega) (by omega) ?_; intro a' c' w1 hrow1 hchg hwhere _; have hc1 := (Hk.out w1 hchg).1; have hf1 := (Hk.out w1 hchg).2)
  all_goals
    go_end0
    exact ⟨rfl, w1, a', c', hrow1, hchg.ofDrew, hwhere, rfl⟩

/-- What an append to a log leaves behind. -/
def AppPost (d lb i n c m k : Nat) (acts : Int) (keep v : Value) (xs news : List Value) (cur : Array Value) (w w' : World) : Prop :=
  ∃ a' c', Row w' 5 1 (.slice a' (k + m) c') (k + m) (xs ++ news) ∧ Chg (fun j => j = d ∨ j = lb ∨ v.ownBlock = some j) w w' ∧
        (Value.ownBlock (.slice a' (k + m) c') = v.ownBlock ∨ ∃ j, Value.ownBlock (.slice a' (k + m) c') = some j ∧ w.heap.size ≤ j) ∧
        Blk w' d #[.slice (some ⟨lb, 0, none⟩) n c, .int .i64 (wrap64 (acts + 1)), .bool false, .int .i64 0, keep] 80 ∧
        Blk w' lb (cur.setIfInBounds (i * 2) (.slice a' (k + m) c')) 102

set_option maxHeartbeats 400000 in
theorem append_ok (d lb i n c m k : Nat) (acts : Int) (keep v x : Value) (xs news : List Value) (cur : Array Value) (w : World)
    (hd : Blk w d #[.slice (some ⟨lb, 0, none⟩) n c, .int .i64 acts, .bool false, .int .i64 0, keep] 80)
    (hlb : Blk w lb cur 102) (hi : i < n) (hv : cur[i * 2]? = some v) (hrow : Row w 5 1 v k xs) (hne : v.ownBlock ≠ some lb ∧ v.ownBlock ≠ some d) (hdl : d ≠ lb)
    (hxl : ∃ a cp, x = .slice a m cp) (hsrc : ∀ w', Chg (fun j => j = d) w w' → Src Try.prog 1 72 x m news w') (h63 : k + m ≤ 4194304) :
    Calls Try.prog 55 #[.pointer (some ⟨d, 0, none⟩), .int .i64 i, x] w fun e w' => e = .returned (.int .i64 0) ∧ AppPost d lb i n c m k acts keep v xs news cur w w' := by
  obtain ⟨xa, xc, rfl⟩ := hxl
  obtain ⟨va, vc, rfl, -, -, -⟩ := hrow.cells
  have hact : Calls Try.prog 42 #[.pointer (some ⟨d, 0, none⟩), .int .i64 i, .int .i64 ((m : Int) + k), .func (.func 69) #[] #[.pointer (some ⟨w.heap.size, 0, none⟩)]]
      (w.alloc (.cells #[.slice xa m xc] 72)) fun e w' => e = .returned (.int .i64 0) ∧ AppPost d lb i n c m k acts keep (.slice va k vc) xs news cur w w' := by
    refine act_ok d lb n c i acts _ keep _ _ _ _ (hd.alloc _) hi (by omega) (enters_of Try.func69 (by kernel_rfl) rfl) ?_
    have hlt := hlb.lt
    have hdlt := hd.lt
    have hch : Chg (fun j => j = d) w ((w.alloc (.cells #[.slice xa m xc] 72)).setCell ⟨d, 1, none⟩ (.int .i64 (wrap64 (acts + 1)))) := ((Chg.refl _ w).alloc _).setCell _ _ (fun _ => rfl)
    have hbd := (hd.alloc (.cells #[.slice xa m xc] 72)).set 1 (.int .i64 (wrap64 (acts + 1)))
    have hbl := hlb.kept hch (fun e => hdl e.symm)
    have hbx := (Blk.new w #[.slice xa m xc] 72).setOther (p := ⟨d, 1, none⟩) (by simp; omega) (.int .i64 (wrap64 (acts + 1)))
    have hr := hrow.kept hch (fun j hj e => hne.2 (e ▸ hj))
    generalize hW : ((w.alloc (.cells #[.slice xa m xc] 72)).setCell ⟨d, 1, none⟩ (.int .i64 (wrap64 (acts + 1)))) = W at *
    refine (append1 lb (i * 2) w.heap.size k m _ _ xs news W (hbl.cell _ hv) (hbl.free _) hr hne.1 hbl.lt (hbx.cell 0 rfl) (fun w' hw' => hsrc w' (hch.trans hw' (fun _ _ h => h.elim))) (by omega)).mono ?_
    rintro e w' ⟨rfl, w1, a', c', h1, h2, h3, rfl⟩
    have hWs : W.heap.size = w.heap.size + 1 := by rw [← hW]; simp [World.setCell]
    have hnl : ∀ j, Value.ownBlock (.slice a' (k + m) c') = some j → lb ≠ j := by
      intro j hj e
      rcases h3 with h3 | ⟨h3, _⟩
      · exact hne.1 (h3 ▸ e ▸ hj)
      · rw [h3] at hj; cases hj; omega
    have hc1 : Chg (fun j => j = d ∨ j = lb ∨ Value.ownBlock (.slice va k vc) = some j) w w1 :=
      (hch.mono (fun _ _ h => .inl h)).trans h2 (fun _ _ h => .inr (.inr h))
    refine ⟨rfl, a', c', h1.kept ((Chg.refl (fun j => j = lb) w1).setCell ⟨lb, i * 2, none⟩ _ (fun _ => rfl)) (fun j hj e => hnl j hj e.symm), hc1.setCell _ _ (fun _ => .inr (.inl rfl)), ?_, ?_, ?_⟩
    · rcases h3 with h3 | ⟨h3, _⟩
      · exact .inl h3
      · exact .inr ⟨_, h3, by omega⟩
    · exact (hbd.kept h2 (fun e => hne.2 e)).setOther (by simpa using hdl) _
    · exact (hbl.kept h2 (fun e => hne.1 e)).set _ _
  obtain ⟨c0, c1, c2, c3, -, hf⟩ := hd.c5
  have hl := hlb.cell (i * 2) hv
  have hA : ∀ o, Blk (w.alloc o) d #[.slice (some ⟨lb, 0, none⟩) n c, .int .i64 acts, .bool false, .int .i64 0, keep] 80 := fun o => hd.alloc o
  have a0 : ∀ o, (w.alloc o).cell? ⟨d, 0, none⟩ = _ := fun o => (hA o).c5.1
  have al : ∀ o, (w.alloc o).cell? ⟨lb, i * 2, none⟩ = some (.slice va k vc) := fun o => (hlb.alloc o).cell _ hv
  clear hA
  have hm : ((k : Int) + m) ≤ 4194304 := by omega
  have H := hid hact
  clear hact
  go_enter Try.func55, Try.ntmps55
  go_wp2_with (first
    | (go_at_call 47; refine (has_any d i _ (some ⟨lb, 0, none⟩) n c (a0 _)).mono ?_; rintro e w' ⟨rfl, rfl⟩)
    | (go_at_call 42; refine H.out.mono ?_; rintro e w' ⟨rfl, hP⟩))
  go_ret
  exact ⟨rfl, hP⟩

theorem sync1 (lb o n cp : Nat) (a : Option Addr) (w : World) (h0 : w.cell? ⟨lb, o, none⟩ = some (.slice a n cp)) {u : Value} (h1 : w.cell? ⟨lb, o + 1, none⟩ = some u) (hf : ∀ j, w.frozen? ⟨lb, j, none⟩ = false) :
    Calls Try.prog 43 #[.pointer (some ⟨lb, o, none⟩)] w fun e w' => e = .returned (.tuple #[]) ∧ w' = w.setCell ⟨lb, o + 1, none⟩ (.int .i64 n) := by
  go_enter Try.func43, Try.ntmps43
  go_wp2
  go_end0
  exact ⟨rfl, rfl⟩

/-- What a Sync leaves behind. -/
def SyncPost (d lb i n c k : Nat) (acts : Int) (keep : Value) (cur : Array Value) (w w' : World) : Prop :=
  Chg (fun j => j = d ∨ j = lb) w w' ∧ Blk w' d #[.slice (some ⟨lb, 0, none⟩) n c, .int .i64 (wrap64 (acts + 1)), .bool false, .int .i64 0, keep] 80 ∧
    Blk w' lb (cur.setIfInBounds (i * 2 + 1) (.int .i64 k)) 102

theorem sync_ok (d lb i n c k cp : Nat) (acts : Int) (keep : Value) (a : Option Addr) (cur : Array Value) (w : World)
    (hd : Blk w d #[.slice (some ⟨lb, 0, none⟩) n c, .int .i64 acts, .bool false, .int .i64 0, keep] 80)
    (hlb : Blk w lb cur 102) (hi : i < n) (hv : cur[i * 2]? = some (.slice a k cp)) {u : Value} (hs : cur[i * 2 + 1]? = some u) (hdl : d ≠ lb) :
    Calls Try.prog 31 #[.pointer (some ⟨d, 0, none⟩), .int .i64 i] w fun e w' => e = .returned (.int .i64 0) ∧ SyncPost d lb i n c k acts keep cur w w' := by
  have hact : Calls Try.prog 42 #[.pointer (some ⟨d, 0, none⟩), .int .i64 i, .int .i64 0, .func (.func 43) #[] #[]] w
      fun e w' => e = .returned (.int .i64 0) ∧ SyncPost d lb i n c k acts keep cur w w' := by
    refine act_ok d lb n c i acts _ keep _ _ _ _ hd hi (by omega) (enters_of Try.func43 (by kernel_rfl) rfl) ?_
    have hch : Chg (fun j => j = d ∨ j = lb) w (w.setCell ⟨d, 1, none⟩ (.int .i64 (wrap64 (acts + 1)))) := (Chg.refl _ w).setCell _ _ (fun _ => .inl rfl)
    have hbl := hlb.setOther (p := ⟨d, 1, none⟩) (fun e => hdl e.symm) (.int .i64 (wrap64 (acts + 1)))
    have hbd := hd.set 1 (.int .i64 (wrap64 (acts + 1)))
    refine (sync1 lb (i * 2) k cp a _ (hbl.cell _ hv) (hbl.cell _ hs) hbl.free).mono ?_
    rintro e w' ⟨rfl, rfl⟩
    exact ⟨rfl, hch.setCell _ _ (fun _ => .inr rfl), hbd.setOther hdl _, hbl.set _ _⟩
  have H := hid hact
  clear hact
  go_enter Try.func31, Try.ntmps31
  go_wp2_with (go_at_call 42; refine H.out.mono ?_; rintro e w' ⟨rfl, hP⟩)
  go_ret
  exact ⟨rfl, hP⟩

theorem sure_ok (d lb i n c k : Nat) (keepsure : Int) (cs : Value) (cur : Array Value) (w : World) (h0 : w.cell? ⟨d, 0, none⟩ = some (.slice (some ⟨lb, 0, none⟩) n c))
    (hlb : Blk w lb cur 102) (hi : i < n) (hs : cur[i * 2 + 1]? = some (.int .i64 keepsure)) :
    Calls Try.prog 37 #[.pointer (some ⟨d, 0, none⟩), .int .i64 i] w fun e w' => e = .returned (.int .i64 keepsure) ∧ w = w' := by
  have hl := hlb.cell _ hs
  clear hs
  go_enter Try.func37, Try.ntmps37
  go_wp2_with (go_at_call 47; refine (has_any d i _ (some ⟨lb, 0, none⟩) n c h0).mono ?_; rintro e w' ⟨rfl, rfl⟩)
  go_ret
  exact ⟨rfl, rfl⟩

theorem up_ok (d : Nat) (w : World) {u : Value} (h : w.cell? ⟨d, 2, none⟩ = some u) (hf : w.frozen? ⟨d, 2, none⟩ = false) :
    Calls Try.prog 20 #[.pointer (some ⟨d, 0, none⟩)] w fun e w' => e = .returned (.tuple #[]) ∧ w' = w.setCell ⟨d, 2, none⟩ (.bool false) := by
  go_enter Try.func20, Try.ntmps20
  go_wp2
  go_end0
  exact ⟨rfl, rfl⟩

set_option maxRecDepth 100000 in
set_option maxHeartbeats 400000 in
theorem read_ok (d lb i n c k cp : Nat) (v : Value) (xs : List Value) (a : Option Addr) (cur : Array Value) (w : World)
    (h0 : w.cell? ⟨d, 0, none⟩ = some (.slice (some ⟨lb, 0, none⟩) n c)) (h2 : w.cell? ⟨d, 2, none⟩ = some (.bool false))
    (hlb : Blk w lb cur 102) (hi : i < n) (hv : cur[i * 2]? = some v) (hrow : Row w 5 1 v k xs) (h1 : ∀ u ∈ xs, u.oneCell' = true) (hk : k ≤ 4194304) :
    Calls Try.prog 34 #[.pointer (some ⟨d, 0, none⟩), .int .i64 i] w fun e w' =>
      ∃ g, e = .returned (.tuple #[.slice (some ⟨g, 0, none⟩) k k, .int .i64 0]) ∧ Row w' 5 1 (.slice (some ⟨g, 0, none⟩) k k) k xs ∧ Chg No w w' ∧ w.heap.size ≤ g := by
  obtain ⟨va, vc, rfl, -, -, -⟩ := hrow.cells
  have hl := hlb.cell _ hv
  clear hv
  obtain ⟨i0, hi0, hz0, hz1, hz2⟩ := info_parts infoU8
  have hdl := World.block_lt_of_cell? w _ h0
  go_enter Try.func34, Try.ntmps34
  go_wp2_with (first
    | (go_at_call 47; refine (has_any d i _ (some ⟨lb, 0, none⟩) n c h0).mono ?_; rintro e w' ⟨rfl, rfl⟩)
    | (at_make; refine wpList_makeN rfl _ _ _ rfl 5 i0 (.int .u8 0) 1 1 uBytes hi0 hz0 hz1 hz2 _ _ k k rfl rfl rfl rfl (Nat.le_refl _) (by omega) (by omega) ?_; intro w1 Z hZ hnew hch hsz _; have c0 := hch.cellN h0; have c1 := hch.cellN hl; have hrow1 := hrow.kept hch (fun _ _ h => h))
    | ((with_reducible refine wpList_copy_all (o := ⟨some 36, _, _, _, _, _⟩) rfl _ _ _ _ rfl 5 i0 1 uBytes hi0 hz1 w.heap.size 0 k k Z 5 ?_ hnew (.slice va k vc) ?_ xs (hrow1.src uBytes h1) ?_ ?_); rfl; rfl; (rw [hZ, hrow1.1]; omega); intro w2 hch2 hb2 _))
  go_ret2
  exact ⟨w.heap.size, rfl, Row.copied hb2 (by omega) (by rw [hrow.1]; omega) (by unfold maxLen; omega), hch.trans hch2 (fun k hk (h : k = _) => by omega), Nat.le_refl _⟩

set_option maxRecDepth 100000 in
set_option maxHeartbeats 400000 in
theorem swap1 (lb o bx m : Nat) (x : Value) (news : List Value) (u0 u1 : Value) (xa : Option Addr) (xc : Nat) (w : World)
    (h0 : w.cell? ⟨lb, o, none⟩ = some u0) (h1 : w.cell? ⟨lb, o + 1, none⟩ = some u1) (hf : ∀ j, w.frozen? ⟨lb, j, none⟩ = false)
    (hb : w.cell? ⟨bx, 0, none⟩ = some (.slice xa m xc)) (hbl : bx ≠ lb) (hsrc : ∀ w', Chg (fun j => j = lb ∨ w.heap.size ≤ j) w w' → Src Try.prog 1 72 (.slice xa m xc) m news w') (hm : m ≤ 4194304) :
    Calls Try.prog 49 #[.pointer (some ⟨lb, o, none⟩), .pointer (some ⟨bx, 0, none⟩)] w fun e w' => e = .returned (.tuple #[]) ∧
      ∃ w1, Chg No w w1 ∧ Row w' 5 1 (.slice (some ⟨w.heap.size, 0, none⟩) m m) m news ∧ Chg (One lb) w w' ∧
        (∀ cur, Blk w lb cur 102 → Blk w' lb ((cur.setIfInBounds o (.slice (some ⟨w.heap.size, 0, none⟩) m m)).setIfInBounds (o + 1) (.int .i64 m)) 102) := by
  have hlt := World.block_lt_of_cell? w _ h0
  have hblt := World.block_lt_of_cell? w _ hb
  simp only at hlt hblt
  obtain ⟨i0, hi0, hz0, hz1, hz2⟩ := info_parts infoU8
  have hnl := (hsrc w (Chg.refl _ _)).newsLen
  have Hs := hid hsrc
  clear hsrc
  go_enter Try.func49, Try.ntmps49
  go_wp2_with (at_make; refine wpList_makeN rfl _ _ _ rfl 5 i0 (.int .u8 0) 1 1 uBytes hi0 hz0 hz1 hz2 _ _ m m rfl rfl rfl rfl (Nat.le_refl _) (by omega) (by omega) ?_; intro w1 Z hZ hnew hch hsz _; have c0 := hch.cellN h0; have c1 := hch.cellN h1; have c2 := hch.cellN hb; have cf : ∀ j, w1.frozen? ⟨lb, j, none⟩ = false := fun j => (hch.frozen (p := ⟨lb, j, none⟩) hlt id).trans (hf j))
  have hW : Chg (fun j => j = lb ∨ w.heap.size ≤ j) w (w1.setCell ⟨lb, o, none⟩ (.slice (some ⟨w.heap.size, 0, none⟩) m m)) := (hch.mono (fun _ _ h => h.elim)).setCell _ _ (fun _ => .inl rfl)
  have d0 : (w1.setCell ⟨lb, o, none⟩ (.slice (some ⟨w.heap.size, 0, none⟩) m m)).cell? ⟨lb, o, none⟩ = some (.slice (some ⟨w.heap.size, 0, none⟩) m m) := World.cell?_setCell_same _ _ _ c0
  have d1 : (w1.setCell ⟨lb, o, none⟩ (.slice (some ⟨w.heap.size, 0, none⟩) m m)).cell? ⟨lb, o + 1, none⟩ = some u1 := by rw [World.cell?_setCell_other _ _ _ _ (by simp)]; exact c1
  have d2 : (w1.setCell ⟨lb, o, none⟩ (.slice (some ⟨w.heap.size, 0, none⟩) m m)).cell? ⟨bx, 0, none⟩ = some (.slice xa m xc) := by rw [World.cell?_setCell_other _ _ _ _ (fun h => hbl (congrArg Addr.block h).symm)]; exact c2
  have df : ∀ j, (w1.setCell ⟨lb, o, none⟩ (.slice (some ⟨w.heap.size, 0, none⟩) m m)).frozen? ⟨lb, j, none⟩ = false := fun j => by rw [World.frozen?_setCell]; exact cf j
  have dn := hnew.setOther (p := ⟨lb, o, none⟩) (by simp; omega) (.slice (some ⟨w.heap.size, 0, none⟩) m m)
  have hcur : ∀ cur, Blk w lb cur 102 → Blk (w1.setCell ⟨lb, o, none⟩ (.slice (some ⟨w.heap.size, 0, none⟩) m m)) lb (cur.setIfInBounds o (.slice (some ⟨w.heap.size, 0, none⟩) m m)) 102 := fun cur h => (h.kept hch id).set _ _
  have Hcur := hid hcur
  have hsz2 : (w1.setCell ⟨lb, o, none⟩ (.slice (some ⟨w.heap.size, 0, none⟩) m m)).heap.size = w.heap.size + 1 := by rw [← hsz]; simp [World.setCell]
  clear hcur c0 c1 c2 cf
  generalize (w1.setCell ⟨lb, o, none⟩ (.slice (some ⟨w.heap.size, 0, none⟩) m m)) = W at *
  have hs2 := Hs.out W.drew hW.drew
  have hk2 : ∀ w2, Chg (One w.heap.size) W.drew w2 → w2.cell? ⟨lb, o + 1, none⟩ = some u1 ∧ w2.frozen? ⟨lb, o + 1, none⟩ = false := fun w2 hc =>
    ⟨(hc.cell (p := ⟨lb, o + 1, none⟩) (by show lb < W.heap.size; omega) (fun h => by have : lb = w.heap.size := h; omega)).trans d1, (hc.frozen (p := ⟨lb, o + 1, none⟩) (by show lb < W.heap.size; omega) (fun h => by have : lb = w.heap.size := h; omega)).trans (df _)⟩
  have Hk2 := hid hk2
  clear hk2
  go_region_law ((refine step_copy_all rfl _ _ _ _ rfl 5 i0 1 uBytes hi0 hz1 w.heap.size 0 m m Z 5 rfl dn.drew (.slice xa m xc) rfl news hs2 (by rw [hZ, hnl]; omega) ?_); intro w2 hch2 hb2 hsz3; have e1 := (Hk2.out w2 hch2).1; have e2 := (Hk2.out w2 hch2).2)
  all_goals
    go_end0
    refine ⟨rfl, w1, hch, ?_, ?_, ?_⟩
    · exact (Row.copied hb2 (by omega) (by omega) (by unfold maxLen; omega)).kept ((Chg.refl (One lb) w2).setCell ⟨lb, o + 1, none⟩ (.int .i64 m) (fun _ => rfl)) (fun k hk h => by cases hk; have : w.heap.size = lb := h; omega)
    · refine Chg.setCell ?_ _ _ (fun _ => rfl)
      exact (hW.mono (T := One lb) (fun k hk h => h.elim id (fun h => by omega))).trans hch2.ofDrew (fun k hk (h : k = _) => by omega)
    · intro cur hc
      exact ((Hcur.out cur hc).drew.kept hch2 (fun (h : lb = _) => by omega)).set _ _

/-- What a Swap leaves behind. -/
def SwapPost (d lb i n c m : Nat) (acts : Int) (keep : Value) (news : List Value) (cur : Array Value) (w w' : World) : Prop :=
  ∃ g, w.heap.size ≤ g ∧ Row w' 5 1 (.slice (some ⟨g, 0, none⟩) m m) m news ∧ Chg (fun j => j = d ∨ j = lb) w w' ∧
    Blk w' d #[.slice (some ⟨lb, 0, none⟩) n c, .int .i64 (wrap64 (acts + 1)), .bool false, .int .i64 0, keep] 80 ∧
    Blk w' lb ((cur.setIfInBounds (i * 2) (.slice (some ⟨g, 0, none⟩) m m)).setIfInBounds (i * 2 + 1) (.int .i64 m)) 102

set_option maxHeartbeats 400000 in
theorem swap_ok (d lb i n c m : Nat) (acts : Int) (keep x : Value) (news : List Value) (cur : Array Value) (u0 u1 : Value) (w : World)
    (hd : Blk w d #[.slice (some ⟨lb, 0, none⟩) n c, .int .i64 acts, .bool false, .int .i64 0, keep] 80)
    (hlb : Blk w lb cur 102) (hi : i < n) (hv : cur[i * 2]? = some u0) (hs : cur[i * 2 + 1]? = some u1) (hdl : d ≠ lb)
    (hxl : ∃ a cp, x = .slice a m cp) (hsrc : ∀ w', Chg (fun j => j = d ∨ j = lb) w w' → Src Try.prog 1 72 x m news w') (hm : m ≤ 4194304) :
    Calls Try.prog 36 #[.pointer (some ⟨d, 0, none⟩), .int .i64 i, x] w fun e w' => e = .returned (.int .i64 0) ∧ SwapPost d lb i n c m acts keep news cur w w' := by
  obtain ⟨xa, xc, rfl⟩ := hxl
  have hlt := hlb.lt
  have hdlt := hd.lt
  have hact : Calls Try.prog 42 #[.pointer (some ⟨d, 0, none⟩), .int .i64 i, .int .i64 m, .func (.func 49) #[] #[.pointer (some ⟨w.heap.size, 0, none⟩)]]
      (w.alloc (.cells #[.slice xa m xc] 72)) fun e w' => e = .returned (.int .i64 0) ∧ SwapPost d lb i n c m acts keep news cur w w' := by
    refine act_ok d lb n c i acts _ keep _ _ _ _ (hd.alloc _) hi (by omega) (enters_of Try.func49 (by kernel_rfl) rfl) ?_
    have hch : Chg (fun j => j = d ∨ j = lb) w ((w.alloc (.cells #[.slice xa m xc] 72)).setCell ⟨d, 1, none⟩ (.int .i64 (wrap64 (acts + 1)))) := ((Chg.refl _ w).alloc _).setCell _ _ (fun _ => .inl rfl)
    have hbd := (hd.alloc (.cells #[.slice xa m xc] 72)).set 1 (.int .i64 (wrap64 (acts + 1)))
    have hbl := (hlb.alloc (.cells #[.slice xa m xc] 72)).setOther (p := ⟨d, 1, none⟩) (fun e => hdl e.symm) (.int .i64 (wrap64 (acts + 1)))
    have hbx := (Blk.new w #[.slice xa m xc] 72).setOther (p := ⟨d, 1, none⟩) (by simp; omega) (.int .i64 (wrap64 (acts + 1)))
    have hsz : ((w.alloc (.cells #[.slice xa m xc] 72)).setCell ⟨d, 1, none⟩ (.int .i64 (wrap64 (acts + 1)))).heap.size = w.heap.size + 1 := by simp [World.setCell]
    generalize ((w.alloc (.cells #[.slice xa m xc] 72)).setCell ⟨d, 1, none⟩ (.int .i64 (wrap64 (acts + 1)))) = W at *
    refine (swap1 lb (i * 2) w.heap.size m (.slice xa m xc) news _ _ _ _ W (hbl.cell _ hv) (hbl.cell _ hs) hbl.free (hbx.cell 0 rfl) (by omega) (fun w' hw' => hsrc w' (hch.trans hw' ?_)) hm).mono ?_
    · intro k hk h
      rcases h with h | h
      · exact .inr h
      · omega
    rintro e w' ⟨rfl, w1, h1, h2, h3, h4⟩
    exact ⟨rfl, _, by omega, h2, hch.trans h3 (fun k hk (h : k = _) => .inr h), hbd.kept h3 hdl, h4 cur hbl⟩
  have H := hid hact
  clear hact
  go_enter Try.func36, Try.ntmps36
  go_wp2_with (go_at_call 42; refine H.out.mono ?_; rintro e w' ⟨rfl, hP⟩)
  go_ret
  exact ⟨rfl, hP⟩

theorem new_ok (n : Nat) (h1 : 1 ≤ n) (h2 : n ≤ 16) (w : World) :
    Calls Try.prog 11 #[.int .i64 n] w fun e w' => e = .returned (.tuple #[.pointer (some ⟨w.heap.size + 1, 0, none⟩), .int .i64 0]) ∧
      Chg No w w' ∧ Blk w' (w.heap.size + 1) #[.slice (some ⟨w.heap.size, 0, none⟩) n n, .int .i64 0, .bool false, .int .i64 0, .slice none 0 0] 80 ∧
      Blk w' w.heap.size (madeCells #[.slice none 0 0, .int .i64 0] (n * 2)) 102 := by
  obtain ⟨i0, hi0, hz0, hz1, hz2⟩ := info_parts infoLog
  have hn1 : ¬ ((n : Int) < 1) := by omega
  have hn2 : ¬ ((16 : Int) < n) := by omega
  go_enter Try.func11, Try.ntmps11
  go_wp2_with (at_make; refine wpList_makeN rfl _ _ _ rfl 102 i0 _ 2 _ uLogs hi0 hz0 hz1 hz2 _ _ n n rfl rfl rfl rfl (Nat.le_refl _) (by omega) (by omega) ?_; intro w1 Z hZ hnew hch hsz HZ)
  go_ret2
  obtain rfl := HZ.out
  exact ⟨rfl, hch.alloc _, hsz ▸ Blk.new w1 _ _, hnew.alloc _⟩
end Go.Proofs.Ytfmcfcjcmmlmfaa

/- The walk over wire.Unpack, at bytes that were written. -/
import Derived.Test.YtfmcfcjcmmlmfaaReadTW
import Derived.Defers
import Derived.Recover
import Derived.Deep.RegionHeld3
import Derived.Deep.LoopGhost
namespace Go.Proofs.Ytfmcfcjcmmlmfaa
set_option maxRecDepth 100000
open Go Go.RowKit
set_option linter.unusedVariables false

set_option maxHeartbeats 400000 in
theorem unpack_idle (p0 p1 p2 p3 : Addr) (w : World) :
    CallsD Try.prog 50 #[.pointer (some p0), .pointer (some p1), .pointer (some p2), .pointer (some p3)] .returning w fun e u' w' => e = .returned (.tuple #[]) ∧ u' = .returning ∧ w' = w := by
  refine callsD_of_wpS Try.func50 rfl fun c₀ cs hu => ?_
  apply wpS_seq
  apply wpS_region
  simp [wpOpsS, go_sem, recoverD, hu, Try.ntmps50, Exit.thenS]
  apply wpS_seq
  apply wpS_region
  simp [wpOpsS, go_sem, Exit.thenS]
  refine wpS_cond (t := false) (by simp [Act.eval, Array.replicate]) ?_
  simp only [Bool.false_eq_true, if_false]
  refine wpS_of_wp (wp_skip ?_)
  cases c₀
  simp_all [bodyPostS, results, Try.results50]

theorem uValues : Try.prog.underlying 113 = some (.slice 91) := by kernel_rfl
theorem infoValue : (Try.prog.info? 91).map (fun i => (i.zero, i.size, i.bytes)) = some (some (.agg #[.int .i64 0, .int .u64 0, .int .i64 0, .float .f64 0, .string ByteArray.empty]), 5, 48) := by kernel_rfl
theorem putB_pos (x : WV) : 0 < (putB x).length := by
  unfold putB
  split
  · simp
  · split <;> simp
theorem packB_append (a b : List WV) : packB (a ++ b) = packB a ++ packB b := by simp [packB]
theorem packB_at {l : List WV} {i : Nat} {x : WV} (h : l[i]? = some x) : (packB l).drop (packB (l.take i)).length = putB x ++ packB (l.drop (i + 1)) := by
  obtain ⟨hi, rfl⟩ := List.getElem?_eq_some_iff.1 h
  have e : l = l.take i ++ l[i] :: l.drop (i + 1) := by rw [← List.drop_eq_getElem_cons hi, List.take_append_drop]
  have e2 : packB l = packB (l.take i) ++ (putB l[i] ++ packB (l.drop (i + 1))) := by
    conv => lhs; rw [e]
    rw [packB_append]
    congr 1
  rw [e2, List.drop_left]
theorem packB_take {l : List WV} {i : Nat} {x : WV} (h : l[i]? = some x) : (packB (l.take (i + 1))).length = (packB (l.take i)).length + (putB x).length := by
  rw [List.take_add_one, h, packB_append]
  simp [packB]

/-- so many values were read -/
structure UnInv (w : World) (lb pb eb rb ab : Nat) (a : Option Addr) (c : Nat) (bs : List UInt8) (l : List WV) (k : Nat) (v : Value) (wr : World) : Prop where
  le : k ≤ l.length
  rd : Reads wr rb a c bs (packB (l.take k)).length
  cell : Blk wr lb #[v] 113
  pl : ∃ x, Blk wr pb #[.int .i64 x] 3
  er : ∃ x, Blk wr eb #[.int .i64 x] 31
  at_ : ∃ x, Blk wr ab #[.int .i64 x] 3
  row : Row wr 91 5 v k (wvCells (l.take k))
  fresh : Fresh w v
  apart : ∀ j, v.ownBlock = some j → j ≠ lb ∧ j ≠ pb ∧ j ≠ eb ∧ j ≠ rb ∧ j ≠ ab
  chg : Chg No w wr
  orig : Byt w a bs
theorem un_start (w : World) (a : Option Addr) (c : Nat) (bs : List UInt8) (l : List WV) (hb : Byt w a bs) (hc : bs.length ≤ c) (hn : bs.length ≤ 4194304) :
    UnInv w w.heap.size (w.heap.size + 1) (w.heap.size + 1 + 1) (w.heap.size + 1 + 1 + 1) (w.heap.size + 1 + 1 + 1 + 1) a c bs l 0 (.slice none 0 0) (((((w.alloc (.cells #[.slice none 0 0] 113)).alloc (.cells #[.int .i64 0] 3)).alloc (.cells #[.int .i64 0] 31)).alloc (.cells #[.slice a bs.length c, .int .i64 0] 125)).alloc (.cells #[.int .i64 0] 3)) := by
  have h1 := Blk.new w #[.slice none 0 0] 113
  have k1 : Chg No w (w.alloc (.cells #[.slice none 0 0] 113)) := (Chg.refl _ _).alloc _
  have s1 : (w.alloc (.cells #[.slice none 0 0] 113)).heap.size = w.heap.size + 1 := by simp
  generalize (w.alloc (.cells #[.slice none 0 0] 113)) = w1 at *
  have h2 := Blk.new w1 #[.int .i64 0] 3
  have k2 : Chg No w1 (w1.alloc (.cells #[.int .i64 0] 3)) := (Chg.refl _ _).alloc _
  have s2 : (w1.alloc (.cells #[.int .i64 0] 3)).heap.size = w1.heap.size + 1 := by simp
  generalize (w1.alloc (.cells #[.int .i64 0] 3)) = w2 at *
  have h3 := Blk.new w2 #[.int .i64 0] 31
  have k3 : Chg No w2 (w2.alloc (.cells #[.int .i64 0] 31)) := (Chg.refl _ _).alloc _
  have s3 : (w2.alloc (.cells #[.int .i64 0] 31)).heap.size = w2.heap.size + 1 := by simp
  generalize (w2.alloc (.cells #[.int .i64 0] 31)) = w3 at *
  have h4 := Blk.new w3 #[.slice a bs.length c, .int .i64 0] 125
  have k4 : Chg No w3 (w3.alloc (.cells #[.slice a bs.length c, .int .i64 0] 125)) := (Chg.refl _ _).alloc _
  have s4 : (w3.alloc (.cells #[.slice a bs.length c, .int .i64 0] 125)).heap.size = w3.heap.size + 1 := by simp
  generalize (w3.alloc (.cells #[.slice a bs.length c, .int .i64 0] 125)) = w4 at *
  have h5 := Blk.new w4 #[.int .i64 0] 3
  have k5 : Chg No w4 (w4.alloc (.cells #[.int .i64 0] 3)) := (Chg.refl _ _).alloc _
  generalize (w4.alloc (.cells #[.int .i64 0] 3)) = w5 at *
  rw [s4] at h5
  rw [s3] at h5 h4
  rw [s2] at h5 h4 h3
  rw [s1] at h5 h4 h3 h2
  have kall := (((k1.same k2).same k3).same k4).same k5
  refine ⟨Nat.zero_le _, ⟨h4.kept k5 id, Byt.kept hb kall, fun g off ha hp => ?_, hc, hn⟩, (((h1.kept k2 id).kept k3 id).kept k4 id).kept k5 id, ⟨0, ((h2.kept k3 id).kept k4 id).kept k5 id⟩, ⟨0, (h3.kept k4 id).kept k5 id⟩, ⟨0, h5⟩, by simpa [wvCells] using Row.nil _ _ _, fun j hj => by simp [Value.ownBlock] at hj, fun j hj => by simp [Value.ownBlock] at hj, kall, hb⟩
  obtain ⟨g', off', ha', hcell⟩ := hb 0 hp
  rw [ha] at ha'
  cases ha'
  have := World.block_lt_of_cell? w _ hcell
  simp only at this
  omega

/-- the places of the variables -/
def UnOrd (w : World) (lb pb eb rb ab : Nat) : Prop := lb = w.heap.size ∧ pb = w.heap.size + 1 ∧ eb = w.heap.size + 1 + 1 ∧ rb = w.heap.size + 1 + 1 + 1 ∧ ab = w.heap.size + 1 + 1 + 1 + 1
theorem UnInv.setAt {w : World} {lb pb eb rb ab : Nat} {a : Option Addr} {c : Nat} {bs : List UInt8} {l : List WV} {k : Nat} {v : Value} {wr : World} (h : UnInv w lb pb eb rb ab a c bs l k v wr) (ho : UnOrd w lb pb eb rb ab) (x : Int) :
    UnInv w lb pb eb rb ab a c bs l k v (wr.setCell ⟨ab, 0, none⟩ (.int .i64 x)) := by
  obtain ⟨o1, o2, o3, o4, o5⟩ := ho
  obtain ⟨hle, hrd, hcell, ⟨px, hpl⟩, ⟨ex, her⟩, ⟨ax, hat⟩, hrow, hfr, hap, hch, hor⟩ := h
  have hset : Chg (One ab) wr (wr.setCell ⟨ab, 0, none⟩ (.int .i64 x)) := (Chg.refl _ _).setCell _ _ (fun _ => rfl)
  have hch2 : Chg No w (wr.setCell ⟨ab, 0, none⟩ (.int .i64 x)) := hch.trans hset (fun j hj e => by have : j = ab := e; omega)
  exact ⟨hle, ⟨hrd.blk.setOther (by simp; omega) _, Byt.kept hor hch2, hrd.apart, hrd.cap, hrd.le⟩, hcell.setOther (by simp; omega) _, ⟨px, hpl.setOther (by simp; omega) _⟩, ⟨ex, her.setOther (by simp; omega) _⟩, ⟨x, hat.set 0 _⟩, hrow.kept hset (fun j hj e => (hap j hj).2.2.2.2 e), hfr, hap, hch2, hor⟩

/-- behind a value's read -/
structure UnMid (w : World) (lb pb eb rb ab : Nat) (a : Option Addr) (c : Nat) (bs : List UInt8) (l : List WV) (k : Nat) (v : Value) (wr : World) : Prop where
  rd : Reads wr rb a c bs (packB (l.take (k + 1))).length
  cell : Blk wr lb #[v] 113
  pl : ∃ x, Blk wr pb #[.int .i64 x] 3
  er : ∃ x, Blk wr eb #[.int .i64 x] 31
  at_ : ∃ x, Blk wr ab #[.int .i64 x] 3
  row : Row wr 91 5 v k (wvCells (l.take k))
  fresh : Fresh w v
  apart : ∀ j, v.ownBlock = some j → j ≠ lb ∧ j ≠ pb ∧ j ≠ eb ∧ j ≠ rb ∧ j ≠ ab
  chg : Chg No w wr
  orig : Byt w a bs
theorem UnInv.read {w : World} {lb pb eb rb ab : Nat} {a : Option Addr} {c : Nat} {bs : List UInt8} {l : List WV} {k : Nat} {v : Value} {wr w3 : World} {x : WV} (h : UnInv w lb pb eb rb ab a c bs l k v wr) (ho : UnOrd w lb pb eb rb ab) (hx : l[k]? = some x)
    (hch : Chg (One rb) wr w3) (hR : Reads w3 rb a c bs ((packB (l.take k)).length + (putB x).length)) : UnMid w lb pb eb rb ab a c bs l k v w3 := by
  obtain ⟨o1, o2, o3, o4, o5⟩ := ho
  obtain ⟨hle, hrd, hcell, ⟨px, hpl⟩, ⟨ex, her⟩, ⟨ax, hat⟩, hrow, hfr, hap, hc, hor⟩ := h
  refine ⟨by rw [packB_take hx]; exact hR, hcell.kept hch (fun e => by have : lb = rb := e; omega), ⟨px, hpl.kept hch (fun e => by have : pb = rb := e; omega)⟩, ⟨ex, her.kept hch (fun e => by have : eb = rb := e; omega)⟩, ⟨ax, hat.kept hch (fun e => by have : ab = rb := e; omega)⟩, hrow.kept hch (fun j hj e => (hap j hj).2.2.2.1 e), hfr, hap, hc.trans hch (fun j hj e => by have : j = rb := e; omega), hor⟩
theorem UnMid.put {w : World} {lb pb eb rb ab : Nat} {a : Option Addr} {c : Nat} {bs : List UInt8} {l : List WV} {k : Nat} {v v' : Value} {w3 w4 : World} {x : WV} {o : Obj} (h : UnMid w lb pb eb rb ab a c bs l k v w3) (ho : UnOrd w lb pb eb rb ab) (hx : l[k]? = some x)
    (hr : Row w4 91 5 v' (k + 1) (wvCells (l.take k) ++ x.cells)) (hch : Chg (fun j => v.ownBlock = some j) (w3.alloc o) w4) (hwh : v'.ownBlock = v.ownBlock ∨ (v'.ownBlock = some (w3.alloc o).heap.size ∧ (w3.alloc o).heap.size < w4.heap.size)) :
    UnInv w lb pb eb rb ab a c bs l (k + 1) v' (w4.setCell ⟨lb, 0, none⟩ v') := by
  obtain ⟨o1, o2, o3, o4, o5⟩ := ho
  obtain ⟨hrd, hcell, ⟨px, hpl⟩, ⟨ex, her⟩, ⟨ax, hat⟩, hrow, hfr, hap, hc, hor⟩ := h
  have hA : Chg No w3 (w3.alloc o) := (Chg.refl _ _).alloc _
  have hset : Chg (One lb) w4 (w4.setCell ⟨lb, 0, none⟩ v') := (Chg.refl _ _).setCell _ _ (fun _ => rfl)
  have hsz : (w3.alloc o).heap.size = w3.heap.size + 1 := by simp
  have hap' : ∀ j, v'.ownBlock = some j → (j ≠ lb ∧ j ≠ pb ∧ j ≠ eb ∧ j ≠ rb ∧ j ≠ ab) ∧ w.heap.size ≤ j := by
    intro j hj
    rcases hwh with hwh | ⟨hwh, -⟩
    · rw [hwh] at hj; exact ⟨hap j hj, hfr j hj⟩
    · rw [hwh] at hj; cases hj
      have l1 := hcell.lt; have l2 := hpl.lt; have l3 := her.lt; have l4 := hat.lt; have l5 := hrd.blk.lt; have l6 := hc.size
      omega
  have hxl : x.cells.length = 5 := rfl
  have hcc : Chg (fun j => v.ownBlock = some j ∨ j = lb) w3 (w4.setCell ⟨lb, 0, none⟩ v') := ((hA.mono (fun _ _ h => h.elim)).trans hch (fun j _ h => .inl h)).trans hset (fun j _ h => .inr h)
  have hcw : Chg No w (w4.setCell ⟨lb, 0, none⟩ v') := hc.trans hcc (fun j hj e => by
      rcases e with e | e
      · have := hfr j e; omega
      · omega)
  refine ⟨by have := (List.getElem?_eq_some_iff.1 hx).1; omega, ⟨hrd.blk.kept hcc (fun e => ?_), Byt.kept hor hcw, hrd.apart, hrd.cap, hrd.le⟩, ?_, ⟨px, hpl.kept hcc (fun e => ?_)⟩, ⟨ex, her.kept hcc (fun e => ?_)⟩, ⟨ax, hat.kept hcc (fun e => ?_)⟩, ?_, fun j hj => (hap' j hj).2, fun j hj => (hap' j hj).1, hcw, hor⟩
  · rcases e with e | e
    · exact (hap _ e).2.2.2.1 rfl
    · omega
  · have hb := hcell.kept hA id
    have hb2 := hb.kept hch (fun e => (hap _ e).1 rfl)
    exact hb2.set 0 v'
  · rcases e with e | e
    · exact (hap _ e).2.1 rfl
    · omega
  · rcases e with e | e
    · exact (hap _ e).2.2.1 rfl
    · omega
  · rcases e with e | e
    · exact (hap _ e).2.2.2.2 rfl
    · omega
  · have e : wvCells (l.take (k + 1)) = wvCells (l.take k) ++ x.cells := by rw [List.take_add_one, hx]; simp [wvCells]
    rw [e]
    exact hr.kept hset (fun j hj e => (hap' j hj).1.1 e)
theorem src5 {P : Program} {w : World} {g : Nat} {t e : TypeId} {k : Int} {u : Int} {i : Int} {s : ByteArray} (h : Blk (w.alloc (.cells #[.int .i64 k, .int .u64 u, .int .i64 i, .float .f64 0, .string s] e)) g #[.int .i64 k, .int .u64 u, .int .i64 i, .float .f64 0, .string s] e) (ht : P.underlying t = some (.slice e)) :
    Src P 5 t (.slice (some ⟨g, 0, none⟩) 1 1) 1 [.int .i64 k, .int .u64 u, .int .i64 i, .float .f64 0, .string s] (w.alloc (.cells #[.int .i64 k, .int .u64 u, .int .i64 i, .float .f64 0, .string s] e)) :=
  Src.ofSlice _ ht ⟨g, 0, none⟩ 1 1 _ rfl (fun j u hu => by rw [Addr.add_lit, h.cellEq]; simpa using hu) (fun u hu => by simp at hu; rcases hu with rfl | rfl | rfl | rfl | rfl <;> rfl)

set_option maxRecDepth 100000 in
set_option maxHeartbeats 2000000 in
theorem unpack_ok (a : Option Addr) (c : Nat) (bs : List UInt8) (l : List WV) (hok : ∀ v ∈ l, v.Ok) (hl : l.length ≤ 900) (hbs : bs = packB l) (w : World) (hb : Byt w a bs) (hc : bs.length ≤ c) (hn : bs.length ≤ 4194304) :
    Calls Try.prog 38 #[.slice a bs.length c] w fun e w' => ∃ v, e = .returned (.tuple #[v, .int .i64 0, .int .i64 0]) ∧ Row w' 91 5 v l.length (wvCells l) ∧ Chg No w w' ∧ Fresh w v := by
  have hmf : ∀ (fn : Fn) (first cap : Array Value) (w : World), (Instr.makeFunc fn first cap).run Try.prog w = .ok (.func fn first cap) w := fun _ _ _ _ => rfl
  have HUn := hid (un_start w a c bs l hb hc hn)
  have Hok := hid hok
  have Hbs := hid hbs
  obtain ⟨i0, hi0, hz0, hz1, hz2⟩ := info_parts infoValue
  have Hn := hid hn
  clear hb hok hbs hc hn
  go_enter_defers Try.func38, Try.ntmps38
  go_wp2_with fail
  generalize (((((w.alloc (.cells #[.slice none 0 0] 113)).alloc (.cells #[.int .i64 0] 3)).alloc (.cells #[.int .i64 0] 31)).alloc (.cells #[.slice a bs.length c, .int .i64 0] 125)).alloc (.cells #[.int .i64 0] 3)) = W0 at *
  have hord : ∃ lb pb eb rb ab, lb = w.heap.size ∧ pb = w.heap.size + 1 ∧ eb = w.heap.size + 1 + 1 ∧ rb = w.heap.size + 1 + 1 + 1 ∧ ab = w.heap.size + 1 + 1 + 1 + 1 := ⟨_, _, _, _, _, rfl, rfl, rfl, rfl, rfl⟩
  obtain ⟨lb, pb, eb, rb, ab, e1, e2, e3, e4, e5⟩ := hord
  rw [← e5, ← e4, ← e3, ← e2, ← e1] at HUn ⊢
  have hne1 : lb ≠ ab := by omega
  have hne2 : ab ≠ lb := by omega
  have Hord : Hid (UnOrd w lb pb eb rb ab) := hid ⟨e1, e2, e3, e4, e5⟩
  clear e1 e2 e3 e4 e5
  generalize hL : bs.length = L at *
  have HL := hid hL
  clear hL
  go_loopg [] (l.length) (fun k wr => ∃ (i : Nat) (v : Value), i ≤ l.length ∧ k = l.length - i ∧ UnInv w lb pb eb rb ab a c bs l i v wr)
  case atStart => exact ⟨0, _, Nat.zero_le _, rfl, HUn.out⟩
  case round =>
    obtain ⟨i, v, hi, hgk, hinv⟩ := hrel
    have Hgk := hid hgk
    clear hgk
    obtain ⟨va, vc, rfl, -, -, -⟩ := hinv.row.cells
    obtain ⟨r0, r1, rf⟩ := hinv.rd.blk.c2
    rw [HL.out] at r0
    obtain ⟨l0, lf⟩ := hinv.cell.c1
    obtain ⟨ax, hax⟩ := hinv.at_
    obtain ⟨a0, af⟩ := hax.c1
    by_cases hlt : i < l.length
    · obtain ⟨x, hx⟩ : ∃ x, l[i]? = some x := ⟨_, List.getElem?_eq_getElem hlt⟩
      have Hx := hid hx
      have Hinv := hid hinv
      clear hax hinv hx
      have hpp : (packB (l.take i)).length < L := by
        have h1 := packB_at Hx.out
        have h2 := putB_pos x
        have h3 := congrArg List.length h1
        have h4 := HL.out
        rw [Hbs.out] at h4
        simp only [List.length_drop, List.length_append] at h3
        omega
      obtain ⟨p, hp⟩ : ∃ p, (packB (l.take i)).length = p := ⟨_, rfl⟩
      rw [hp] at r1 hpp
      have Hp := hid hp
      clear hp
      have hpL : (p : Int) < (L : Int) := by omega
      have hi1000 : ((i : Int) == 1000) = false := by simp; omega
      obtain ⟨xk, xu, xi, xs⟩ := x
      go_upto_region 8 with (fail)
      have hinv2 := Hinv.out.setAt Hord.out (p : Int)
      clear r0 r1 rf l0 lf a0 af
      generalize wr.setCell ⟨ab, 0, none⟩ (.int .i64 (p : Int)) = w2 at *
      obtain ⟨l0, lf⟩ := hinv2.cell.c1
      have hV : Calls Try.prog 51 #[.pointer (some ⟨rb, 0, none⟩)] w2.drew fun e w' => e = .returned (.agg #[.int .i64 xk, .int .u64 xu, .int .i64 xi, .float .f64 0, .string xs]) ∧ Chg (One rb) w2.drew w' ∧ Reads w' rb a c bs ((packB (l.take i)).length + (putB ⟨xk, xu, xi, xs⟩).length) := rdvalue_ok ⟨xk, xu, xi, xs⟩ (Hok.out _ (List.mem_of_getElem? Hx.out)) rb a c bs _ w2.drew (hinv2.rd.kept (Chg.refl No w2).drew) (packB (l.drop (i + 1))) (by rw [Hbs.out]; exact packB_at Hx.out)
      have HV := hid hV
      have Hinv2 := hid hinv2
      clear hV hinv2
      refine wp_region_noPanic ?_
      go_region_law (first
        | ((with_reducible refine step_append_Row (o := ⟨some 31, _, _, _, _, _⟩) rfl _ _ _ _ rfl 91 i0 _ 5 48 uValues hi0 hz0 hz1 hz2 ?_ (.slice va i vc) i (wvCells (l.take i)) ?_ ?_ (.slice (some ⟨w3.heap.size, 0, none⟩) 1 1) ?_ 1 [.int .i64 xk, .int .u64 xu, .int .i64 xi, .float .f64 0, .string xs] ?_ ?_ ?_ ?_)
           · rfl
           · rfl
           · exact HrA.out
           · rfl
           · exact HsA.out
           · (unfold maxLen; omega)
           · omega
           intro a4 c4 w4 hr4 hch4 hwh4 _
           have Hr4 := hid hr4
           have Hc4 := hid hch4
           have Hw4 := hid hwh4
           have l4 := (HB4.out w4 hch4).c1.1
           have lf4 := (HB4.out w4 hch4).c1.2
           clear hr4 hch4 hwh4)
        | (go_simp; go_at_call 51; (with_reducible refine HV.out.mono ?_); rintro e w3 ⟨rfl, hch3, hR3⟩
           have hinv3 := Hinv2.out.read Hord.out Hx.out hch3.ofDrew hR3
           have hcA : Chg No w3 (w3.alloc (.cells #[.int .i64 xk, .int .u64 xu, .int .i64 xi, .float .f64 0, .string xs] 91)) := (Chg.refl _ _).alloc _
           have l3 := hinv3.cell.c1.1
           have l3A := (hinv3.cell.kept hcA id).c1.1
           have l3L : lb < w3.heap.size := hinv3.cell.lt
           have l3N : lb ≠ w3.heap.size := by omega
           have HrA := hid (Row.kept hinv3.row hcA (fun _ _ h => h))
           have HsA := hid (src5 (Blk.new w3 #[.int .i64 xk, .int .u64 xu, .int .i64 xi, .float .f64 0, .string xs] 91) uValues)
           have HB4 := hid (fun (w4 : World) (h : Chg (fun j => Value.ownBlock (.slice va i vc) = some j) (w3.alloc (.cells #[.int .i64 xk, .int .u64 xu, .int .i64 xi, .float .f64 0, .string xs] 91)) w4) => (hinv3.cell.kept hcA id).kept h (fun e => (hinv3.apart _ e).1 rfl))
           have Hinv3 := hid hinv3
           clear hch3 hR3 hinv3 hcA HV))
      all_goals refine NoPanic.normal ?_
      all_goals
        have hfin := Hinv3.out.put Hord.out Hx.out Hr4.out Hc4.out Hw4.out
        have Hfin := hid hfin
        clear hfin l4 lf4
        go_wp2_with fail
        go_roundg (l.length - (i + 1))
        case rel => exact ⟨i + 1, _, by omega, rfl, Hfin.out⟩
        case measure => rw [Hgk.out]; omega
    · have hii : i = l.length := by omega
      subst hii
      have hpL : ((packB (l.take l.length)).length : Int) = (L : Int) := by rw [List.take_length, ← Hbs.out, HL.out]
      rw [hpL] at r1
      have hrow := hinv.row
      rw [List.take_length] at hrow
      have Hrow := hid hrow
      have Hinv := hid hinv
      obtain ⟨px, hpl⟩ := hinv.pl
      obtain ⟨ex, her⟩ := hinv.er
      obtain ⟨p0, pf⟩ := hpl.c1
      obtain ⟨x0, xf⟩ := her.c1
      have hnp : lb ≠ pb := by have := Hord.out; unfold UnOrd at this; omega
      have hne : lb ≠ eb := by have := Hord.out; unfold UnOrd at this; omega
      have hpe : pb ≠ eb := by have := Hord.out; unfold UnOrd at this; omega
      clear hpL hrow hinv hax hpl her hlt hi
      generalize hln : l.length = ln at *
      have Hln := hid hln
      clear hln
      go_wp2_with fail
      have ho := Hord.out
      unfold UnOrd at ho
      have hcc : Chg (fun j => w.heap.size ≤ j) wr (((wr.setCell ⟨lb, 0, none⟩ (.slice va ln vc)).setCell ⟨pb, 0, none⟩ (.int .i64 0)).setCell ⟨eb, 0, none⟩ (.int .i64 0)) :=
        ((((Chg.refl (fun j => w.heap.size ≤ j) wr).setCell ⟨lb, 0, none⟩ (.slice va ln vc) (fun _ => by simp; omega)).setCell ⟨pb, 0, none⟩ (.int .i64 0) (fun _ => by simp; omega)).setCell ⟨eb, 0, none⟩ (.int .i64 0) (fun _ => by simp; omega))
      have g0 : (((wr.setCell ⟨lb, 0, none⟩ (.slice va ln vc)).setCell ⟨pb, 0, none⟩ (.int .i64 0)).setCell ⟨eb, 0, none⟩ (.int .i64 0)).cell? ⟨lb, 0, none⟩ = some (.slice va ln vc) :=
        (((Hinv.out.cell.set 0 (.slice va ln vc)).setOther (by simp; omega) _).setOther (by simp; omega) _).c1.1
      have g1 : (((wr.setCell ⟨lb, 0, none⟩ (.slice va ln vc)).setCell ⟨pb, 0, none⟩ (.int .i64 0)).setCell ⟨eb, 0, none⟩ (.int .i64 0)).cell? ⟨pb, 0, none⟩ = some (.int .i64 0) := by
        obtain ⟨px, hpl⟩ := Hinv.out.pl
        exact (((hpl.setOther (by simp; omega) _).set 0 (.int .i64 0)).setOther (by simp; omega) _).c1.1
      have g2 : (((wr.setCell ⟨lb, 0, none⟩ (.slice va ln vc)).setCell ⟨pb, 0, none⟩ (.int .i64 0)).setCell ⟨eb, 0, none⟩ (.int .i64 0)).cell? ⟨eb, 0, none⟩ = some (.int .i64 0) := by
        obtain ⟨ex, her⟩ := Hinv.out.er
        exact (((her.setOther (by simp; omega) _).setOther (by simp; omega) _).set 0 (.int .i64 0)).c1.1
      have hset : Chg (fun j => j = lb ∨ j = pb ∨ j = eb) wr (((wr.setCell ⟨lb, 0, none⟩ (.slice va ln vc)).setCell ⟨pb, 0, none⟩ (.int .i64 0)).setCell ⟨eb, 0, none⟩ (.int .i64 0)) :=
        ((((Chg.refl (fun j => j = lb ∨ j = pb ∨ j = eb) wr).setCell ⟨lb, 0, none⟩ (.slice va ln vc) (fun _ => .inl rfl)).setCell ⟨pb, 0, none⟩ (.int .i64 0) (fun _ => .inr (.inl rfl))).setCell ⟨eb, 0, none⟩ (.int .i64 0) (fun _ => .inr (.inr rfl)))
      have hrF := Row.kept Hrow.out hset (fun j hj e => by have := Hinv.out.apart j hj; omega)
      have hcF : Chg No w _ := Hinv.out.chg.trans hcc (fun j hj e => by omega)
      generalize ((wr.setCell ⟨lb, 0, none⟩ (.slice va ln vc)).setCell ⟨pb, 0, none⟩ (.int .i64 0)).setCell ⟨eb, 0, none⟩ (.int .i64 0) = WF at *
      refine leaves_cons (f := 50) (args := #[.pointer (some ⟨ab, 0, none⟩), .pointer (some ⟨lb, 0, none⟩), .pointer (some ⟨pb, 0, none⟩), .pointer (some ⟨eb, 0, none⟩)]) (by simp) (by simp [go_sem]) ?_
      refine (unpack_idle _ _ _ _ _).mono ?_
      rintro e u' w'' ⟨rfl, rfl, rfl⟩
      simp [Leaves, settle, results, Try.results38, go_sem, g0, g1, g2]
      rw [Hln.out]
      exact ⟨hrF, hcF, Hinv.out.fresh⟩
end Go.Proofs.Ytfmcfcjcmmlmfaa

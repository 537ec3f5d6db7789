/- Votes; slices.Sorted(maps.Keys(m)) at them; ballot.list. -/
import Derived.Test.YtfmcfcjcmmlmfaaMap
import Derived.Test.YtfmcfcjcmmlmfaaTab
import Derived.Test.YtfmcfcjcmmlmfaaSortLay
namespace Go.Proofs.Ytfmcfcjcmmlmfaa
open Go Go.RowKit Go.Maps Go.Sort Go.Shelf Go.Proofs
set_option linter.unusedVariables false

/-- a vote -/
structure VT where
  slot : Int
  b : Int
  s : ByteArray
deriving DecidableEq
def VT.val (x : VT) : Value := .agg #[.int .i64 x.slot, .int .i64 x.b, .string x.s]
def VT.cells (x : VT) : List Value := [.int .i64 x.slot, .int .i64 x.b, .string x.s]
def vcells (l : List VT) : List Value := l.flatMap VT.cells
def i64r (i : Int) : Prop := -9223372036854775808 ≤ i ∧ i ≤ 9223372036854775807
theorem i64r.wf {i : Int} (h : i64r i) : wfK .i64 i := by
  unfold i64r at h
  have h1 : IntKind.i64.min = -9223372036854775808 := by decide
  have h2 : IntKind.i64.max = 9223372036854775807 := by decide
  simp only [wfK, Lit.wf, h1, h2, Bool.and_eq_true, decide_eq_true_eq]
  exact h
theorem str_ne {a b : ByteArray} (h : ¬ a = b) : (a.toList == b.toList) = false := by
  rw [beq_eq_false_iff_ne]
  intro e
  rw [ByteArray.toList_eq, ByteArray.toList_eq] at e
  exact h (ByteArray.ext (Array.ext' e))
theorem vcells_length (l : List VT) : (vcells l).length = l.length * 3 := by
  unfold vcells
  induction l with
  | nil => rfl
  | cons x r ih => simp only [List.flatMap_cons, List.length_append, ih, List.length_cons]; simp [VT.cells]; omega
theorem vcells_append (a b : List VT) : vcells (a ++ b) = vcells a ++ vcells b := by simp [vcells]
theorem vcells_one (x : VT) : vcells [x] = x.cells := by simp [vcells]
theorem vcells_at (l : List VT) (k : Nat) (x : VT) (h : l[k]? = some x) (o : Nat) (ho : o < 3) : (vcells l)[k * 3 + o]? = x.cells[o]? := by
  obtain ⟨hk, rfl⟩ := List.getElem?_eq_some_iff.1 h
  have e : l = l.take k ++ (l[k] :: l.drop (k + 1)) := by rw [← List.drop_eq_getElem_cons hk, List.take_append_drop]
  have e2 : vcells l = vcells (l.take k) ++ ((l[k]).cells ++ vcells (l.drop (k + 1))) := by
    conv => lhs; rw [e]
    rw [vcells_append]
    congr 1
  have e3 : (vcells (l.take k)).length = k * 3 := by rw [vcells_length, List.length_take, Nat.min_eq_left (by omega)]
  rw [e2, List.getElem?_append_right (by omega), e3, Nat.add_sub_cancel_left, List.getElem?_append_left (by simp [VT.cells]; omega)]
theorem VT.oneCell (x : VT) : ∀ u ∈ x.cells, u.oneCell' = true := by
  intro u hu
  simp only [VT.cells, List.mem_cons, List.not_mem_nil, or_false] at hu
  rcases hu with rfl | rfl | rfl <;> rfl
/-- the map of votes -/
def VMap (w : World) (b : Nat) (m : List VT) : Prop := IMap VT.slot VT.val .i64 Try.prog 3 w b m

theorem sorts (m : Nat) : AnyZI.SortsIn Try.prog sortedI_ren Fence.wide m :=
  ⟨fun blk off cap ss W hH hblk hsz => callsIn_wide.2 (AnyM.slices_Sort_int sortI blk off cap ss W hH hblk hsz),
   fun p cap W => callsIn_wide.2 (AnyM.slices_Sort_int_none sortI p cap W)⟩

theorem keys_ok (b : Nat) (w : World) : Calls Try.prog 33 #[.map (some b)] w fun e w' =>
    e = .returned (.func (.func 46) #[] #[.pointer (some ⟨w.heap.size, 0, none⟩)]) ∧ w' = w.alloc (.cells #[.map (some b)] 51) :=
  (callsIn_wide (n := 5)).1 (AnyZI.keys_in keysI0 Fence.wide 5 trivial rfl (some b) w)

theorem sorted_ok (b : Nat) (m : List VT) (w : World) (h : VMap w b m) (hm : m.length ≤ 1000000) :
    Calls Try.prog 32 #[.func (.func 46) #[] #[.pointer (some ⟨w.heap.size, 0, none⟩)]] (w.alloc (.cells #[.map (some b)] 51)) fun e w' =>
      ∃ v, e = .returned v ∧ Row w' 3 1 v m.length (m.map fun x => .int .i64 x.slot) ∧ Chg No w w' := by
  have hbl := h.lt
  have hsz : Maps.size (.map (m.map (ent VT.slot VT.val .i64)) : DataW Value) = m.length := by simp [Maps.size]
  have hseq : SeqGives Fence.wide 2 Try.prog 46 #[.pointer (some ⟨w.heap.size, 0, none⟩)] encZ (fun ss => ss.Perm (intKeys (.map (m.map (ent VT.slot VT.val .i64)) : DataW Value))) (Maps.size (.map (m.map (ent VT.slot VT.val .i64)) : DataW Value)) (w.alloc (.cells #[.map (some b)] 51)) :=
    AnyZI.keys_gives (ρ := keysI0_ren) { keysI0 with } Fence.wide _ trivial rfl (by omega) w.heap.size b m.length _ _ (by simp) (by simp) (h.own.alloc _)
  have cS := AnyZI.sorted_in sortedI Fence.wide 5 trivial trivial trivial trivial rfl (by omega) (sorts _) (enters_of Try.func45 (by kernel_rfl) rfl) 46 #[.pointer (some ⟨w.heap.size, 0, none⟩)] trivial (enters_of Try.func46 (by kernel_rfl) rfl) _ _ (by rw [hsz]; unfold maxLen; omega) (by rw [hsz]; omega) _ hseq
  change CallsIn _ _ Try.prog 32 _ _ _ at cS
  refine ((callsIn_wide (n := 5)).1 cS).mono ?_
  rintro e w' ⟨v, ss, rfl, hS, hrow, _, hb⟩
  rw [sorted_keys h.rise hS] at hrow
  have hl : ss.length = m.length := by have := hS.length_eq; rw [ent_keys] at this; simpa using this
  rw [hl] at hrow
  refine ⟨v, rfl, ?_, ((Chg.refl No w).alloc _).trans (Chg.ofBelow hb) (fun _ _ h => h)⟩
  have h2 := Row.ofOwns hrow
  rw [List.map_map] at h2
  exact h2

theorem uVotes : Try.prog.underlying 23 = some (.slice 47) := by kernel_rfl
theorem infoVote : (Try.prog.info? 47).map (fun i => (i.zero, i.size, i.bytes)) = some (some (.agg #[.int .i64 0, .int .i64 0, .string ByteArray.empty]), 3, 32) := by kernel_rfl
theorem uVoteMap : Try.prog.underlying 51 = some (.map 3 47) := by kernel_rfl
theorem uInt : Try.prog.underlying 3 = some (.int .i64) := by kernel_rfl
theorem uIntRow : Try.prog.underlying 37 = some (.slice 3) := by kernel_rfl

/-- the row of votes that a call made -/
def VRow (w : World) (v : Value) (l : List VT) : Prop := Row w 47 3 v l.length (vcells l)

structure ListInv (w : World) (m : List VT) (k : Nat) (v : Value) (wr : World) : Prop where
  le : k ≤ m.length
  chg : Chg No w wr
  row : Row wr 47 3 v k (vcells (m.take k))
  fresh : Fresh w v

theorem list_ok (b : Nat) (m : List VT) (w : World) (h : VMap w b m) (hm : m.length ≤ 1000000) (hs : ∀ x ∈ m, i64r x.slot) :
    Calls Try.prog 22 #[.map (some b)] w fun e w' => ∃ v, e = .returned v ∧ VRow w' v m ∧ Chg No w w' ∧ Fresh w v := by
  have Hk := hid (keys_ok b w)
  have Hs := hid (sorted_ok b m w h hm)
  have H := hid h
  have HsR := hid hs
  have Hm := hid hm
  clear h hs hm
  go_enter Try.func22, Try.ntmps22
  go_wp2_with fail
  refine Hk.out.mono ?_
  rintro e w' ⟨rfl, rfl⟩
  go_wp2_with fail
  refine Hs.out.mono ?_
  rintro e w1 ⟨v, rfl, hr, hch1⟩
  obtain ⟨va, vc, rfl, -, -, hcell⟩ := hr.cells
  have Hc := hid hcell
  have Hr := hid hr
  have Hch1 := hid hch1
  clear hcell hr hch1
  obtain ⟨i0, hi0, hz0, hz1, hz2⟩ := info_parts infoVote
  go_wp2_with fail
  go_loopw [3, 10] (fun v i wr => ∃ k : Nat, i = .int .i64 k ∧ ListInv w1 m k v wr) (fun _ i _ => m.length - (intOf i).toNat)
  case atStart => exact ⟨0, rfl, Nat.zero_le _, Chg.refl _ _, by simpa [vcells] using Row.nil _ _ _, fun j hj => by simp [Value.ownBlock] at hj⟩
  case round =>
    obtain ⟨k, rfl, hk, hch, hrow, hf⟩ := hrel
    obtain ⟨vb, vd, rfl, -, -, -⟩ := hrow.cells
    by_cases hlt : k < m.length
    · obtain ⟨x, hx⟩ : ∃ x, m[k]? = some x := ⟨_, List.getElem?_eq_getElem hlt⟩
      obtain ⟨g, off, rfl, hcx⟩ := Hc.out k (.int .i64 x.slot) (by simp [hx])
      have hcx2 := hch.cellN hcx
      have hM : VMap wr b m := (H.out.kept Hch1.out id).kept hch id
      have hxm := List.mem_of_getElem? hx
      have hlk := hM.look uInt uVoteMap (Try.zeroValue47 wr) (HsR.out x hxm).wf
      rw [(getK_mem VT.slot hM.rise).2 ⟨hxm, rfl⟩] at hlk
      simp only [Option.map_some, Option.getD_some] at hlk
      have hrA := fun (W : World) (h : Chg No wr W) => hid (hrow.kept h (fun _ _ h => h))
      have hsA := fun (W : World) => hid (Src.ofSlice (P := Try.prog) (W.alloc (.cells x.cells.toArray 47)) (size := 3) uVotes ⟨W.heap.size, 0, none⟩ 1 1 x.cells rfl (fun j u hu => by rw [Addr.add_lit, (Blk.new W _ _).cellEq]; simpa using hu) x.oneCell)
      have Hrow := hid hrow
      have Hch := hid hch
      have Hf := hid hf
      have Hx := hid hx
      clear hrow hM hcx hx hch hf
      obtain ⟨xs, xb, xv⟩ := x
      simp only [VT.val] at hlk
      simp only [VT.cells] at hsA
      clear hxm
      simp only at hcx2
      have hwk : wrap64 ((k : Int) + 1) = (k : Int) + 1 := by have := Hm.out; unfold wrap64; omega
      have hcA : Chg No wr (wr.alloc (.cells #[.int .i64 xs, .int .i64 xb, .string xv] 47)) := (Chg.refl _ _).alloc _
      have HcA := hid hcA
      have HrA := hrA _ hcA
      have HsA := hsA wr
      clear hcA hrA hsA
      go_upto_region 5 with (fail)
      have hm : m.length ≤ 1000000 := Hm.out
      go_wp2_with (at_builtin; refine wpList_append_Row rfl _ _ _ _ rfl 47 i0 _ 3 32 uVotes hi0 hz0 hz1 hz2 rfl (.slice vb k vd) k _ rfl HrA.out (.slice (some ⟨wr.heap.size, 0, none⟩) 1 1) rfl 1 _ HsA.out (by unfold maxLen; omega) (by omega) ?_; intro a4 c4 w4 hr4 hch4 hwh4 _; have Hr4 := hid hr4; have Hch4 := hid hch4; have Hwh4 := hid hwh4; clear hr4 hch4 hwh4 hm)
      have hm := Hm.out
      have hC := Hch.out.same HcA.out
      refine ⟨⟨k + 1, by go_num, by omega, hC.fresh Hf.out Hch4.out, ?_, Hf.out.next' hC.size Hwh4.out⟩, by rw [hwk]; show m.length - ((k : Int) + 1).toNat < m.length - (k : Int).toNat; omega⟩
      have e := Hr4.out
      have e2 : vcells (m.take (k + 1)) = vcells (m.take k) ++ [.int .i64 xs, .int .i64 xb, .string xv] := by
        rw [List.take_add_one, Hx.out, vcells_append]; rfl
      rw [e2]
      exact e
    · have hkk : k = m.length := by omega
      have Hrow := hid hrow
      have Hch := hid hch
      have Hf := hid hf
      clear hrow hch hf
      go_wp2_with fail
      go_ret
      subst hkk
      refine ⟨.slice vb m.length vd, rfl, ?_, Hch1.out.same Hch.out, fun j hj => Nat.le_trans Hch1.out.size (Hf.out j hj)⟩
      have := Hrow.out
      rw [List.take_length] at this
      exact this
end Go.Proofs.Ytfmcfcjcmmlmfaa

/- Walks over ballot.Pick. -/
import Derived.Test.YtfmcfcjcmmlmfaaBallot4W
import Derived.Test.YtfmcfcjcmmlmfaaSameW
import Derived.Deep.DeepCutAuto
namespace Go.Proofs.Ytfmcfcjcmmlmfaa
open Go Go.RowKit Go.Maps
set_option linter.unusedVariables false

/-- lists of votes that can be read -/
def VVSeen (w : World) (v : Value) (ll : List (List VT)) : Prop :=
  ∃ a c, v = .slice a ll.length c ∧ ll.length ≤ 1000000 ∧ ∀ k l, ll[k]? = some l → ∃ g off u, a = some ⟨g, off, none⟩ ∧ w.cell? ⟨g, off + k, none⟩ = some u ∧ VSeen w u l

def pickStep (m : List VT) (x : VT) : List VT :=
  match getK VT.slot m x.slot with
  | none => putK VT.slot x m
  | some o => if o.b < x.b then putK VT.slot x m else m
def pickF (l : List VT) : List VT := l.foldl pickStep []
theorem pickF_snoc (l : List VT) (x : VT) : pickF (l ++ [x]) = pickStep (pickF l) x := by simp [pickF]
theorem pickStep_len (m : List VT) (x : VT) : (pickStep m x).length ≤ m.length + 1 := by
  unfold pickStep
  split
  · exact putK_len x m
  · split
    · exact putK_len x m
    · omega
theorem pickF_len (l : List VT) : (pickF l).length ≤ l.length := by
  suffices h : ∀ (l m : List VT), (l.foldl pickStep m).length ≤ m.length + l.length by simpa [pickF] using h l []
  intro l
  induction l with
  | nil => intro m; simp
  | cons x r ih => intro m; have := ih (pickStep m x); have := pickStep_len m x; simp only [List.foldl_cons, List.length_cons]; omega
theorem pickStep_mem (m : List VT) (x y : VT) (h : y ∈ pickStep m x) : y = x ∨ y ∈ m := by
  unfold pickStep at h
  split at h
  · exact ((mem_putK VT.slot x y m).1 h).imp id (fun h => h.1)
  · split at h
    · exact ((mem_putK VT.slot x y m).1 h).imp id (fun h => h.1)
    · exact .inr h
theorem pickF_mem (l : List VT) (y : VT) (h : y ∈ pickF l) : y ∈ l := by
  suffices hh : ∀ (l m : List VT), y ∈ l.foldl pickStep m → y ∈ m ∨ y ∈ l by
    rcases hh l [] h with h | h
    · cases h
    · exact h
  intro l
  induction l with
  | nil => intro m h; exact .inl h
  | cons x r ih =>
    intro m h
    rcases ih _ h with h | h
    · rcases pickStep_mem m x y h with rfl | h
      · exact .inr (by simp)
      · exact .inl h
    · exact .inr (by simp [h])

structure PickInv (w1 : World) (mb : Nat) (m : List VT) (wr : World) : Prop where
  map : VMap wr mb m
  chg : Chg (One mb) w1 wr

set_option maxRecDepth 100000 in
set_option maxHeartbeats 2000000 in
theorem pick_ok (w : World) (v : Value) (ll : List (List VT)) (hv : VVSeen w v ll) (hn : ll.flatten.length ≤ 1000000) (hs : ∀ x ∈ ll.flatten, i64r x.slot) :
    Calls Try.prog 8 #[v] w fun e w' => ∃ u, e = .returned u ∧ VRow w' u (pickF ll.flatten) ∧ Chg No w w' ∧ Fresh w u := by
  obtain ⟨a, c, rfl, hll, hc⟩ := hv
  have Hc := hid hc
  have Hn := hid hn
  have Hs := hid hs
  have Hll := hid hll
  have hl := fun (W : World) (mb : Nat) (m : List VT) (hM : VMap W mb m) (h1 : m.length ≤ 1000000) (h2 : ∀ x ∈ m, i64r x.slot) => hid (list_ok mb m W hM h1 h2)
  clear hc hn hs hll
  have hmm := @run_makeMap Try.prog
  go_enter Try.func8, Try.ntmps8
  go_wp2_with fail
  have hM : VMap (w.alloc (.map #[] 0)) w.heap.size [] := IMap.made w
  have hcA : Chg No w (w.alloc (.map #[] 0)) := (Chg.refl _ _).alloc _
  have HM := hid hM
  have HcA := hid hcA
  clear hM hcA
  generalize (w.alloc (.map #[] 0)) = w1 at *
  generalize hmb : w.heap.size = mb at *
  have Hmb := hid hmb
  have hback : ∀ wr, Chg (One mb) w1 wr → Chg No w wr := fun wr h => HcA.out.trans h (fun i hi he => by have : i = mb := he; omega)
  have Hback := hid hback
  clear hmb hback
  go_loopw [13] (fun v wr => ∃ j : Nat, v = .int .i64 j ∧ j ≤ ll.length ∧ PickInv w1 mb (pickF (ll.take j).flatten) wr) (fun v _ => ll.length - (intOf v).toNat)
  case atStart => exact ⟨0, rfl, Nat.zero_le _, ⟨by simpa [pickF] using HM.out, .refl _ _⟩⟩
  case round =>
    obtain ⟨j, rfl, hj, hinv⟩ := hrel
    by_cases hlt : j < ll.length
    · obtain ⟨l, hl1⟩ : ∃ l, ll[j]? = some l := ⟨_, List.getElem?_eq_getElem hlt⟩
      obtain ⟨g, off, u, rfl, cu, hu⟩ := Hc.out j l hl1
      obtain ⟨ua, uc, rfl, hul, huc⟩ := hu
      have cu2 := (Hback.out _ hinv.chg).cellN cu
      have Hinv := hid hinv
      have Huc := hid huc
      have Hl1 := hid hl1
      have hwj : wrap64 ((j : Int) + 1) = (j : Int) + 1 := by have := Hll.out; unfold wrap64; omega
      clear hinv huc hl1 cu
      go_upto_region 6 with (fail)
      go_loopw [19] (fun v wq => ∃ k : Nat, v = .int .i64 k ∧ k ≤ l.length ∧ PickInv w1 mb (pickF ((ll.take j).flatten ++ l.take k)) wq) (fun v _ => l.length - (intOf v).toNat)
      case atStart => exact ⟨0, rfl, Nat.zero_le _, ⟨by simpa using Hinv.out.map, Hinv.out.chg⟩⟩
      case round =>
        obtain ⟨k, rfl, hk, hinv⟩ := hrel
        have hwk : wrap64 ((k : Int) + 1) = (k : Int) + 1 := by unfold wrap64; omega
        by_cases hlk2 : k < l.length
        · obtain ⟨x, hx⟩ : ∃ x, l[k]? = some x := ⟨_, List.getElem?_eq_getElem hlk2⟩
          obtain ⟨gx, ox, rfl, x0, x1, x2⟩ := Huc.out k x hx
          replace x0 := (Hback.out _ hinv.chg).cellN x0
          replace x1 := (Hback.out _ hinv.chg).cellN x1
          replace x2 := (Hback.out _ hinv.chg).cellN x2
          have hxm : x ∈ ll.flatten := List.mem_flatten.2 ⟨l, List.mem_of_getElem? Hl1.out, List.mem_of_getElem? hx⟩
          have hxs := Hs.out x hxm
          have hml : (pickF ((ll.take j).flatten ++ l.take k)).length ≤ 1000000 := by
            refine Nat.le_trans (pickF_len _) (Nat.le_trans ?_ Hn.out)
            have h1 : (ll.take j).flatten ++ l = (ll.take (j + 1)).flatten := by rw [List.take_add_one, Hl1.out]; simp
            have h2 : (ll.take (j + 1)).flatten.length ≤ ll.flatten.length := by
              conv => rhs; rw [← List.take_append_drop (j + 1) ll, List.flatten_append, List.length_append]
              omega
            rw [← h1] at h2
            simp only [List.length_append, List.length_take] at h2 ⊢
            omega
          have hstep : pickF ((ll.take j).flatten ++ l.take (k + 1)) = pickStep (pickF ((ll.take j).flatten ++ l.take k)) x := by
            rw [List.take_add_one, hx, ← List.append_assoc]; exact pickF_snoc _ _
          have HI := hid hinv
          have Hx := hid hx
          have Hxs := hid hxs
          have Hml := hid hml
          have Hstep := hid hstep
          clear hinv hx hxm hxs hml hstep
          generalize hm : pickF ((ll.take j).flatten ++ l.take k) = m at *
          obtain ⟨xs, xb, xv⟩ := x
          simp only at x0 x1 x2
          go_upto_region 8 with (fail)
          have hB1 : Blk (wr.alloc (.cells #[.int .i64 xs, .int .i64 xb, .string xv] 47)) wr.heap.size #[.int .i64 xs, .int .i64 xb, .string xv] 47 := Blk.new _ _ _
          have hA1 : Chg No wr (wr.alloc (.cells #[.int .i64 xs, .int .i64 xb, .string xv] 47)) := (Chg.refl _ _).alloc _
          have HI1 : Hid (PickInv w1 mb m (wr.alloc (.cells #[.int .i64 xs, .int .i64 xb, .string xv] 47))) := hid ⟨IMap.kept HI.out.map hA1 id, HI.out.chg.same (hA1.mono (fun _ _ h => h.elim))⟩
          have hne : mb ≠ wr.heap.size := fun e => by have := IMap.lt HI.out.map; omega
          have Hne := hid hne
          clear hne x0 x1 x2 HI hA1
          generalize hW1 : (wr.alloc (.cells #[.int .i64 xs, .int .i64 xb, .string xv] 47)) = W1 at *
          clear hW1
          generalize wr.heap.size = xk at *
          have HB1 := hid hB1
          obtain ⟨x0, x1, x2, xf⟩ := hB1.c3
          clear hB1
          have hlk := IMap.look_ok HI1.out.map uInt uVoteMap (Try.zeroValue47 W1) Hxs.out.wf
          have hE : ((getK VT.slot m xs).map VT.val).getD (.agg #[.int .i64 0, .int .i64 0, .string ⟨#[]⟩]) = ((getK VT.slot m xs).getD VT.zero).val := by
            cases getK VT.slot m xs <;> rfl
          simp only at hlk
          rw [hE] at hlk
          have Hst : Hid (pickStep m ⟨xs, xb, xv⟩ = if (getK VT.slot m xs).isSome = true ∧ ¬ ((getK VT.slot m xs).getD VT.zero).b < xb then m else putK VT.slot ⟨xs, xb, xv⟩ m) := by
            refine hid ?_
            unfold pickStep
            simp only
            cases hg : getK VT.slot m xs with
            | none => simp
            | some o => by_cases h : o.b < xb <;> simp [h]
          clear hE
          generalize (getK VT.slot m xs).getD VT.zero = o at *
          generalize (getK VT.slot m xs).isSome = ok at *
          obtain ⟨os, ob, ov⟩ := o
          simp only [VT.val] at hlk
          simp only at Hst
          go_upto_region 9 with (fail)
          have hB2 : Blk (W1.alloc (.cells #[.int .i64 os, .int .i64 ob, .string ov] 47)) W1.heap.size #[.int .i64 os, .int .i64 ob, .string ov] 47 := Blk.new _ _ _
          have hA2 : Chg No W1 (W1.alloc (.cells #[.int .i64 os, .int .i64 ob, .string ov] 47)) := (Chg.refl _ _).alloc _
          have HI2 : Hid (PickInv w1 mb m (W1.alloc (.cells #[.int .i64 os, .int .i64 ob, .string ov] 47))) := hid ⟨IMap.kept HI1.out.map hA2 id, HI1.out.chg.same (hA2.mono (fun _ _ h => h.elim))⟩
          have HB12 := hid (HB1.out.kept hA2 id)
          clear x0 x1 x2 xf HI1 hA2 hlk HB1
          generalize hW2 : (W1.alloc (.cells #[.int .i64 os, .int .i64 ob, .string ov] 47)) = W2 at *
          clear hW2
          generalize W1.heap.size = ok2 at *
          obtain ⟨x0, x1, x2, xf⟩ := HB12.out.c3
          obtain ⟨o0, o1, o2, of⟩ := hB2.c3
          clear hB2
          obtain ⟨W3, hst, hM3, hch3⟩ := HI2.out.map.store (x := (⟨xs, xb, xv⟩ : VT)) uInt uVoteMap Hxs.out.wf (by have := Hml.out; unfold maxLen; omega)
          simp only [VT.val] at hst
          have HI3 : Hid (PickInv w1 mb (putK VT.slot ⟨xs, xb, xv⟩ m) W3) := hid ⟨hM3, HI2.out.chg.same hch3⟩
          clear hM3 hch3
          by_cases hcase : ok = true ∧ ¬ ob < xb
          · obtain ⟨rfl, hob⟩ := hcase
            have hpe : pickStep m ⟨xs, xb, xv⟩ = m := by rw [Hst.out, if_pos ⟨rfl, hob⟩]
            have HP := hid hpe
            clear hpe hst Hst
            go_wp2_with fail
            refine ⟨⟨k + 1, by go_num, by omega, ?_⟩, by first | (rw [hwk]; show l.length - ((k : Int) + 1).toNat < l.length - (k : Int).toNat; omega) | (show l.length - ((k : Int) + 1).toNat < l.length - (k : Int).toNat; omega)⟩
            rw [Hstep.out, HP.out]
            exact HI2.out
          · have hpe : pickStep m ⟨xs, xb, xv⟩ = putK VT.slot ⟨xs, xb, xv⟩ m := by rw [Hst.out, if_neg hcase]
            have HP := hid hpe
            have hor : ok = false ∨ (ok = true ∧ ob < xb) := by
              cases ok
              · exact .inl rfl
              · exact .inr ⟨rfl, by by_cases h : ob < xb; exact h; exact absurd ⟨rfl, h⟩ hcase⟩
            clear hpe Hst hcase
            rcases hor with rfl | ⟨rfl, hob⟩
            all_goals
              go_wp2_with fail
              refine ⟨⟨k + 1, by go_num, by omega, ?_⟩, by first | (rw [hwk]; show l.length - ((k : Int) + 1).toNat < l.length - (k : Int).toNat; omega) | (show l.length - ((k : Int) + 1).toNat < l.length - (k : Int).toNat; omega)⟩
              rw [Hstep.out, HP.out]
              exact HI3.out
        · have hkk : k = l.length := by omega
          have hcat : pickF ((ll.take j).flatten ++ l.take k) = pickF (ll.take (j + 1)).flatten := by
            rw [hkk, List.take_length, List.take_add_one, Hl1.out]; simp
          rw [hcat] at hinv
          have HI := hid hinv
          clear hinv hcat
          go_wp2_with fail
          exact ⟨⟨j + 1, by go_num, by omega, HI.out⟩, by first | (rw [hwj]; show ll.length - ((j : Int) + 1).toNat < ll.length - (j : Int).toNat; omega) | (show ll.length - ((j : Int) + 1).toNat < ll.length - (j : Int).toNat; omega)⟩
    · have hjj : j = ll.length := by omega
      rw [hjj, List.take_length] at hinv
      have HL := hl wr mb _ hinv.map (Nat.le_trans (pickF_len _) Hn.out) (fun x hx => Hs.out x (pickF_mem _ x hx))
      have HC := hid (Hback.out _ hinv.chg)
      clear hinv
      go_wp2_with fail
      refine HL.out.mono ?_
      rintro e w2 ⟨u, rfl, h1, h2, h3⟩
      have H1 := hid h1
      have H2 := hid h2
      have H3 := hid h3
      clear h1 h2 h3
      go_wp2_with fail
      go_ret
      exact ⟨u, rfl, H1.out, HC.out.same H2.out, fun jj hjj2 => Nat.le_trans HC.out.size (H3.out jj hjj2)⟩
end Go.Proofs.Ytfmcfcjcmmlmfaa

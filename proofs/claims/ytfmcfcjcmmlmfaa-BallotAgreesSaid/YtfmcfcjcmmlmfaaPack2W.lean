/- Walks over wire.Pack: a text's bytes; all values. -/
import Derived.Test.YtfmcfcjcmmlmfaaPackW
import Derived.Deep.RegionLaw
namespace Go.Proofs.Ytfmcfcjcmmlmfaa
set_option maxRecDepth 100000
open Go Go.RowKit
set_option linter.unusedVariables false

set_option maxRecDepth 100000 in
set_option maxHeartbeats 800000 in
theorem put_t (s : ByteArray) (hs : s.size ≤ 1000) (v : Value) (n : Nat) (xs : List Value) (w : World) (hrow : Row w 5 1 v n xs) (hn : n ≤ 4294960000) :
    Calls Try.prog 53 #[v, .agg #[.int .i64 4, .int .u64 0, .int .i64 0, .float .f64 0, .string s]] w (PutPost v n xs (4 :: (numB s.size ++ s.data.toList)) w) := by
  obtain ⟨W, hW, hch, hsz, hB⟩ := boxed5 w 91 (.int .i64 4) (.int .u64 0) (.int .i64 0) (.float .f64 0) (.string s)
  have HB := hid hB
  obtain ⟨c0, c1, c2, c3, c4, -⟩ := hB.c5
  have HW := hid hW
  obtain ⟨i0, hi0, hz0, hz1, hz2⟩ := info_parts infoU8
  obtain ⟨va, vc, rfl, -, -, -⟩ := hrow.cells
  have hrW := hrow.kept hch (fun _ _ h => h)
  obtain ⟨hr1, hs1, hfin⟩ := push_byte (x := .int .u8 4) rfl hrW (hch.mono (T := fun j => Value.ownBlock (.slice va n vc) = some j) (fun _ _ h => h.elim)) (.inl rfl)
  have Hr1 := hid hr1
  have Hs1 := hid hs1
  have Hf := hid hfin
  have hvlt : ∀ j, Value.ownBlock (.slice va n vc) = some j → j < w.heap.size := fun j hj => hrow.lt hj
  have Hv := hid hvlt
  have HBA := hid (hB.alloc (.cells #[.int .u8 4] 5))
  have Hsz := hid hsz
  clear hW hB hrow hrW hr1 hs1 hfin hvlt hsz
  go_enter Try.func53, Try.ntmps53
  go_upto_region 1 with (fail)
  rw [← HW.out]
  go_upto_region 2 with (at_builtin; refine wpList_append_Row rfl _ _ _ _ rfl 5 i0 _ 1 1 uBytes hi0 hz0 hz1 hz2 rfl (.slice va n vc) n _ rfl Hr1.out (.slice (some ⟨W.heap.size, 0, none⟩) 1 1) rfl 1 _ Hs1.out (by unfold maxLen; omega) (by omega) ?_; intro a1 c1' w1 hr2 hch2 hwh2 _; have hB1 := HBA.out.kept hch2 (fun e => by have := Hv.out _ e; omega); have hff := Hf.out a1 c1' (n + 1) w1 hch2 hwh2; have Hr2 := hid hr2; have HB1 := hid hB1; have Hff := hid hff; have hne1 : Value.ownBlock (.slice a1 (n + 1) c1') ≠ some w.heap.size := (by intro h; rcases hwh2 with h2 | ⟨h2, _⟩; exact absurd (Hv.out _ (h2 ▸ h)) (Nat.lt_irrefl _); rw [h2] at h; have h5 := Hsz.out; simp at h; omega); have Hne := hid hne1; clear hr2 hch2 hwh2 hB1 hff hne1)
  obtain ⟨d0, d1, d2, d3, d4, -⟩ := HB1.out.c5
  clear c0 c1 c2 c3 c4
  have hN := number_any _ (n + 1) _ s.size w1.drew Hr2.out.drew (by omega) (by omega)
  have HN := hid hN
  clear hN
  have hsl : s.size = s.data.toList.length := by rw [Array.length_toList]; rfl
  have Hsl := hid hsl
  clear hsl
  have hln := numB_len s.size
  have hwr : IntKind.u64.wrap (s.size : Int) = (s.size : Int) := IntWalk.u64_in _ (by omega)
  go_wp2_with fail
  go_region_law (first | ((with_reducible refine step_append_Row (o := ⟨some 60, _, _, _, _, _⟩) rfl _ _ _ _ rfl 5 i0 _ 1 1 uBytes hi0 hz0 hz1 hz2 ?_ (.slice a3 (n + 1 + (numB s.size).length) c3') (n + 1 + (numB s.size).length) _ ?_ Hr3.out (.string s) ?_ s.size _ (Src.ofString _ uString s) ?_ ?_ ?_); rfl; rfl; rfl; (unfold maxLen; omega); omega; intro a4 c4' w4 hr4 hch4 hwh4 _) | (go_simp; go_at_call 66; (with_reducible refine HN.out.mono ?_); rintro e w3 ⟨a3, c3', rfl, hr3, hch3, hwh3⟩; have Hr3 := hid hr3; have Hw3 := hid hwh3; have f4 : w3.cell? ⟨w.heap.size, 4, none⟩ = some (.string s) := (hch3.cell (p := ⟨w.heap.size, 4, none⟩) (Blk.lt HB1.out) Hne.out).trans d4; clear hr3 hwh3))
  all_goals go_wp2_with fail
  all_goals go_ret
  all_goals
    have e : xs ++ [Value.int .u8 4] ++ bvs (numB s.size) ++ byteCells s = xs ++ bvs (4 :: (numB s.size ++ s.data.toList)) := by rw [byteCells_bvs]; simp [bvs]; rfl
    have en : n + 1 + (numB s.size).length + s.size = n + (4 :: (numB s.size ++ s.data.toList)).length := by have := Hsl.out; simp at this ⊢; omega
    unfold PutPost
    rw [e] at hr4
    rw [← en]
    refine ⟨a4, c4', rfl, hr4, ?_, ?_⟩
    · refine Chg.trans (T := fun j => Value.ownBlock (.slice a3 (n + 1 + (numB s.size).length) c3') = some j) (Hff.out.1.trans hch3.ofDrew (fun j hj h => ?_)) hch4 (fun j hj h => ?_)
      · rcases Hff.out.2 with h2 | ⟨j2, h2, h3⟩
        · exact h2 ▸ h
        · rw [h2] at h; cases h; omega
      · have hs1 := Hff.out.1.size
        rcases Hw3.out with h4 | ⟨j4, h4, h5⟩
        · rw [h4] at h
          rcases Hff.out.2 with h2 | ⟨j2, h2, h3⟩
          · exact h2 ▸ h
          · rw [h2] at h; cases h; omega
        · rw [h4] at h; cases h; have : w1.heap.size ≤ j := h5; omega
    · have hs1 := Hff.out.1.size
      have hs3 : w1.heap.size ≤ w3.heap.size := hch3.size
      rcases hwh4 with h | ⟨h, _⟩
      · rcases Hw3.out with h4 | ⟨j4, h4, h5⟩
        · rcases Hff.out.2 with h2 | ⟨j2, h2, h3⟩
          · exact .inl ((h.trans h4).trans h2)
          · exact .inr ⟨j2, (h.trans h4).trans h2, h3⟩
        · exact .inr ⟨j4, h.trans h4, Nat.le_trans hs1 h5⟩
      · exact .inr ⟨_, h, Nat.le_trans hs1 hs3⟩

theorem put_ok (x : WV) (h : x.Ok) (v : Value) (n : Nat) (xs : List Value) (w : World) (hrow : Row w 5 1 v n xs) (hn : n ≤ 4294960000) :
    Calls Try.prog 53 #[v, .agg x.cells.toArray] w (PutPost v n xs (putB x) w) := by
  obtain ⟨k, u, i, s⟩ := x
  rcases h with ⟨h1, h2, h3, h4⟩ | ⟨h1, h2, h3, h3', h4⟩ | ⟨h1, h2, h3, h4⟩ <;> simp only at h1 h2 h3 h4
  · subst h1; subst h3; subst h4; exact put_u u h2 v n xs w hrow hn
  · subst h1; subst h2; subst h4; exact put_i i h3 h3' v n xs w hrow hn
  · subst h1; subst h2; subst h3; exact put_t s h4 v n xs w hrow hn

def packB (l : List WV) : List UInt8 := l.flatMap putB
theorem packB_snoc (l : List WV) (v : WV) : packB (l ++ [v]) = packB l ++ putB v := by simp [packB]
theorem putB_len (v : WV) (h : v.Ok) : (putB v).length ≤ 1011 := by
  have h1 := numB_len v.u; have h2 := numB_len (zig v.i); have h3 := numB_len v.s.size
  have h4 := h.text
  have h5 : v.s.data.toList.length = v.s.size := by rw [Array.length_toList]; rfl
  unfold putB
  split
  · simp; omega
  · split
    · simp; omega
    · simp at h5 ⊢; omega
theorem packB_len : ∀ (l : List WV), (∀ v ∈ l, v.Ok) → (packB l).length ≤ l.length * 1011
  | [], _ => by simp [packB]
  | v :: r, h => by
    have h1 := putB_len v (h v (by simp))
    have h2 := packB_len r (fun x hx => h x (by simp [hx]))
    simp [packB] at h2 ⊢; omega

@[go_sem] theorem run_store_float {P : Program} {w : World} {a : Addr} {m : Mode} (k : FloatKind) (n : Nat) : (store a (.float k n) m).run P w = stored P w a (.float k n) m := run_store P w a _ m rfl

/-- the cells of a list of values -/
def wvCells (l : List WV) : List Value := l.flatMap WV.cells

theorem wvCells_at (l : List WV) (k : Nat) (v : WV) (h : l[k]? = some v) : ∀ j, j < 5 → (wvCells l)[k * 5 + j]? = v.cells[j]? := by
  induction l generalizing k with
  | nil => simp at h
  | cons x r ih =>
    intro j hj
    have hx : x.cells.length = 5 := rfl
    cases k with
    | zero =>
      simp at h; subst h
      simp only [wvCells, List.flatMap_cons, Nat.zero_mul, Nat.zero_add]
      rw [List.getElem?_append_left (by omega)]
    | succ k =>
      simp at h
      simp only [wvCells, List.flatMap_cons]
      rw [List.getElem?_append_right (by omega), hx, show (k + 1) * 5 + j - 5 = k * 5 + j by omega]
      exact ih k h j hj

def PackInv (w0 : World) (l : List WV) (k : Nat) (v : Value) (w : World) : Prop :=
  k ≤ l.length ∧ Chg No w0 w ∧ Row w 5 1 v (packB (l.take k)).length (bvs (packB (l.take k))) ∧ Fresh w0 v

set_option maxRecDepth 100000 in
set_option maxHeartbeats 1000000 in
theorem pack_ok (g off c : Nat) (l : List WV) (hok : ∀ v ∈ l, v.Ok) (hn : l.length ≤ 1000) (w : World) (hc : ∀ j u, (wvCells l)[j]? = some u → w.cell? ⟨g, off + j, none⟩ = some u) :
    Calls Try.prog 40 #[.slice (some ⟨g, off, none⟩) l.length c] w fun e w' => ∃ v, e = .returned (.tuple #[v, .int .i64 0]) ∧ Row w' 5 1 v (packB l).length (bvs (packB l)) ∧ Chg No w w' ∧ Fresh w v := by
  have Hc := hid hc
  have Hok := hid hok
  clear hc hok
  have hnI : ¬ (1000 : Int) < l.length := by omega
  go_enter Try.func40, Try.ntmps40
  go_wp2_with fail
  go_loopw [4, 13] (fun v i wr => ∃ k : Nat, i = .int .i64 k ∧ PackInv w l k v wr) (fun _ i _ => l.length - (intOf i).toNat)
  case atStart => exact ⟨0, rfl, Nat.zero_le _, Chg.refl _ _, by simpa [packB, bvs] using Row.nil _ _ _, fun j hj => by simp [Value.ownBlock] at hj⟩
  case round =>
    obtain ⟨k, rfl, hk, hch, hr, hf⟩ := hrel
    obtain ⟨va, vc, rfl, -, -, -⟩ := hr.cells
    by_cases hlt : k < l.length
    · obtain ⟨v, hv⟩ : ∃ v, l[k]? = some v := ⟨_, List.getElem?_eq_getElem hlt⟩
      have hvo := Hok.out v (List.mem_of_getElem? hv)
      have hcs := wvCells_at l k v hv
      have hpl := packB_len (l.take k) (fun x hx => Hok.out x (List.mem_of_mem_take hx))
      have htl : (l.take k).length ≤ 1000 := by rw [List.length_take]; omega
      have hval := fun W => hid (valid_ok v hvo W)
      have hput := fun n (hn : n ≤ 4294960000) xs W (hr : Row W 5 1 (.slice va n vc) n xs) => hid (put_ok v hvo (.slice va n vc) n xs W hr hn)
      have hsn : packB (l.take (k + 1)) = packB (l.take k) ++ putB v := by
        rw [List.take_succ_eq_append_getElem hlt, packB_snoc]; congr 2
        rw [List.getElem?_eq_getElem hlt] at hv; exact Option.some.inj hv
      have Hsn := hid hsn
      obtain ⟨vk, vu, vi, vs⟩ := v
      have e0 := hch.cellN (Hc.out (k * 5 + 0) _ (by rw [hcs 0 (by omega)]; rfl))
      have e1 := hch.cellN (Hc.out (k * 5 + 1) _ (by rw [hcs 1 (by omega)]; rfl))
      have e2 := hch.cellN (Hc.out (k * 5 + 2) _ (by rw [hcs 2 (by omega)]; rfl))
      have e3 := hch.cellN (Hc.out (k * 5 + 3) _ (by rw [hcs 3 (by omega)]; rfl))
      have e4 := hch.cellN (Hc.out (k * 5 + 4) _ (by rw [hcs 4 (by omega)]; rfl))
      simp only [Nat.add_zero, ← Nat.add_assoc] at e0 e1 e2 e3 e4
      have Hr := hid hr
      clear hcs hsn hv hr
      unfold WV.cells at hval hput
      simp only at hval hput
      go_wp2_with fail
      refine (hval _).out.mono ?_
      rintro e w1 ⟨rfl, hch1⟩
      obtain ⟨f0, f1, f2, f3, f4, -⟩ := ((Blk.new wr #[.int .i64 vk, .int .u64 vu, .int .i64 vi, .float .f64 0, .string vs] 91).kept hch1 id).c5
      have hC1 : Chg No wr w1 := ((Chg.refl No wr).alloc _).same hch1
      have hr1 := Hr.out.kept hC1 (fun _ _ h => h)
      have Hr1 := hid hr1
      clear hr1
      go_wp2_with fail
      refine (hput _ (by omega) _ w1 Hr1.out).out.mono ?_
      rintro e w2 ⟨a2, c2, rfl, hr2, hch2, hwh2⟩
      have Hr2 := hid hr2
      have Hw2 := hid hwh2
      clear hr2 hwh2
      go_wp2_with fail
      have hC := hch.same hC1
      have el : (packB (l.take (k + 1))).length = (packB (l.take k)).length + (putB ⟨vk, vu, vi, vs⟩).length := by rw [Hsn.out, List.length_append]
      refine ⟨⟨k + 1, by go_num, by omega, hC.fresh hf hch2, ?_, hf.next hC.size Hw2.out⟩, by simp [intOf]; omega⟩
      rw [el, Hsn.out, bvs_append]
      exact Hr2.out
    · have hkk : k = l.length := by omega
      have Hr := hid hr
      clear hr
      go_wp2_with fail
      go_ret2
      subst hkk
      refine ⟨.slice va (packB (l.take l.length)).length vc, rfl, ?_, hch, hf⟩
      have := Hr.out
      simpa only [List.take_length] using this
end Go.Proofs.Ytfmcfcjcmmlmfaa

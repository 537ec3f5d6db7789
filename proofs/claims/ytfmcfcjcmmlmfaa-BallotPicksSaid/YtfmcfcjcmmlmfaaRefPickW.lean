/- Walk over the document's pick. -/
import Derived.Test.YtfmcfcjcmmlmfaaRefPickP
import Derived.Deep.RegionHeld3
import Derived.Deep.DrawnRows
namespace Go.Proofs.Ytfmcfcjcmmlmfaa
open Go Go.RowKit Go.Maps
set_option linter.unusedVariables false

theorem vcells_one' (l : List VT) : ∀ u ∈ vcells l, u.oneCell' = true := by
  intro u hu
  obtain ⟨x, _, hx⟩ := List.mem_flatMap.1 hu
  exact x.oneCell u hx
theorem VSeen.src {w : World} {v : Value} {l : List VT} (h : VSeen w v l) : Src Try.prog 3 23 v l.length (vcells l) w := by
  obtain ⟨a, c, rfl, -, hc⟩ := h
  cases l with
  | nil =>
    cases a with
    | none => exact Src.ofNil w uVotes c
    | some a => exact Src.ofSlice w uVotes a 0 c [] rfl (fun j u hu => by simp at hu) (fun u hu => by cases hu)
  | cons y r =>
    obtain ⟨g, off, rfl, -⟩ := hc 0 y rfl
    refine Src.ofSlice w uVotes ⟨g, off, none⟩ _ c (vcells (y :: r)) (vcells_length _) (fun j u hu => ?_) (vcells_one' _)
    rw [Addr.add_lit]
    have hj := (List.getElem?_eq_some_iff.1 hu).1
    rw [vcells_length] at hj
    have hk : j / 3 < (y :: r).length := by omega
    have hx := List.getElem?_eq_getElem hk
    have hv := vcells_at _ _ _ hx (j % 3) (by omega)
    rw [show j / 3 * 3 + j % 3 = j by omega, hu] at hv
    obtain ⟨g2, off2, e, h0, h1, h2⟩ := hc _ _ hx
    cases e
    rcases (show j % 3 = 0 ∨ j % 3 = 1 ∨ j % 3 = 2 by omega) with h | h | h
    · rw [h] at hv; cases hv; rw [show off + j = off + j / 3 * 3 by omega]; exact h0
    · rw [h] at hv; cases hv; rw [show off + j = off + j / 3 * 3 + 1 by omega]; exact h1
    · rw [h] at hv; cases hv; rw [show off + j = off + j / 3 * 3 + 2 by omega]; exact h2

theorem Row.head {w : World} {e : TypeId} {size n c : Nat} {a : Option Addr} {xs : List Value} (h : Row w e size (.slice a n c) n xs) (k : Nat) (hk : k ≤ n) : Row w e size (.slice a k c) k (xs.take (k * size)) := by
  have hx := h.1
  have hm := Nat.mul_le_mul_right size hk
  refine ⟨by rw [List.length_take]; omega, ?_⟩
  rcases h.2 with ⟨he, hn⟩ | ⟨g, off, cap, cur, he, hb, h1, h2, h3, h4⟩
  · have hk0 : k = 0 := by omega
    subst hk0
    cases he
    exact .inl ⟨rfl, rfl⟩
  · cases he
    refine .inr ⟨g, off, c, cur, rfl, hb, by omega, h2, h3, fun j u hu => h4 j u ?_⟩
    rw [List.getElem?_take] at hu
    split at hu
    · exact hu
    · cases hu
theorem Row.tail {P : Program} {t : TypeId} {w : World} {e : TypeId} {size n c : Nat} {a : Option Addr} {xs : List Value} (h : Row w e size (.slice a n c) n xs) (ht : P.underlying t = some (.slice e)) (hs : (P.info? e).map (·.size) = some size) (k : Nat) (hk : k ≤ n) :
    ∃ a2 c2, (∀ W, (Instr.slice t (.slice a n c) (some (.int .i64 k)) none none).run P W = .ok (.slice a2 (n - k) c2) W) ∧ Row w e size (.slice a2 (n - k) c2) (n - k) (xs.drop (k * size)) := by
  have hx := h.1
  have hl : (xs.drop (k * size)).length = (n - k) * size := by rw [List.length_drop, hx, Nat.sub_mul]
  rcases h.2 with ⟨he, hn⟩ | ⟨g, off, cap, cur, he, hb, h1, h2, h3, h4⟩
  · have hk0 : k = 0 := by omega
    subst hk0
    cases he
    exact ⟨none, 0, fun W => run_slice_l_end ht hs none 0 0 0 (by omega) rfl 0 rfl W, hl, .inl ⟨rfl, rfl⟩⟩
  · cases he
    by_cases hc : c = k
    · have hnk : n = k := by omega
      subst hnk
      refine ⟨_, 0, fun W => run_slice_l_end ht hs _ n c n (by omega) hc n rfl W, hl, .inr ⟨g, off, 0, cur, rfl, hb, by omega, Nat.zero_le _, by omega, fun j u hu => ?_⟩⟩
      have := (List.getElem?_eq_some_iff.1 hu).1
      rw [hl] at this; simp at this
    · have h5 : (c - k) * size = c * size - k * size := Nat.sub_mul _ _ _
      have h6 := Nat.mul_le_mul_right size (show k ≤ c by omega)
      refine ⟨_, c - k, fun W => run_slice_l ht hs g off n c k hk hc k rfl W, hl, .inr ⟨g, off + k * size, c - k, cur, rfl, hb, by omega, by omega, by omega, fun j u hu => ?_⟩⟩
      rw [List.getElem?_drop] at hu
      rw [Nat.add_assoc]
      exact h4 _ _ hu
theorem sizeVote : (Try.prog.info? 47).map (·.size) = some 3 := by kernel_rfl
theorem Row.lit0 {w : World} {e : TypeId} {size g : Nat} {cs : Array Value} (h : Blk w g cs e) : Row w e size (.slice (some ⟨g, 0, none⟩) 0 0) 0 [] :=
  Row.made h 0 0 [] (by simp) (Nat.le_refl _) (Nat.zero_le _) (by omega) (fun j u hu => by simp at hu)
theorem Blk.place {w : World} {g g' : Nat} {cs : Array Value} {e : TypeId} (h : Blk w g cs e) (hg : g = g') : Blk w g' cs e := hg ▸ h
theorem Blk.src1 {P : Program} {w : World} {g : Nat} {t e : TypeId} {a b c : Value} (h : Blk w g #[a, b, c] e) (ht : P.underlying t = some (.slice e)) (h1 : ∀ u ∈ [a, b, c], u.oneCell' = true) : Src P 3 t (.slice (some ⟨g, 0, none⟩) 1 1) 1 [a, b, c] w :=
  Src.ofSlice w ht ⟨g, 0, none⟩ 1 1 [a, b, c] rfl (fun j u hu => by rw [Addr.add_lit, h.cellEq]; simpa using hu) h1
theorem drop_vcells (l : List VT) (k : Nat) : (vcells l).drop (k * 3) = vcells (l.drop k) := by
  have h : vcells l = vcells (l.take k) ++ vcells (l.drop k) := by rw [← vcells_append, List.take_append_drop]
  by_cases hk : k ≤ l.length
  · rw [h, List.drop_append, vcells_length, List.length_take, Nat.min_eq_left hk, Nat.sub_self, List.drop_zero, List.drop_eq_nil_of_le (by rw [vcells_length, List.length_take]; omega), List.nil_append]
  · rw [List.drop_eq_nil_of_le (by rw [vcells_length]; omega), List.drop_eq_nil_of_le (by omega)]; rfl
theorem take_vcells (l : List VT) (k : Nat) : (vcells l).take (k * 3) = vcells (l.take k) := by
  have h : vcells l = vcells (l.take k) ++ vcells (l.drop k) := by rw [← vcells_append, List.take_append_drop]
  by_cases hk : k ≤ l.length
  · rw [h, List.take_append, vcells_length, List.length_take, Nat.min_eq_left hk, Nat.sub_self, List.take_zero, List.append_nil, List.take_of_length_le (by rw [vcells_length, List.length_take]; omega)]
  · rw [List.take_of_length_le (by rw [vcells_length]; omega), List.take_of_length_le (by omega)]
theorem best_step {all : List VT} {i k : Nat} {x y : VT} (hx : all[k]? = some x) (hy : all[i]? = some y) : BestTo all i (k + 1) ↔ (BestTo all i k ∧ ¬ Beats x y k i) := by
  constructor
  · intro h
    exact ⟨fun j a b hj => h j a b (by omega), h k x y (by omega) hx hy⟩
  · rintro ⟨h1, h2⟩ j a b hj ha hb
    by_cases e : j = k
    · subst e; rw [hx] at ha; cases ha; rw [hy] at hb; cases hb; exact h2
    · exact h1 j a b (by omega) ha hb

structure AllInv (w : World) (ll : List (List VT)) (i : Nat) (v : Value) (wr : World) : Prop where
  le : i ≤ ll.length
  chg : Chg No w wr
  row : VRow wr v (ll.take i).flatten
  fresh : Fresh w v
structure OutInv (w1 : World) (all : List VT) (i : Nat) (v : Value) (out : List VT) (wr : World) : Prop where
  le : i ≤ all.length
  chg : Chg No w1 wr
  row : VRow wr v out
  fresh : Fresh w1 v
  ref : RefInv all i out

set_option maxRecDepth 100000 in
set_option maxHeartbeats 4000000 in
theorem refpick_ok (w : World) (v : Value) (ll : List (List VT)) (hv : VVSeen w v ll) (hn : ll.flatten.length ≤ 1000000) :
    Calls Try.prog 10 #[v] w fun e w' => ∃ u, e = .returned u ∧ VRow w' u (pickF ll.flatten) ∧ Chg No w w' ∧ Fresh w u := by
  obtain ⟨a, c, rfl, hll, hc⟩ := hv
  have Hc := hid hc
  have Hn := hid hn
  have Hll := hid hll
  clear hc hn hll
  obtain ⟨i0, hi0, hz0, hz1, hz2⟩ := info_parts infoVote
  go_enter Try.func10, Try.ntmps10
  go_upto_region 3 with (fail)
  have hst : AllInv w ll 0 (.slice (some ⟨w.heap.size, 0, none⟩) 0 0) (w.alloc (.cells #[] 47)) :=
    ⟨Nat.zero_le _, (Chg.refl _ _).alloc _, Row.made (Blk.new w #[] 47) 0 0 [] rfl (Nat.le_refl _) (Nat.zero_le _) (Nat.le_refl _) (fun j u hu => by simp at hu),
      fun j hj => Nat.le_of_eq (by simpa [Value.ownBlock] using hj)⟩
  have Hst := hid hst
  clear hst
  go_loopw [3, 4] (fun v3 v4 wr => ∃ i : Nat, v4 = .int .i64 i ∧ AllInv w ll i v3 wr) (fun _ v4 _ => ll.length - (intOf v4).toNat)
  case atStart => exact ⟨0, rfl, Hst.out⟩
  case round =>
    obtain ⟨i, rfl, hinv⟩ := hrel
    obtain ⟨va, vc, rfl, -, -, -⟩ := hinv.row.cells
    by_cases hlt : i < ll.length
    · obtain ⟨l, hl⟩ : ∃ l, ll[i]? = some l := ⟨_, List.getElem?_eq_getElem hlt⟩
      obtain ⟨g, off, u, rfl, cu, hu⟩ := Hc.out i l hl
      have cu2 := hinv.chg.cellN cu
      have hus := (hu.kept hinv.chg).src
      have hfl : (ll.take (i + 1)).flatten = (ll.take i).flatten ++ l := by rw [List.take_add_one, hl]; simp
      have hlen : ((ll.take i).flatten).length + l.length ≤ 1000000 := by
        have h2 : (ll.take (i + 1)).flatten.length ≤ ll.flatten.length := by
          conv => rhs; rw [← List.take_append_drop (i + 1) ll, List.flatten_append, List.length_append]
          omega
        rw [hfl, List.length_append] at h2
        have := Hn.out
        omega
      have Hus := hid hus
      have Hinv := hid hinv
      have Hfl := hid hfl
      have Hlen := hid hlen
      have Hrow := hid hinv.row
      have hwi : wrap64 ((i : Int) + 1) = (i : Int) + 1 := by have := Hll.out; unfold wrap64; omega
      have hIi : (i : Int) < (ll.length : Int) := by omega
      clear hus hinv hfl hlen hu cu hl
      generalize hN : ((ll.take i).flatten).length = N at *
      have HN := hid hN
      clear hN
      go_upto_region 5 with (fail)
      have h1 := Hlen.out
      go_wp2_with (at_builtin; refine wpList_append_Row rfl _ _ _ _ rfl 47 i0 _ 3 32 uVotes hi0 hz0 hz1 hz2 rfl (.slice va N vc) N (vcells (ll.take i).flatten) rfl (by have := Hrow.out; unfold VRow at this; rw [HN.out] at this; exact this) u rfl l.length _ Hus.out (by unfold maxLen; omega) (by omega) ?_; intro a4 c4 w4 hr4 hch4 hwh4 _; have Hr4 := hid hr4; have Hch4 := hid hch4; have Hwh4 := hid hwh4; clear hr4 hch4 hwh4 h1)
      refine ⟨⟨i + 1, by go_num, by omega, Hinv.out.chg.fresh Hinv.out.fresh Hch4.out, ?_, Hinv.out.fresh.next' Hinv.out.chg.size Hwh4.out⟩, by first | (rw [hwi]; show ll.length - ((i : Int) + 1).toNat < ll.length - (i : Int).toNat; omega) | (show ll.length - ((i : Int) + 1).toNat < ll.length - (i : Int).toNat; omega)⟩
      unfold VRow
      rw [Hfl.out, List.length_append, HN.out, vcells_append]
      exact Hr4.out
    · have hi : i = ll.length := by have := hinv.le; omega
      subst hi
      have hch := hinv.chg
      have hfr := hinv.fresh
      have hrow := hinv.row
      simp only [List.take_length] at hrow hfr ⊢
      clear hinv
      have hseen := hrow.seen Hn.out
      generalize hall : ll.flatten = all at *
      have Hall := hid hall
      clear hall hrow
      have HSe := hid hseen
      have Hch := hid hch
      have Hfr := hid hfr
      clear hseen hch hfr
      go_upto_region 8 with (fail)
      have hst2 : OutInv wr all 0 (.slice (some ⟨wr.heap.size, 0, none⟩) 0 0) [] (wr.alloc (.cells #[] 47)) :=
        ⟨Nat.zero_le _, (Chg.refl _ _).alloc _, Row.made (Blk.new wr #[] 47) 0 0 [] rfl (Nat.le_refl _) (Nat.zero_le _) (Nat.le_refl _) (fun j u hu => by simp at hu),
          fun j hj => Nat.le_of_eq (by simpa [Value.ownBlock] using hj), RefInv.start all⟩
      have Hst2 := hid hst2
      clear hst2
      obtain ⟨_, _, he, -, hcs⟩ := HSe.out
      cases he
      have Hcs := hid hcs
      clear hcs
      generalize hnn : all.length = nn at *
      have Hnn := hid hnn
      clear hnn
      have HNb := Hn
      generalize hW1 : wr = w1 at *
      clear hW1
      go_loopw [5, 6] (fun v5 v6 wr => ∃ (i : Nat) (out : List VT), v6 = .int .i64 i ∧ OutInv w1 all i v5 out wr) (fun _ v6 _ => nn - (intOf v6).toNat)
      case atStart => exact ⟨0, [], rfl, Hst2.out⟩
      case round =>
        obtain ⟨i, out, rfl, hinv⟩ := hrel
        generalize hWo : wr = wo at *
        clear hWo
        by_cases hlt : i < nn
        · obtain ⟨y, hy⟩ : ∃ y, all[i]? = some y := ⟨_, List.getElem?_eq_getElem (by rw [Hnn.out]; exact hlt)⟩
          obtain ⟨g, off, rfl, y0, y1, y2⟩ := Hcs.out i y hy
          replace y0 := hinv.chg.cellN y0
          replace y1 := hinv.chg.cellN y1
          replace y2 := hinv.chg.cellN y2
          have Hinv := hid hinv
          have Hy := hid hy
          have hIi : (i : Int) < (nn : Int) := by omega
          have hwi : wrap64 ((i : Int) + 1) = (i : Int) + 1 := by have := HNb.out; unfold wrap64; omega
          clear hinv hy
          go_upto_region 12 with (fail)
          go_loopw [7, 8] (fun v7 v8 wq => ∃ (k : Nat) (bo : Bool), v8 = .int .i64 k ∧ k ≤ nn ∧ v7 = .bool bo ∧ (bo = true ↔ BestTo all i k) ∧ Chg No wo wq) (fun _ v8 _ => nn - (intOf v8).toNat)
          case atStart => exact ⟨0, true, rfl, Nat.zero_le _, rfl, ⟨fun _ k x y hk => by omega, fun _ => rfl⟩, .refl _ _⟩
          case round =>
            obtain ⟨k, bo, rfl, hk, rfl, hbo, hcq⟩ := hrel
            replace y0 := hcq.cellN y0
            replace y1 := hcq.cellN y1
            replace y2 := hcq.cellN y2
            have Hbo := hid hbo
            have Hcq := hid hcq
            clear hbo hcq
            by_cases hkl : k < nn
            · obtain ⟨x, hx⟩ : ∃ x, all[k]? = some x := ⟨_, List.getElem?_eq_getElem (by rw [Hnn.out]; exact hkl)⟩
              obtain ⟨_, _, hg, x0, x1, x2⟩ := Hcs.out k x hx
              cases hg
              replace x0 := (Hinv.out.chg.same Hcq.out).cellN x0
              replace x1 := (Hinv.out.chg.same Hcq.out).cellN x1
              have hst := best_step hx Hy.out
              have Hst3 := hid hst
              have hIk : (k : Int) < (nn : Int) := by omega
              have hwk : wrap64 ((k : Int) + 1) = (k : Int) + 1 := by have := HNb.out; unfold wrap64; omega
              clear x2 hst hx y2
              obtain ⟨xs, xb, xv⟩ := x
              obtain ⟨ys, yb, yv⟩ := y
              simp only at x0 x1 y0 y1
              go_upto_region 14 with (fail)
              go_cut [78] (fun v78 wx => v78 = .bool (decide (Beats ⟨xs, xb, xv⟩ ⟨ys, yb, yv⟩ k i)) ∧ Chg No wo wx)
              case first =>
                by_cases h1 : xs = ys
                · subst h1
                  by_cases h2 : yb < xb
                  · have hb : decide (Beats ⟨xs, xb, xv⟩ ⟨xs, yb, yv⟩ k i) = true := by simp [Beats]; omega
                    have HB := hid hb
                    clear hb
                    go_quiet (fail)
                    go_wp2_with fail
                    go_meet
                    exact ⟨by rw [HB.out], Hcq.out.drewN _⟩
                  · have q1 : decide (yb < xb) = false := by simp; omega
                    by_cases h3 : xb = yb
                    · subst h3
                      by_cases h4 : k < i
                      · have hb : decide (Beats ⟨xs, xb, xv⟩ ⟨xs, xb, yv⟩ k i) = true := by simp [Beats]; omega
                        have HB := hid hb
                        have hki : (k : Int) < (i : Int) := by omega
                        clear hb h2
                        go_quiet (fail)
                        go_wp2_with fail
                        go_meet
                        exact ⟨by rw [HB.out], Hcq.out.drewN _⟩
                      · have hb : decide (Beats ⟨xs, xb, xv⟩ ⟨xs, xb, yv⟩ k i) = false := by simp [Beats]; omega
                        have HB := hid hb
                        have q2 : decide ((k : Int) < (i : Int)) = false := by simp; omega
                        have q3 : decide (k < i) = false := by simp; omega
                        clear hb h2 h4
                        go_quiet (fail)
                        go_wp2_with fail
                        go_meet
                        exact ⟨by rw [HB.out], Hcq.out.drewN _⟩
                    · have hb : decide (Beats ⟨xs, xb, xv⟩ ⟨xs, yb, yv⟩ k i) = false := by simp [Beats]; omega
                      have HB := hid hb
                      have q2 : (xb == yb) = false := by simpa using h3
                      clear hb h2 h3
                      go_quiet (fail)
                      go_wp2_with fail
                      go_meet
                      exact ⟨by rw [HB.out], Hcq.out.drewN _⟩
                · have hb : decide (Beats ⟨xs, xb, xv⟩ ⟨ys, yb, yv⟩ k i) = false := by simp [Beats, h1]
                  have HB := hid hb
                  have q1 : (xs == ys) = false := by simpa using h1
                  clear hb h1
                  go_quiet (fail)
                  go_wp2_with fail
                  go_meet
                  exact ⟨by rw [HB.out], Hcq.out.drewN _⟩
              case rest =>
                obtain ⟨rfl, hcx⟩ := hcut
                have Hcx := hid hcx
                clear hcx
                by_cases hbt : Beats ⟨xs, xb, xv⟩ ⟨ys, yb, yv⟩ k i
                · have hd := decide_eq_true hbt
                  rw [hd]
                  have HB := hid hbt
                  clear hd hbt
                  go_wp2_with fail
                  exact ⟨⟨k + 1, false, by go_num, by omega, rfl, ⟨(fun h => absurd h (by simp)), (fun h => absurd HB.out (Hst3.out.1 h).2)⟩, Hcx.out⟩, by first | (rw [hwk]; show nn - ((k : Int) + 1).toNat < nn - (k : Int).toNat; omega) | (show nn - ((k : Int) + 1).toNat < nn - (k : Int).toNat; omega)⟩
                · have hd := decide_eq_false hbt
                  rw [hd]
                  have HB := hid hbt
                  clear hd hbt
                  go_wp2_with fail
                  exact ⟨⟨k + 1, bo, by go_num, by omega, rfl, ⟨fun h => Hst3.out.2 ⟨Hbo.out.1 h, HB.out⟩, fun h => Hbo.out.2 (Hst3.out.1 h).1⟩, Hcx.out⟩, by first | (rw [hwk]; show nn - ((k : Int) + 1).toNat < nn - (k : Int).toNat; omega) | (show nn - ((k : Int) + 1).toNat < nn - (k : Int).toNat; omega)⟩
            · have hkk : k = nn := by omega
              have hbest : bo = true ↔ Best all i := by unfold Best; rw [Hnn.out, ← hkk]; exact Hbo.out
              have HBest := hid hbest
              clear hbest
              cases bo with
              | false =>
                have href := Hinv.out.ref.skip (fun h => by have := HBest.out.2 h; cases this)
                have hinv2 : OutInv w1 all (i + 1) u5 out wr := ⟨by have := Hinv.out.le; rw [Hnn.out] at *; omega, Hinv.out.chg.same Hcq.out, Row.kept Hinv.out.row Hcq.out (fun _ _ h => h), Hinv.out.fresh, href⟩
                have Hinv2 := hid hinv2
                clear hinv2 href
                go_wp2_with fail
                exact ⟨⟨i + 1, out, by go_num, Hinv2.out⟩, by first | (rw [hwi]; show nn - ((i : Int) + 1).toNat < nn - (i : Int).toNat; omega) | (show nn - ((i : Int) + 1).toNat < nn - (i : Int).toNat; omega)⟩
              | true =>
                have hbs := HBest.out.1 rfl
                have href := Hinv.out.ref.put Hy.out hbs
                have hlo : out.length ≤ 1000000 := by have h1 := Hinv.out.ref.len; have h2 := HNb.out; omega
                have hrow5 := Row.kept Hinv.out.row Hcq.out (fun _ _ h => h)
                have hse5 : VSeen wr u5 out := VRow.seen hrow5 hlo
                have hpl := hid (place_ok wr u5 out y.slot hse5)
                obtain ⟨oa, oc, rfl, -, -, -⟩ := Row.cells hrow5
                have Href := hid href
                have Hrow5 := hid hrow5
                have Hlo := hid hlo
                have hwcq := Hinv.out.chg.same Hcq.out
                have Hwcq := hid hwcq
                clear hbs href hrow5 hlo hse5 hwcq
                obtain ⟨ys, yb, yv⟩ := y
                simp only at y0 y1 y2 hpl
                go_upto_region 17 with (fail)
                go_wp2_with fail
                refine hpl.out.mono ?_
                rintro e w5 ⟨rfl, hch5⟩
                replace y0 := hch5.cellN y0
                replace y1 := hch5.cellN y1
                replace y2 := hch5.cellN y2
                have Hch5 := hid hch5
                clear hch5
                go_upto_region 18 with (fail)
                generalize hWx : w5 = wx5 at *
                clear hWx
                have hpl2 : placeF out ys ≤ out.length := placeF_le out ys
                have hins : insAt out ⟨ys, yb, yv⟩ = out.take (placeF out ys) ++ ⟨ys, yb, yv⟩ :: out.drop (placeF out ys) := rfl
                have Hins := hid hins
                clear hins
                generalize placeF out ys = pl at *
                generalize thereF out ys = thb at *
                have hrow6 := Row.kept Hrow5.out Hch5.out (fun _ _ h => h)
                have hhead := Row.head hrow6 pl hpl2
                obtain ⟨ta, tc, htr, htail⟩ := Row.tail (P := Try.prog) hrow6 uVotes sizeVote pl hpl2
                have hhr : ∀ W, (Instr.slice 23 (.slice oa out.length oc) none (some (.int .i64 (pl : Int))) none).run Try.prog W = .ok (.slice oa pl oc) W := fun W => by
                  obtain ⟨_, _, he, hh, -⟩ := Row.cells hrow6
                  cases he
                  exact run_slice_h uVotes sizeVote oa _ _ pl (by omega) _ rfl W
                have hS : ∀ W, Chg No wx5 W → Chg No wx5 W ∧ W.cell? ⟨g, off + i * 3, none⟩ = some (.int .i64 ys) ∧ W.cell? ⟨g, off + i * 3 + 1, none⟩ = some (.int .i64 yb) ∧ W.cell? ⟨g, off + i * 3 + 2, none⟩ = some (.string yv) :=
                  fun W h => ⟨h, h.cellN y0, h.cellN y1, h.cellN y2⟩
                have HS := hid hS
                rw [take_vcells] at hhead
                rw [drop_vcells] at htail
                have Hhead := hid hhead
                have Htail := hid htail
                clear hS hhead htail hrow6
                have hle := Hlo.out
                generalize hol : out.length = ol at *
                have Hol := hid hol
                clear hol
                have hIi0 : (0 : Int) ≤ (i : Int) := by omega
                have hone : ∀ u ∈ [Value.int .i64 ys, .int .i64 yb, .string yv], u.oneCell' = true := by
                  intro u hu; simp at hu; rcases hu with rfl | rfl | rfl <;> rfl
                have Hone := hid hone
                clear hone
                go_region_held3 (fun w' => Chg No wx5 w' ∧ w'.cell? ⟨g, off + i * 3, none⟩ = some (.int .i64 ys) ∧ w'.cell? ⟨g, off + i * 3 + 1, none⟩ = some (.int .i64 yb) ∧ w'.cell? ⟨g, off + i * 3 + 2, none⟩ = some (.string yv))
                  (first
                    | exact HS.out _ (Chg.refl _ _).drew
                    | exact HS.out _ Hc6.out
                    | exact HS.out _ Hc5.out
                    | exact HS.out _ Hc4.out
                    | (obtain ⟨hcW, -⟩ : Chg No wx5 _ ∧ _ := by assumption
                       exact HS.out _ (Chg.alloc hcW _)))
                  (first
                    | ((with_reducible refine step_append_Row (o := ⟨some 94, _, _, _, _, _⟩) rfl _ _ _ _ rfl 47 i0 _ 3 32 uVotes hi0 hz0 hz1 hz2 ?_ (.slice (some ⟨wx5.heap.size, 0, none⟩) 0 0) 0 [] ?_ ?_ (.slice oa pl oc) ?_ pl (vcells (out.take pl)) ?_ ?_ ?_ ?_)
                       · rfl
                       · rfl
                       · first
                           | exact Row.lit0 (cs := #[]) (Blk.drew (Blk.new _ _ _))
                           | exact Row.lit0 (cs := #[]) (Blk.drew ((Blk.new _ _ _).alloc _))
                           | exact Row.lit0 (cs := #[]) (Blk.drew ((Blk.new _ _ _).place (by simp)))
                       · rfl
                       · (obtain ⟨hcW, -⟩ : Chg No wx5 _ ∧ _ := by assumption
                          exact Row.src uVotes (Row.kept Hhead.out hcW (fun _ _ h => h)) (vcells_one' _))
                       · (unfold maxLen; omega)
                       · omega
                       intro a4 c4 w4 hr4 hch4 hwh4 _
                       simp only [Nat.zero_add, List.nil_append] at hr4 hwh4
                       rw [Nat.zero_add pl]
                       obtain ⟨hcW, -⟩ : Chg No wx5 _ ∧ _ := by assumption
                       have hf3 : Fresh wx5 (.slice (some ⟨wx5.heap.size, 0, none⟩) 0 0) := fun j hj => by
                         rw [ownBlock_slice] at hj; cases hj; omega
                       have Hf4 := hid (hf3.next' hcW.size hwh4)
                       have Hc4 := hid (hcW.fresh hf3 hch4)
                       have Hr4 := hid hr4
                       have HE := hid (fun (k : Nat) (cs : Array Value) (hb : Blk _ k cs 47) (hk : ¬ Value.ownBlock (.slice (some ⟨wx5.heap.size, 0, none⟩) 0 0) = some k) => hb.kept hch4 hk)
                       clear hr4 hch4 hwh4 hf3 hcW)
                    | ((with_reducible refine step_append_Row (o := ⟨some 94, _, _, _, _, _⟩) rfl _ _ _ _ rfl 47 i0 _ 3 32 uVotes hi0 hz0 hz1 hz2 ?_ (.slice (some ⟨wx5.heap.size + 1, 0, none⟩) 0 0) 0 [] ?_ ?_ (.slice oa pl oc) ?_ pl (vcells (out.take pl)) ?_ ?_ ?_ ?_)
                       · rfl
                       · rfl
                       · first
                           | exact Row.lit0 (cs := #[]) (Blk.drew (Blk.new _ _ _))
                           | exact Row.lit0 (cs := #[]) (Blk.drew ((Blk.new _ _ _).alloc _))
                           | exact Row.lit0 (cs := #[]) (Blk.drew ((Blk.new _ _ _).place (by simp)))
                       · rfl
                       · (obtain ⟨hcW, -⟩ : Chg No wx5 _ ∧ _ := by assumption
                          exact Row.src uVotes (Row.kept Hhead.out hcW (fun _ _ h => h)) (vcells_one' _))
                       · (unfold maxLen; omega)
                       · omega
                       intro a4 c4 w4 hr4 hch4 hwh4 _
                       simp only [Nat.zero_add, List.nil_append] at hr4 hwh4
                       rw [Nat.zero_add pl]
                       obtain ⟨hcW, -⟩ : Chg No wx5 _ ∧ _ := by assumption
                       have hf3 : Fresh wx5 (.slice (some ⟨wx5.heap.size + 1, 0, none⟩) 0 0) := fun j hj => by
                         rw [ownBlock_slice] at hj; cases hj; omega
                       have Hf4 := hid (hf3.next' hcW.size hwh4)
                       have Hc4 := hid (hcW.fresh hf3 hch4)
                       have Hr4 := hid hr4
                       have HE := hid (fun (k : Nat) (cs : Array Value) (hb : Blk _ k cs 47) (hk : ¬ Value.ownBlock (.slice (some ⟨wx5.heap.size + 1, 0, none⟩) 0 0) = some k) => hb.kept hch4 hk)
                       clear hr4 hch4 hwh4 hf3 hcW)
                    | ((with_reducible refine step_append_Row (o := ⟨some 100, _, _, _, _, _⟩) rfl _ _ _ _ rfl 47 i0 _ 3 32 uVotes hi0 hz0 hz1 hz2 ?_ (.slice a4 pl c4) pl (vcells (out.take pl)) ?_ ?_ (.slice (some ⟨w4.heap.size, 0, none⟩) 1 1) ?_ 1 [.int .i64 ys, .int .i64 yb, .string yv] ?_ ?_ ?_ ?_)
                       · rfl
                       · rfl
                       · first
                           | exact Hr4.out
                           | exact Row.kept Hr4.out ((Chg.refl No _).alloc _) (fun _ _ h => h)
                       · rfl
                       · first
                           | exact Blk.src1 (Blk.new _ _ _) uVotes Hone.out
                           | exact Blk.src1 (HE.out _ _ (Blk.drew (Blk.new _ _ _)) (by simp [Value.ownBlock])) uVotes Hone.out
                           | exact Blk.src1 (HE.out _ _ (Blk.drew ((Blk.new _ _ _).alloc _)) (by simp [Value.ownBlock])) uVotes Hone.out
                           | exact Blk.src1 (HE.out _ _ (Blk.drew ((Blk.new _ _ _).place (by simp))) (by simp [Value.ownBlock])) uVotes Hone.out
                       · (unfold maxLen; omega)
                       · omega
                       intro a5 c5 w5 hr5 hch5 hwh5 _
                       obtain ⟨hcW, -⟩ : Chg No wx5 _ ∧ _ := by assumption
                       have Hf5 := hid (Hf4.out.next' hcW.size hwh5)
                       have Hc5 := hid (hcW.fresh Hf4.out hch5)
                       have Hr5 := hid hr5
                       clear hr5 hch5 hwh5 hcW)
                    | ((with_reducible refine step_append_Row (o := ⟨some 100, _, _, _, _, _⟩) rfl _ _ _ _ rfl 47 i0 _ 3 32 uVotes hi0 hz0 hz1 hz2 ?_ (.slice a4 pl c4) pl (vcells (out.take pl)) ?_ ?_ (.slice (some ⟨wx5.heap.size, 0, none⟩) 1 1) ?_ 1 [.int .i64 ys, .int .i64 yb, .string yv] ?_ ?_ ?_ ?_)
                       · rfl
                       · rfl
                       · first
                           | exact Hr4.out
                           | exact Row.kept Hr4.out ((Chg.refl No _).alloc _) (fun _ _ h => h)
                       · rfl
                       · first
                           | exact Blk.src1 (Blk.new _ _ _) uVotes Hone.out
                           | exact Blk.src1 (HE.out _ _ (Blk.drew (Blk.new _ _ _)) (by simp [Value.ownBlock])) uVotes Hone.out
                           | exact Blk.src1 (HE.out _ _ (Blk.drew ((Blk.new _ _ _).alloc _)) (by simp [Value.ownBlock])) uVotes Hone.out
                           | exact Blk.src1 (HE.out _ _ (Blk.drew ((Blk.new _ _ _).place (by simp))) (by simp [Value.ownBlock])) uVotes Hone.out
                       · (unfold maxLen; omega)
                       · omega
                       intro a5 c5 w5 hr5 hch5 hwh5 _
                       obtain ⟨hcW, -⟩ : Chg No wx5 _ ∧ _ := by assumption
                       have Hf5 := hid (Hf4.out.next' hcW.size hwh5)
                       have Hc5 := hid (hcW.fresh Hf4.out hch5)
                       have Hr5 := hid hr5
                       clear hr5 hch5 hwh5 hcW)
                    | ((with_reducible refine step_append_Row (o := ⟨some 100, _, _, _, _, _⟩) rfl _ _ _ _ rfl 47 i0 _ 3 32 uVotes hi0 hz0 hz1 hz2 ?_ (.slice a4 pl c4) pl (vcells (out.take pl)) ?_ ?_ (.slice (some ⟨wx5.heap.size + 1, 0, none⟩) 1 1) ?_ 1 [.int .i64 ys, .int .i64 yb, .string yv] ?_ ?_ ?_ ?_)
                       · rfl
                       · rfl
                       · first
                           | exact Hr4.out
                           | exact Row.kept Hr4.out ((Chg.refl No _).alloc _) (fun _ _ h => h)
                       · rfl
                       · first
                           | exact Blk.src1 (Blk.new _ _ _) uVotes Hone.out
                           | exact Blk.src1 (HE.out _ _ (Blk.drew (Blk.new _ _ _)) (by simp [Value.ownBlock])) uVotes Hone.out
                           | exact Blk.src1 (HE.out _ _ (Blk.drew ((Blk.new _ _ _).alloc _)) (by simp [Value.ownBlock])) uVotes Hone.out
                           | exact Blk.src1 (HE.out _ _ (Blk.drew ((Blk.new _ _ _).place (by simp))) (by simp [Value.ownBlock])) uVotes Hone.out
                       · (unfold maxLen; omega)
                       · omega
                       intro a5 c5 w5 hr5 hch5 hwh5 _
                       obtain ⟨hcW, -⟩ : Chg No wx5 _ ∧ _ := by assumption
                       have Hf5 := hid (Hf4.out.next' hcW.size hwh5)
                       have Hc5 := hid (hcW.fresh Hf4.out hch5)
                       have Hr5 := hid hr5
                       clear hr5 hch5 hwh5 hcW)
                    | ((with_reducible refine step_append_Row (o := ⟨some 104, _, _, _, _, _⟩) rfl _ _ _ _ rfl 47 i0 _ 3 32 uVotes hi0 hz0 hz1 hz2 ?_ (.slice a5 (pl + 1) c5) (pl + 1) _ ?_ Hr5.out (.slice ta (ol - pl) tc) ?_ (ol - pl) (vcells (out.drop pl)) ?_ ?_ ?_ ?_)
                       · rfl
                       · rfl
                       · rfl
                       · (obtain ⟨hcW, -⟩ : Chg No wx5 _ ∧ _ := by assumption
                          exact Row.src uVotes (Row.kept Htail.out hcW (fun _ _ h => h)) (vcells_one' _))
                       · (unfold maxLen; omega)
                       · omega
                       intro a6 c6 w6 hr6 hch6 hwh6 _
                       obtain ⟨hcW, -⟩ : Chg No wx5 _ ∧ _ := by assumption
                       have Hf6 := hid (Hf5.out.next' hcW.size hwh6)
                       have Hc6 := hid (hcW.fresh Hf5.out hch6)
                       have Hr6 := hid hr6
                       clear hr6 hch6 hwh6 hcW)
                    | fail)
                all_goals
                  have hrow7 : VRow w6 (.slice a6 (pl + 1 + (ol - pl)) c6) (insAt out ⟨ys, yb, yv⟩) := by
                    have h := Hr6.out
                    have e : vcells (insAt out ⟨ys, yb, yv⟩) = vcells (out.take pl) ++ [.int .i64 ys, .int .i64 yb, .string yv] ++ vcells (out.drop pl) := by
                      rw [Hins.out, vcells_append, List.append_assoc]; rfl
                    have e2 : (insAt out ⟨ys, yb, yv⟩).length = pl + 1 + (ol - pl) := by
                      have := Hol.out
                      rw [Hins.out]; simp; omega
                    unfold VRow
                    rw [e, e2]
                    exact h
                  have hchg7 := Hwcq.out.same (Hch5.out.same Hc6.out)
                  have hfr7 : Fresh w1 (.slice a6 (pl + 1 + (ol - pl)) c6) := fun jj hjj => Nat.le_trans (Hwcq.out.same Hch5.out).size (Hf6.out jj hjj)
                  have Hinv7 : Hid (OutInv w1 all (i + 1) (.slice a6 (pl + 1 + (ol - pl)) c6) (insAt out ⟨ys, yb, yv⟩) w6) := hid ⟨by have := Hnn.out; omega, hchg7, hrow7, hfr7, Href.out⟩
                  clear hrow7 hchg7 hfr7
                  go_wp2_with fail
                  exact ⟨⟨i + 1, _, by go_num, Hinv7.out⟩, by first | (rw [hwi]; show nn - ((i : Int) + 1).toNat < nn - (i : Int).toNat; omega) | (show nn - ((i : Int) + 1).toNat < nn - (i : Int).toNat; omega)⟩
        · have hii : i = nn := by have := hinv.le; rw [Hnn.out] at this; omega
          have hrow := hinv.row
          have href := hinv.ref
          rw [hii, ← Hnn.out] at href
          have hdone := href.done
          have HD := hid hdone
          have Hrow := hid hrow
          have Hcw := hid (Hch.out.same hinv.chg)
          have Hf5 := hid hinv.fresh
          clear hinv hrow href hdone
          go_wp2_with fail
          go_ret
          refine ⟨u5, rfl, ?_, Hcw.out, fun jj hjj => Nat.le_trans Hch.out.size (Hf5.out jj hjj)⟩
          rw [Hall.out, ← HD.out]
          exact Hrow.out
end Go.Proofs.Ytfmcfcjcmmlmfaa

/- Walks over the reference of ballot: Same. -/
import Derived.Test.YtfmcfcjcmmlmfaaVoteW
import Derived.BigQuiet
namespace Go.Proofs.Ytfmcfcjcmmlmfaa
open Go Go.RowKit Go.Maps
set_option linter.unusedVariables false

/-- votes that can be read -/
def VSeen (w : World) (v : Value) (l : List VT) : Prop :=
  ∃ a c, v = .slice a l.length c ∧ l.length ≤ 1000000 ∧ ∀ k x, l[k]? = some x → ∃ g off, a = some ⟨g, off, none⟩ ∧ w.cell? ⟨g, off + k * 3, none⟩ = some (.int .i64 x.slot) ∧ w.cell? ⟨g, off + k * 3 + 1, none⟩ = some (.int .i64 x.b) ∧ w.cell? ⟨g, off + k * 3 + 2, none⟩ = some (.string x.s)
theorem VSeen.kept {w w' : World} {v : Value} {l : List VT} (h : VSeen w v l) (c : Chg No w w') : VSeen w' v l := by
  obtain ⟨a, cp, rfl, hl, hc⟩ := h
  refine ⟨a, cp, rfl, hl, fun k x hx => ?_⟩
  obtain ⟨g, off, ha, h0, h1, h2⟩ := hc k x hx
  exact ⟨g, off, ha, c.cellN h0, c.cellN h1, c.cellN h2⟩
theorem VRow.seen {w : World} {v : Value} {l : List VT} (h : VRow w v l) (hl : l.length ≤ 1000000) : VSeen w v l := by
  obtain ⟨a, c, rfl, -, -, hc⟩ := Row.cells h
  refine ⟨a, c, rfl, hl, fun k x hx => ?_⟩
  obtain ⟨g, off, rfl, h0⟩ := hc (k * 3 + 0) _ (vcells_at l k x hx 0 (by omega))
  obtain ⟨_, _, e1, h1⟩ := hc (k * 3 + 1) _ (vcells_at l k x hx 1 (by omega))
  obtain ⟨_, _, e2, h2⟩ := hc (k * 3 + 2) _ (vcells_at l k x hx 2 (by omega))
  cases e1; cases e2
  exact ⟨g, off, rfl, h0, by rw [Nat.add_assoc]; exact h1, by rw [Nat.add_assoc]; exact h2⟩

theorem uVote : Try.prog.underlying 47 = Try.prog.underlying 47 := rfl

/-- a world that drew alone -/
def Drawn (w w' : World) : Prop := ∃ q, w' = w.drewN q
theorem Drawn.refl (w : World) : Drawn w w := ⟨0, rfl⟩
theorem Drawn.drewN {w w' : World} (h : Drawn w w') (n : Nat) : Drawn w (w'.drewN n) := by
  obtain ⟨q, rfl⟩ := h
  exact ⟨q + n, by rw [World.drewN_drewN]⟩
theorem Drawn.chg {w w' : World} (h : Drawn w w') : Chg No w w' := by
  obtain ⟨q, rfl⟩ := h
  exact (Chg.refl No w).drewN q

set_option maxHeartbeats 1000000 in
theorem same_ok (w : World) (va vb : Value) (la lb : List VT) (ha : VSeen w va la) (hb : VSeen w vb lb) :
    Calls Try.prog 9 #[va, vb] w fun e w' => e = .returned (.bool (decide (la = lb))) ∧ ∃ q, w' = w.drewN q := by
  obtain ⟨aa, ac, rfl, hal, hac⟩ := ha
  obtain ⟨ba, bc, rfl, hbl, hbc⟩ := hb
  have HA := hid hac
  have HB := hid hbc
  clear hac hbc
  go_enter Try.func9, Try.ntmps9
  by_cases hn : la.length = lb.length
  · have Hn := hid hn
    have Hbl := hid hbl
    have Hal := hid hal
    clear hn hbl hal
    have hn2 : ((lb.length : Int) == (la.length : Int)) = true := by rw [Hn.out]; simp
    rw [← Hn.out]
    generalize hL : la.length = L at *
    have HL := hid hL
    clear hL hn2
    go_wp2_with fail
    go_loopw [5] (fun v wr => ∃ k : Nat, v = .int .i64 k ∧ k ≤ L ∧ la.take k = lb.take k ∧ Drawn w wr) (fun v _ => L - (intOf v).toNat)
    case atStart => exact ⟨0, rfl, Nat.zero_le _, by simp, Drawn.refl w⟩
    case round =>
      obtain ⟨k, rfl, hk, ht, hdr⟩ := hrel
      have hch := hdr.chg
      have Hdr := hid hdr
      clear hdr
      by_cases hlt : k < L
      · obtain ⟨x, hx⟩ : ∃ x, la[k]? = some x := ⟨_, List.getElem?_eq_getElem (by rw [HL.out]; exact hlt)⟩
        obtain ⟨y, hy⟩ : ∃ y, lb[k]? = some y := ⟨_, List.getElem?_eq_getElem (by rw [← Hn.out]; exact hlt)⟩
        obtain ⟨ga, oa, rfl, a0, a1, a2⟩ := HA.out k x hx
        obtain ⟨gb, ob, rfl, b0, b1, b2⟩ := HB.out k y hy
        replace a0 := hch.cellN a0
        replace a1 := hch.cellN a1
        replace a2 := hch.cellN a2
        replace b0 := hch.cellN b0
        replace b1 := hch.cellN b1
        replace b2 := hch.cellN b2
        have hno : ∀ (h : ¬ x = y), decide (la = lb) = false := by
          intro h; simp; intro e; rw [e] at hx; rw [hx] at hy; exact h (Option.some.inj hy)
        have Hno := hid hno
        have Hx := hid hx
        have Hy := hid hy
        have Ht := hid ht
        have Hch := hid hch
        have hI : (k : Int) < (L : Int) := by omega
        clear hno hx hy ht hch hk
        obtain ⟨xs, xb, xv⟩ := x
        obtain ⟨ys, yb, yv⟩ := y
        simp only at a0 a1 a2 b0 b1 b2
        go_upto_region 6 with (fail)
        by_cases h1 : xs = ys
        · subst h1
          by_cases h2 : xb = yb
          · subst h2
            by_cases h3 : xv = yv
            · subst h3
              have hwk : wrap64 ((k : Int) + 1) = (k : Int) + 1 := by have := Hal.out; have := HL.out; unfold wrap64; omega
              go_quiet (fail)
              go_wp2_with fail
              refine ⟨⟨k + 1, by go_num, by omega, ?_, Hdr.out.drewN _⟩, by first | (rw [hwk]; show L - ((k : Int) + 1).toNat < L - (k : Int).toNat; omega) | (show L - ((k : Int) + 1).toNat < L - (k : Int).toNat; omega)⟩
              rw [List.take_add_one, List.take_add_one, Hx.out, Hy.out, Ht.out]
            · have h4 : (xv.toList == yv.toList) = false := str_ne h3
              go_quiet (fail)
              go_wp2_with fail
              go_ret
              exact ⟨by rw [Hno.out (by intro e; cases e; exact h3 rfl)]; rfl, Hdr.out.drewN _⟩
          · have h4 : (xb != yb) = true := by simpa using h2
            have H2 := hid h2
            clear h2
            go_quiet (fail)
            go_wp2_with fail
            go_ret
            exact ⟨by rw [Hno.out (by intro e; cases e; exact H2.out rfl)]; rfl, Hdr.out.drewN _⟩
        · have h4 : (xs != ys) = true := by simpa using h1
          have H1 := hid h1
          clear h1
          go_quiet (fail)
          go_wp2_with fail
          go_ret
          exact ⟨by rw [Hno.out (by intro e; cases e; exact H1.out rfl)]; rfl, Hdr.out.drewN _⟩
      · have Hch := hid hch
        have e : la = lb := by
          have h1 : la.take L = la := by rw [← HL.out, List.take_length]
          have h2 : lb.take L = lb := by rw [Hn.out, List.take_length]
          have h3 : k = L := by omega
          rw [h3, h1, h2] at ht
          exact ht
        have He := hid e
        clear hch e ht
        go_wp2_with fail
        go_ret
        exact ⟨by rw [decide_eq_true He.out]; rfl, Hdr.out⟩
  · have h2 : ¬ ((la.length : Int) = (lb.length : Int)) := by omega
    go_wp2_with fail
    go_ret
    refine ⟨?_, Drawn.refl w⟩
    have e : decide (la = lb) = false := by simp; intro h; exact hn (by rw [h])
    rw [e]; rfl
end Go.Proofs.Ytfmcfcjcmmlmfaa

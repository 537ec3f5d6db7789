/- Walks over ballot's small functions. -/
import Derived.Test.YtfmcfcjcmmlmfaaVoteW
import Derived.Test.YtfmcfcjcmmlmfaaWalW
import Derived.Test.YtfmcfcjcmmlmfaaPack2W
namespace Go.Proofs.Ytfmcfcjcmmlmfaa
open Go Go.RowKit Go.Maps
set_option linter.unusedVariables false

theorem number_ok (b : Int) (w : World) : Calls Try.prog 39 #[.int .i64 b] w fun e w' => e = .returned (.bool (decide (1 ≤ b ∧ b ≤ 1099511627776))) ∧ w' = w := by
  go_enter Try.func39, Try.ntmps39
  by_cases h1 : 1 ≤ b
  · by_cases h2 : b ≤ 1099511627776
    · go_wp2_with fail
      go_ret
      simp [*]
    · go_wp2_with fail
      go_ret
      simp
      try omega
  · go_wp2_with fail
    go_ret
    simp
    try omega

theorem slot_ok (b : Int) (w : World) : Calls Try.prog 28 #[.int .i64 b] w fun e w' => e = .returned (.bool (decide (1 ≤ b ∧ b ≤ 1000))) ∧ w' = w := by
  go_enter Try.func28, Try.ntmps28
  by_cases h1 : 1 ≤ b
  · by_cases h2 : b ≤ 1000
    · go_wp2_with fail
      go_ret
      simp [*]
    · go_wp2_with fail
      go_ret
      simp
      try omega
  · go_wp2_with fail
    go_ret
    simp
    try omega

/-- an acceptor in memory, its disk aside -/
structure AccOn (w : World) (ab wb mb d i : Nat) (prom : Int) (votes : List VT) (a s : Int) : Prop where
  head : Blk w ab #[.pointer (some ⟨wb, 0, none⟩), .int .i64 prom, .map (some mb)] 53
  map : VMap w mb votes
  wal : Blk w wb #[.int .i64 a, .int .i64 s, .pointer (some ⟨d, 0, none⟩), .int .i64 i, .bool false] 97
  n1 : ab ≠ wb
  n2 : ab ≠ mb
  n3 : wb ≠ mb
theorem AccOn.kept {w w' : World} {S : Nat → Prop} {ab wb mb d i : Nat} {prom a s : Int} {votes : List VT} (h : AccOn w ab wb mb d i prom votes a s) (c : Chg S w w') (h1 : ¬ S ab) (h2 : ¬ S wb) (h3 : ¬ S mb) : AccOn w' ab wb mb d i prom votes a s :=
  ⟨h.head.kept c h1, IMap.kept h.map c h3, h.wal.kept c h2, h.n1, h.n2, h.n3⟩

def whyF (prom b : Int) : Int := if ¬ (1 ≤ b ∧ b ≤ 1099511627776) then 231 else if b < prom then 234 else 0

theorem why_ok (w : World) (ab wb mb : Nat) (prom b : Int) (h : Blk w ab #[.pointer (some ⟨wb, 0, none⟩), .int .i64 prom, .map (some mb)] 53) :
    Calls Try.prog 26 #[.pointer (some ⟨ab, 0, none⟩), .int .i64 b] w fun e w' => e = .returned (.int .i64 (whyF prom b)) ∧ w' = w := by
  obtain ⟨c0, c1, c2, hf⟩ := h.c3
  have Hn := hid (number_ok b w)
  clear h
  go_enter Try.func26, Try.ntmps26
  go_wp2_with fail
  refine Hn.out.mono ?_
  rintro e w' ⟨rfl, rfl⟩
  by_cases h1 : 1 ≤ b ∧ b ≤ 1099511627776
  · have hd : decide (1 ≤ b ∧ b ≤ 1099511627776) = true := by simpa using h1
    have H1 := hid h1
    rw [hd]
    clear h1 hd
    by_cases h2 : b < prom
    · go_wp2_with fail
      go_ret
      simp [whyF, H1.out, h2]
    · go_wp2_with fail
      go_ret
      simp [whyF, H1.out, h2]
  · have hd : decide (1 ≤ b ∧ b ≤ 1099511627776) = false := by simpa using h1
    have H1 := hid h1
    rw [hd]
    clear h1 hd
    go_wp2_with fail
    go_ret
    simp [whyF, H1.out]

theorem promised_ok (w : World) (ab wb mb : Nat) (prom : Int) (h : Blk w ab #[.pointer (some ⟨wb, 0, none⟩), .int .i64 prom, .map (some mb)] 53) :
    Calls Try.prog 15 #[.pointer (some ⟨ab, 0, none⟩)] w fun e w' => e = .returned (.int .i64 prom) ∧ w' = w := by
  obtain ⟨c0, c1, c2, hf⟩ := h.c3
  clear h
  go_enter Try.func15, Try.ntmps15
  go_wp2_with fail
  go_ret
  simp

theorem votes_ok (w : World) (ab wb mb : Nat) (prom : Int) (m : List VT) (h : Blk w ab #[.pointer (some ⟨wb, 0, none⟩), .int .i64 prom, .map (some mb)] 53) (hM : VMap w mb m) (hm : m.length ≤ 1000000) (hs : ∀ x ∈ m, i64r x.slot) :
    Calls Try.prog 17 #[.pointer (some ⟨ab, 0, none⟩)] w fun e w' => ∃ v, e = .returned v ∧ VRow w' v m ∧ Chg No w w' ∧ Fresh w v := by
  obtain ⟨c0, c1, c2, hf⟩ := h.c3
  have Hl := hid (list_ok mb m w hM hm hs)
  clear h hM hm hs
  go_enter Try.func17, Try.ntmps17
  go_wp2_with fail
  refine Hl.out.mono ?_
  rintro e w' ⟨v, rfl, h1, h2, h3⟩
  have H1 := hid h1
  have H2 := hid h2
  have H3 := hid h3
  clear h1 h2 h3
  go_wp2_with fail
  go_ret
  exact ⟨v, rfl, H1.out, H2.out, H3.out⟩

theorem vote_ok (w : World) (ab wb mb d i : Nat) (prom a s : Int) (m : List VT) (x : VT) (h : AccOn w ab wb mb d i prom m a s) (hm : m.length ≤ 1000000) (hx : i64r x.slot) :
    Calls Try.prog 29 #[.pointer (some ⟨ab, 0, none⟩), x.val] w fun e w' => e = .returned (.tuple #[]) ∧ AccOn w' ab wb mb d i (max prom x.b) (putK VT.slot x m) a s ∧ Chg (fun j => j = ab ∨ j = mb) w w' := by
  obtain ⟨c0, c1, c2, hf⟩ := h.head.c3
  have H := hid h
  have Hx := hid hx
  have Hm := hid hm
  clear h hx hm
  obtain ⟨xs, xb, xv⟩ := x
  unfold VT.val
  go_enter Try.func29, Try.ntmps29
  have hB : Blk (w.alloc (.cells #[.int .i64 xs, .int .i64 xb, .string xv] 47)) w.heap.size #[.int .i64 xs, .int .i64 xb, .string xv] 47 := Blk.new _ _ _
  have hcA : Chg No w (w.alloc (.cells #[.int .i64 xs, .int .i64 xb, .string xv] 47)) := (Chg.refl _ _).alloc _
  have HA := hid (H.out.kept hcA id id id)
  go_upto_region 1 with (fail)
  have hne : ab ≠ w.heap.size := fun e => by have := H.out.head.lt; omega
  obtain ⟨b0, b1, b2, bf⟩ := hB.c3
  have Hne := hid hne
  have HcA := hid hcA
  have HB := hid hB
  clear hne hcA hB c0 c1 c2 hf
  generalize (w.alloc (.cells #[.int .i64 xs, .int .i64 xb, .string xv] 47)) = W at *
  obtain ⟨c0, c1, c2, hf⟩ := HA.out.head.c3
  go_region
  go_upto_region 2 with (fail)
  have hch2 : Chg (One ab) W (W.setCell ⟨ab, 1, none⟩ (.int .i64 (max prom xb))).drew := (Chg.drew (.refl _ W)).setCell _ _ (fun _ => rfl)
  have hH2 : Blk (W.setCell ⟨ab, 1, none⟩ (.int .i64 (max prom xb))).drew ab #[.pointer (some ⟨wb, 0, none⟩), .int .i64 (max prom xb), .map (some mb)] 53 := by
    have := HA.out.head.set 1 (.int .i64 (max prom xb))
    simp only [List.setIfInBounds_toArray, List.set_cons_succ, List.set_cons_zero] at this
    exact this
  have hA2 : AccOn (W.setCell ⟨ab, 1, none⟩ (.int .i64 (max prom xb))).drew ab wb mb d i (max prom xb) m a s :=
    ⟨hH2, IMap.kept HA.out.map hch2 (fun e => HA.out.n2 e.symm), HA.out.wal.kept hch2 (fun e => HA.out.n1 e.symm), HA.out.n1, HA.out.n2, HA.out.n3⟩
  have hB2 := HB.out.kept hch2 (fun e => Hne.out e.symm)
  have Hch2 := hid hch2
  clear hch2 hH2 c0 c1 c2 hf b0 b1 b2 bf
  generalize (W.setCell ⟨ab, 1, none⟩ (.int .i64 (max prom xb))).drew = W2 at *
  obtain ⟨b0, b1, b2, bf⟩ := hB2.c3
  obtain ⟨c0, c1, c2, hf⟩ := hA2.head.c3
  obtain ⟨W3, hst, hM3, hch3⟩ := (IMap.drew hA2.map 1).store (x := (⟨xs, xb, xv⟩ : VT)) uInt uVoteMap Hx.out.wf (by have := Hm.out; unfold maxLen; omega)
  have hst2 : (Instr.mapUpdate 51 (.map (some mb)) (.int .i64 xs) (.agg #[.int .i64 xs, .int .i64 xb, .string xv])).run Try.prog W2.drew = .ok () W3 := hst
  have HM3 := hid hM3
  have Hch3 := hid hch3
  have HA2 := hid hA2
  clear hst hM3 hch3 hA2 hB2
  go_region
  all_goals go_wp2_with fail
  all_goals go_end0
  have h3 : Chg (One mb) W2 W3 := Chg.ofDrewN Hch3.out
  exact ⟨rfl, ⟨HA2.out.head.kept h3 (fun e => HA.out.n2 e), HM3.out, HA2.out.wal.kept h3 (fun e => HA.out.n3 e), HA.out.n1, HA.out.n2, HA.out.n3⟩,
    (HcA.out.mono (fun _ _ h => h.elim)).trans ((Hch2.out.mono (fun _ _ h => .inl h)).trans h3 (fun j _ h => .inr h)) (fun _ _ h => h)⟩
end Go.Proofs.Ytfmcfcjcmmlmfaa

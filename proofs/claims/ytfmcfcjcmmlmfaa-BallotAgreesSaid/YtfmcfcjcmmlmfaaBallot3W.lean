/- Walks over ballot: Prepare. -/
import Derived.Test.YtfmcfcjcmmlmfaaBallot2W
namespace Go.Proofs.Ytfmcfcjcmmlmfaa
open Go Go.RowKit Go.Maps
set_option linter.unusedVariables false

theorem recP_ok (b : Int) (h : 1 ≤ b ∧ b ≤ 1099511627776) : ∀ v ∈ recP b, v.Ok := by
  intro v hv
  simp only [recP, List.mem_cons, List.not_mem_nil, or_false] at hv
  rcases hv with rfl | rfl
  · exact .inl ⟨rfl, by decide, rfl, rfl⟩
  · exact .inr (.inl ⟨rfl, rfl, by show -9223372036854775808 ≤ b; omega, by show b ≤ 9223372036854775807; omega, rfl⟩)
theorem recA_ok (x : VT) (h : 1 ≤ x.b ∧ x.b ≤ 1099511627776) (hs : 1 ≤ x.slot ∧ x.slot ≤ 1000) (hv : x.s.size ≤ 1000) : ∀ v ∈ recA x, v.Ok := by
  intro v hv
  simp only [recA, List.mem_cons, List.not_mem_nil, or_false] at hv
  rcases hv with rfl | rfl | rfl | rfl
  · exact .inl ⟨rfl, by show (2 : Nat) < _; decide, rfl, rfl⟩
  · exact .inr (.inl ⟨rfl, rfl, by show -9223372036854775808 ≤ x.b; omega, by show x.b ≤ 9223372036854775807; omega, rfl⟩)
  · exact .inr (.inl ⟨rfl, rfl, by show -9223372036854775808 ≤ x.slot; omega, by show x.slot ≤ 9223372036854775807; omega, rfl⟩)
  · exact .inr (.inr ⟨rfl, rfl, rfl, hv⟩)

/-- lay, in the state's words -/
theorem lay_state (w W : World) (ab wb mb d i : Nat) (F : Nat → Prop) (A : AccS) (x : List WV) (h : AccAt w ab wb mb d i F A) (hok : ∀ v ∈ x, v.Ok) (hn : x.length ≤ 4) (hl : ∀ l, A.D.logs[i]? = some l → l.1.length ≤ 4000000)
    (hW : W = w.alloc (.cells (wvCells x).toArray 91)) (n : Nat) (hnx : n = x.length) :
    Calls Try.prog 27 #[.pointer (some ⟨ab, 0, none⟩), .slice (some ⟨w.heap.size, 0, none⟩) n n] W fun e w' => e = .returned (.int .i64 0) ∧ AccPost w ab wb mb d i F (A.laid i x) w' := by
  subst hnx
  have hc : Chg No w W := by rw [hW]; exact (Chg.refl _ _).alloc _
  have h1 := h.kept hc (fun _ _ h => h)
  have hp := packB_len x hok
  obtain ⟨l, hg⟩ : ∃ l, A.D.logs[i]? = some l := ⟨_, List.getElem?_eq_getElem h.log⟩
  refine (lay_ok W ab wb mb d i F A.prom A.a A.s A.votes A.D l w.heap.size 0 x.length x h1.on h1.disk h.fw hg h.up h.arm hok (by omega) ?_ (by omega) ?_).mono ?_
  · intro j u hj
    rw [hW, (Blk.new w _ _).cellEq, Nat.zero_add]
    simpa using hj
  · have := hl _ hg
    omega
  · rintro e w' ⟨rfl, hP⟩
    exact ⟨rfl, h.laid (hP.before hc)⟩

/-- an acceptor's answer with votes -/
def AccRes (w : World) (ab wb mb d i : Nat) (F : Nat → Prop) (A' : AccS) (v : Value) (l : List VT) (w' : World) : Prop :=
  ∃ F', AccAt w' ab wb mb d i F' A' ∧ Upd w (accF F ab wb mb) w' (accF F' ab wb mb) ∧ VRow w' v l ∧ Fresh w v ∧ ∀ j, v.ownBlock = some j → ¬ accF F' ab wb mb j
theorem VRow.nil (w : World) : VRow w (.slice none 0 0) [] := Row.nil _ _ _
def PrepPost (w : World) (ab wb mb d i : Nat) (F : Nat → Prop) (A : AccS) (b : Int) (e : Ending) (w' : World) : Prop :=
  ∃ v, e = .returned (.tuple #[v, .int .i64 (whyF A.prom b)]) ∧ AccRes w ab wb mb d i F (A.prep i b) v (if whyF A.prom b = 0 then A.votes else []) w'

theorem AccRes.ofVotes {w w1 w2 : World} {ab wb mb d i : Nat} {F F1 : Nat → Prop} {A : AccS} {v : Value} {l : List VT} (h : AccAt w1 ab wb mb d i F1 A) (hU : Upd w (accF F ab wb mb) w1 (accF F1 ab wb mb)) (hr : VRow w2 v l) (hc : Chg No w1 w2) (hf : Fresh w1 v) :
    AccRes w ab wb mb d i F A v l w2 :=
  ⟨F1, h.kept hc (fun _ _ h => h), ⟨hU.chg.same (hc.mono (fun _ _ h => h.elim)), hU.foot⟩, hr, fun j hj => Nat.le_trans hU.chg.size (hf j hj), fun j hj hF => by have := h.fin j hF; have := hf j hj; omega⟩

theorem setProm {w w' : World} {ab wb mb d i : Nat} {F : Nat → Prop} {A : AccS} {b : Int} (h : AccAt w ab wb mb d i F A) (hw : w' = w.setCell ⟨ab, 1, none⟩ (.int .i64 b)) : AccPost w ab wb mb d i F { A with prom := b } w' := by
  subst hw
  have hc : Chg (One ab) w (w.setCell ⟨ab, 1, none⟩ (.int .i64 b)) := (Chg.refl _ w).setCell _ _ (fun _ => rfl)
  have hH := h.on.head.set 1 (.int .i64 b)
  simp only [List.setIfInBounds_toArray, List.set_cons_succ, List.set_cons_zero] at hH
  exact ⟨F, ⟨⟨hH, IMap.kept h.on.map hc (fun e => h.on.n2 e.symm), h.on.wal.kept hc (fun e => h.on.n1 e.symm), h.on.n1, h.on.n2, h.on.n3⟩, h.disk.kept hc (fun j hj e => h.fa (e ▸ hj)), h.fa, h.fw, h.fm, h.log, h.up, h.arm, h.few, h.slots⟩,
    hc.mono (fun j _ hj => .inr (.inl hj)), fun _ h => .inl h⟩

set_option maxHeartbeats 400000 in
theorem prepare_ok (w : World) (ab wb mb d i : Nat) (F : Nat → Prop) (A : AccS) (b : Int) (h : AccAt w ab wb mb d i F A) (hl : ∀ l, A.D.logs[i]? = some l → l.1.length ≤ 4000000) :
    Calls Try.prog 14 #[.pointer (some ⟨ab, 0, none⟩), .int .i64 b] w (PrepPost w ab wb mb d i F A b) := by
  obtain ⟨c0, c1, c2, hf⟩ := h.on.head.c3
  have Hw := hid (why_ok w ab wb mb A.prom b h.on.head)
  have H := hid h
  have Hl := hid hl
  clear h hl
  go_enter Try.func14, Try.ntmps14
  go_wp2_with fail
  refine Hw.out.mono ?_
  rintro e w' ⟨rfl, rfl⟩
  by_cases hy : whyF A.prom b = 0
  · have Hy := hid hy
    rw [hy]
    have hb : 1 ≤ b ∧ b ≤ 1099511627776 := by
      unfold whyF at hy
      by_cases h1 : 1 ≤ b ∧ b ≤ 1099511627776
      · exact h1
      · rw [if_pos h1] at hy; cases hy
    have hVotes := fun (W : World) (p a s : Int) (hA : AccOn W ab wb mb d i p A.votes a s) => hid (votes_ok W ab wb mb p A.votes hA.head hA.map H.out.few H.out.slots)
    clear hy
    by_cases hp : A.prom < b
    · have HL := hid (lay_state w' _ ab wb mb d i F A (recP b) H.out (recP_ok b hb) (by simp [recP]) Hl.out rfl 2 rfl)
      have Hb := hid hb
      clear hb
      simp only [wvCells, recP, List.flatMap_cons, List.flatMap_nil, WV.cells, List.append_nil, List.cons_append, List.nil_append] at HL
      go_wp2_with fail
      refine HL.out.mono ?_
      rintro e w1 ⟨rfl, F1, hA1, hU1⟩
      obtain ⟨d0, d1, d2, df⟩ := hA1.on.head.c3
      obtain ⟨F2, hA2, hU2⟩ := setProm (b := b) hA1 rfl
      have hV := hVotes _ _ _ _ hA2.on
      have HA2 := hid hA2
      have HU2 := hid (hU1.trans hU2)
      clear hA1 hU1 hA2 hU2
      go_wp2_with fail
      refine hV.out.mono ?_
      rintro e w2 ⟨v, rfl, h1, h2, h3⟩
      have H1 := hid h1
      have H2 := hid h2
      have H3 := hid h3
      clear h1 h2 h3
      go_wp2_with fail
      go_ret2
      refine ⟨v, by rw [Hy.out]; rfl, ?_⟩
      rw [if_pos Hy.out]
      have e : A.prep i b = { A.laid i (recP b) with prom := b } := by unfold AccS.prep; rw [if_pos ⟨Hy.out, hp⟩]
      rw [e]
      exact AccRes.ofVotes HA2.out HU2.out H1.out H2.out H3.out
    · go_wp2_with fail
      refine (hVotes w' _ _ _ H.out.on).out.mono ?_
      rintro e w1 ⟨v, rfl, h1, h2, h3⟩
      have H1 := hid h1
      have H2 := hid h2
      have H3 := hid h3
      clear h1 h2 h3
      go_wp2_with fail
      go_ret2
      refine ⟨v, by rw [Hy.out]; rfl, ?_⟩
      rw [if_pos Hy.out]
      have e : A.prep i b = A := by unfold AccS.prep; rw [if_neg (fun h => by have := h.2; omega)]
      rw [e]
      exact AccRes.ofVotes H.out (Upd.refl _ _) H1.out H2.out H3.out
  · go_wp2_with fail
    go_ret2
    refine ⟨.slice none 0 0, rfl, ?_⟩
    rw [if_neg hy]
    have e : A.prep i b = A := by unfold AccS.prep; rw [if_neg (fun h => hy h.1)]
    rw [e]
    exact ⟨F, H.out, Upd.refl _ _, VRow.nil _, fun j hj => by simp [Value.ownBlock] at hj, fun j hj => by simp [Value.ownBlock] at hj⟩
end Go.Proofs.Ytfmcfcjcmmlmfaa

/- The memory of BallotAgrees. -/
import Derived.Test.YtfmcfcjcmmlmfaaAgreeP
import Derived.Test.YtfmcfcjcmmlmfaaLastsP
namespace Go.Proofs.Ytfmcfcjcmmlmfaa
open Go Go.RowKit Go.Maps
set_option linter.unusedVariables false

/-- the law's own blocks -/
structure AgB where
  db : Nat
  al : Nat
  hb : Nat
  tb : Nat
  cb : Nat
  ib : Nat
def AgB.has (B : AgB) (q : Nat) : Prop := q = B.db ∨ q = B.al ∨ q = B.hb ∨ q = B.tb ∨ q = B.cb ∨ q = B.ib
structure AgB.Ord (B : AgB) : Prop where
  o1 : B.db < B.al
  o2 : B.al < B.hb
  o3 : B.hb < B.tb
  o4 : B.tb < B.cb
  o5 : B.cb < B.ib

/-- what a proposer heard -/
structure HeardC (cs : Array Value) (S : PS) (vv : Nat → Nat → Value) : Prop where
  size : cs.size = 162
  said : ∀ b k, b < 9 → k < 5 → cs[b * 18 + k]? = some (.bool (S.said b k))
  vote : ∀ b k, b < 9 → k < 5 → cs[b * 18 + 5 + k]? = some (vv b k)
  fixed : ∀ b s, b < 9 → s < 4 → cs[b * 18 + 10 + s]? = some (.bool (S.fixed b s))
  value : ∀ b s, b < 9 → s < 4 → cs[b * 18 + 14 + s]? = some (.string (S.value b s))
structure TookC (cs : Array Value) (S : PS) : Prop where
  size : cs.size = 180
  took : ∀ b s k, b < 9 → s < 4 → k < 5 → cs[b * 20 + s * 5 + k]? = some (.bool (S.took b s k))
structure ChosenC (cs is : Array Value) (S : PS) : Prop where
  size : cs.size = 4 ∧ is.size = 4
  chosen : ∀ s, s < 4 → cs[s]? = some (.string (S.chosen s))
  is : ∀ s, s < 4 → is[s]? = some (.bool (S.is s))

theorem set_at {cs : Array Value} {i j : Nat} {v : Value} (hi : i < cs.size) : (cs.setIfInBounds i v)[j]? = if j = i then some v else cs[j]? := by
  by_cases e : j = i
  · subst e; rw [if_pos rfl, Array.getElem?_setIfInBounds_self_of_lt hi]
  · rw [if_neg e, Array.getElem?_setIfInBounds_ne (Ne.symm e)]

theorem HeardC.setSaid {cs : Array Value} {S : PS} {vv : Nat → Nat → Value} (h : HeardC cs S vv) (b0 k0 : Nat) (hb : b0 < 9) (hk : k0 < 5) (x : Bool) :
    HeardC (cs.setIfInBounds (b0 * 18 + k0) (.bool x)) { S with said := fun b k => if b = b0 ∧ k = k0 then x else S.said b k } vv := by
  have hs := h.size
  refine ⟨by rw [Array.size_setIfInBounds]; exact hs, fun b k h1 h2 => ?_, fun b k h1 h2 => ?_, fun b s h1 h2 => ?_, fun b s h1 h2 => ?_⟩
  · rw [set_at (by omega)]
    show _ = some (Value.bool (if b = b0 ∧ k = k0 then x else S.said b k))
    by_cases e : b = b0 ∧ k = k0
    · rw [if_pos (by omega), if_pos e]
    · rw [if_neg (by omega), if_neg e]; exact h.said b k h1 h2
  · rw [set_at (by omega), if_neg (by omega)]; exact h.vote b k h1 h2
  · rw [set_at (by omega), if_neg (by omega)]; exact h.fixed b s h1 h2
  · rw [set_at (by omega), if_neg (by omega)]; exact h.value b s h1 h2
theorem HeardC.setVote {cs : Array Value} {S : PS} {vv : Nat → Nat → Value} (h : HeardC cs S vv) (b0 k0 : Nat) (hb : b0 < 9) (hk : k0 < 5) (v : Value) (l : List VT) :
    HeardC (cs.setIfInBounds (b0 * 18 + 5 + k0) v) { S with vt := fun b k => if b = b0 ∧ k = k0 then l else S.vt b k } (fun b k => if b = b0 ∧ k = k0 then v else vv b k) := by
  have hs := h.size
  refine ⟨by rw [Array.size_setIfInBounds]; exact hs, fun b k h1 h2 => ?_, fun b k h1 h2 => ?_, fun b s h1 h2 => ?_, fun b s h1 h2 => ?_⟩
  · rw [set_at (by omega), if_neg (by omega)]; exact h.said b k h1 h2
  · rw [set_at (by omega)]
    by_cases e : b = b0 ∧ k = k0
    · rw [if_pos (by omega), if_pos e]
    · rw [if_neg (by omega), if_neg e]; exact h.vote b k h1 h2
  · rw [set_at (by omega), if_neg (by omega)]; exact h.fixed b s h1 h2
  · rw [set_at (by omega), if_neg (by omega)]; exact h.value b s h1 h2
theorem HeardC.setFixed {cs : Array Value} {S : PS} {vv : Nat → Nat → Value} (h : HeardC cs S vv) (b0 s0 : Nat) (hb : b0 < 9) (hk : s0 < 4) (x : Bool) :
    HeardC (cs.setIfInBounds (b0 * 18 + 10 + s0) (.bool x)) { S with fixed := fun b s => if b = b0 ∧ s = s0 then x else S.fixed b s } vv := by
  have hs := h.size
  refine ⟨by rw [Array.size_setIfInBounds]; exact hs, fun b k h1 h2 => ?_, fun b k h1 h2 => ?_, fun b s h1 h2 => ?_, fun b s h1 h2 => ?_⟩
  · rw [set_at (by omega), if_neg (by omega)]; exact h.said b k h1 h2
  · rw [set_at (by omega), if_neg (by omega)]; exact h.vote b k h1 h2
  · rw [set_at (by omega)]
    show _ = some (Value.bool (if b = b0 ∧ s = s0 then x else S.fixed b s))
    by_cases e : b = b0 ∧ s = s0
    · rw [if_pos (by omega), if_pos e]
    · rw [if_neg (by omega), if_neg e]; exact h.fixed b s h1 h2
  · rw [set_at (by omega), if_neg (by omega)]; exact h.value b s h1 h2
theorem HeardC.setValue {cs : Array Value} {S : PS} {vv : Nat → Nat → Value} (h : HeardC cs S vv) (b0 s0 : Nat) (hb : b0 < 9) (hk : s0 < 4) (x : ByteArray) :
    HeardC (cs.setIfInBounds (b0 * 18 + 14 + s0) (.string x)) { S with value := fun b s => if b = b0 ∧ s = s0 then x else S.value b s } vv := by
  have hs := h.size
  refine ⟨by rw [Array.size_setIfInBounds]; exact hs, fun b k h1 h2 => ?_, fun b k h1 h2 => ?_, fun b s h1 h2 => ?_, fun b s h1 h2 => ?_⟩
  · rw [set_at (by omega), if_neg (by omega)]; exact h.said b k h1 h2
  · rw [set_at (by omega), if_neg (by omega)]; exact h.vote b k h1 h2
  · rw [set_at (by omega), if_neg (by omega)]; exact h.fixed b s h1 h2
  · rw [set_at (by omega)]
    show _ = some (Value.string (if b = b0 ∧ s = s0 then x else S.value b s))
    by_cases e : b = b0 ∧ s = s0
    · rw [if_pos (by omega), if_pos e]
    · rw [if_neg (by omega), if_neg e]; exact h.value b s h1 h2
theorem TookC.set {cs : Array Value} {S : PS} (h : TookC cs S) (b0 s0 k0 : Nat) (hb : b0 < 9) (hs0 : s0 < 4) (hk : k0 < 5) :
    TookC (cs.setIfInBounds (b0 * 20 + s0 * 5 + k0) (.bool true)) { S with took := fun b s k => if b = b0 ∧ s = s0 ∧ k = k0 then true else S.took b s k } := by
  have hs := h.size
  refine ⟨by rw [Array.size_setIfInBounds]; exact hs, fun b s k h1 h2 h3 => ?_⟩
  rw [set_at (by omega)]
  show _ = some (Value.bool (if b = b0 ∧ s = s0 ∧ k = k0 then true else S.took b s k))
  by_cases e : b = b0 ∧ s = s0 ∧ k = k0
  · rw [if_pos (by omega), if_pos e]
  · rw [if_neg (by omega), if_neg e]; exact h.took b s k h1 h2 h3
theorem ChosenC.set {cs is : Array Value} {S : PS} (h : ChosenC cs is S) (s0 : Nat) (hs0 : s0 < 4) (x : ByteArray) :
    ChosenC (cs.setIfInBounds s0 (.string x)) (is.setIfInBounds s0 (.bool true)) { S with is := fun s => if s = s0 then true else S.is s, chosen := fun s => if s = s0 then x else S.chosen s } := by
  obtain ⟨h1, h2⟩ := h.size
  refine ⟨by rw [Array.size_setIfInBounds, Array.size_setIfInBounds]; exact h.size, fun s hs => ?_, fun s hs => ?_⟩
  · rw [set_at (by omega)]
    show _ = some (Value.string (if s = s0 then x else S.chosen s))
    by_cases e : s = s0
    · rw [if_pos e, if_pos e]
    · rw [if_neg e, if_neg e]; exact h.chosen s hs
  · rw [set_at (by omega)]
    show _ = some (Value.bool (if s = s0 then true else S.is s))
    by_cases e : s = s0
    · rw [if_pos e, if_pos e]
    · rw [if_neg e, if_neg e]; exact h.is s hs

/-- acceptors in memory -/
structure Fam where
  ab : Nat → Nat
  wb : Nat → Nat
  mb : Nat → Nat
  d : Nat → Nat
  F : Nat → Nat → Prop
  A : Nat → AccS
def Fam.own (f : Fam) (k q : Nat) : Prop := accF (f.F k) (f.ab k) (f.wb k) (f.mb k) q
def Fam.set (f : Fam) (k0 ab wb mb : Nat) (F : Nat → Prop) (A : AccS) : Fam :=
  { ab := fun k => if k = k0 then ab else f.ab k, wb := fun k => if k = k0 then wb else f.wb k, mb := fun k => if k = k0 then mb else f.mb k, d := f.d, F := fun k => if k = k0 then F else f.F k, A := fun k => if k = k0 then A else f.A k }

structure AgMem (w0 : World) (n c : Nat) (B : AgB) (f : Fam) (ac : Nat → Nat) (vv : Nat → Nat → Value) (S : PS) (w : World) : Prop where
  acc : ∀ k, k < n → AccAt w (f.ab k) (f.wb k) (f.mb k) (f.d k) 0 (f.F k) (f.A k)
  log : ∀ k, k < n → LogIs (f.A k) 0 (S.rs k) (S.sn k)
  len : ∀ k, k < n → (S.rs k).length ≤ c
  disj : ∀ j k, j < n → k < n → j ≠ k → ∀ q, f.own j q → ¬ f.own k q
  off : ∀ k, k < n → ∀ q, f.own k q → ¬ B.has q
  new : ∀ k, k < n → ∀ q, f.own k q → w0.heap.size ≤ q
  ord : B.Ord
  bnew : w0.heap.size ≤ B.db
  dc : ∃ cs, Blk w B.db cs 57 ∧ ∀ k, k < n → cs[k]? = some (.pointer (some ⟨f.d k, 0, none⟩))
  ac : ∃ cs, Blk w B.al cs 58 ∧ cs.size = 5 ∧ ∀ k, k < n → cs[k]? = some (.pointer (some ⟨ac k, 0, none⟩))
  hc : ∃ cs, Blk w B.hb cs 65 ∧ HeardC cs S vv
  tc : ∃ cs, Blk w B.tb cs 67 ∧ TookC cs S
  cc : ∃ cs is, Blk w B.cb cs 62 ∧ Blk w B.ib is 61 ∧ ChosenC cs is S
  vrow : ∀ b k, b < 9 → k < 5 → VRow w (vv b k) (S.vt b k)
  vlen : ∀ b k, b < 9 → k < 5 → (S.vt b k).length ≤ c
  voff : ∀ b k, b < 9 → k < 5 → ∀ q, (vv b k).ownBlock = some q → ¬ B.has q ∧ (∀ j, j < n → ¬ f.own j q)
  chg : Chg No w0 w
  five : n ≤ 5

section
variable {w0 w w' : World} {n c : Nat} {B : AgB} {f : Fam} {ac : Nat → Nat} {vv : Nat → Nat → Value} {S : PS}

theorem AgMem.fin (h : AgMem w0 n c B f ac vv S w) {k q : Nat} (hk : k < n) (hq : f.own k q) : q < w.heap.size := (h.acc k hk).fin q hq
theorem AgMem.blt (h : AgMem w0 n c B f ac vv S w) {q : Nat} (hq : B.has q) : q < w.heap.size := by
  obtain ⟨_, hb, -⟩ := h.dc
  obtain ⟨_, hb1, -⟩ := h.ac
  obtain ⟨_, hb2, -⟩ := h.hc
  obtain ⟨_, hb3, -⟩ := h.tc
  obtain ⟨_, _, hb4, hb5, -⟩ := h.cc
  rcases hq with rfl | rfl | rfl | rfl | rfl | rfl
  · exact hb.lt
  · exact hb1.lt
  · exact hb2.lt
  · exact hb3.lt
  · exact hb4.lt
  · exact hb5.lt
theorem AgMem.bge (h : AgMem w0 n c B f ac vv S w) {q : Nat} (hq : B.has q) : w0.heap.size ≤ q := by
  obtain ⟨o1, o2, o3, o4, o5⟩ := h.ord
  have := h.bnew
  rcases hq with rfl | rfl | rfl | rfl | rfl | rfl <;> omega

/-- what turns nothing of it -/
theorem AgMem.kept (h : AgMem w0 n c B f ac vv S w) {T : Nat → Prop} (k : Chg T w w') (h1 : ∀ q, B.has q → ¬ T q) (h2 : ∀ j, j < n → ∀ q, f.own j q → ¬ T q) (h3 : ∀ b k, b < 9 → k < 5 → ∀ q, (vv b k).ownBlock = some q → ¬ T q) (h4 : ∀ q, T q → w0.heap.size ≤ q) :
    AgMem w0 n c B f ac vv S w' := by
  obtain ⟨dcs, hd, hd2⟩ := h.dc
  obtain ⟨acs, ha, ha2⟩ := h.ac
  obtain ⟨hcs, hh, hh2⟩ := h.hc
  obtain ⟨tcs, ht, ht2⟩ := h.tc
  obtain ⟨ccs, ics, hcc, hic, hc2⟩ := h.cc
  refine ⟨fun j hj => (h.acc j hj).kept k (h2 j hj), h.log, h.len, h.disj, h.off, h.new, h.ord, h.bnew, ⟨dcs, hd.kept k (h1 _ (.inl rfl)), hd2⟩, ⟨acs, ha.kept k (h1 _ (.inr (.inl rfl))), ha2⟩, ⟨hcs, hh.kept k (h1 _ (.inr (.inr (.inl rfl)))), hh2⟩, ⟨tcs, ht.kept k (h1 _ (.inr (.inr (.inr (.inl rfl))))), ht2⟩,
    ⟨ccs, ics, hcc.kept k (h1 _ (.inr (.inr (.inr (.inr (.inl rfl)))))), hic.kept k (h1 _ (.inr (.inr (.inr (.inr (.inr rfl)))))), hc2⟩, fun b j hb hj => Row.kept (h.vrow b j hb hj) k (h3 b j hb hj), h.vlen, h.voff, h.chg.trans k (fun q hq hT => by have := h4 q hT; omega), h.five⟩
theorem AgMem.same (h : AgMem w0 n c B f ac vv S w) (k : Chg No w w') : AgMem w0 n c B f ac vv S w' :=
  h.kept k (fun _ _ h => h) (fun _ _ _ _ h => h) (fun _ _ _ _ _ _ h => h) (fun _ h => h.elim)

theorem AgMem.more (h : AgMem w0 n c B f ac vv S w) {c' : Nat} (hc : c ≤ c') : AgMem w0 n c' B f ac vv S w :=
  ⟨h.acc, h.log, fun k hk => Nat.le_trans (h.len k hk) hc, h.disj, h.off, h.new, h.ord, h.bnew, h.dc, h.ac, h.hc, h.tc, h.cc, h.vrow, fun b k hb hk => Nat.le_trans (h.vlen b k hb hk) hc, h.voff, h.chg, h.five⟩

/-- one acceptor did something -/
theorem AgMem.act (h : AgMem w0 n c B f ac vv S w) {c' k0 ab wb mb : Nat} {F : Nat → Prop} {A : AccS} {l : List RecT} {m : Nat} (hk : k0 < n) (hA : AccAt w' ab wb mb (f.d k0) 0 F A) (hI : LogIs A 0 l m) (hU : Upd w (f.own k0) w' (accF F ab wb mb)) (hl : l.length ≤ c') (hc : c ≤ c') :
    AgMem w0 n c' B (f.set k0 ab wb mb F A) ac vv { S with rs := fun k => if k = k0 then l else S.rs k, sn := fun k => if k = k0 then m else S.sn k } w' := by
  have hown : ∀ k q, (f.set k0 ab wb mb F A).own k q → (k = k0 ∧ (f.own k0 q ∨ w.heap.size ≤ q)) ∨ (k ≠ k0 ∧ f.own k q) := by
    intro k q hq
    by_cases e : k = k0
    · subst e
      left
      refine ⟨rfl, ?_⟩
      have hq' : accF F ab wb mb q := by simpa [Fam.own, Fam.set] using hq
      exact hU.foot q hq'
    · right
      refine ⟨e, ?_⟩
      simpa [Fam.own, Fam.set, e] using hq
  obtain ⟨dcs, hd, hd2⟩ := h.dc
  obtain ⟨acs, ha, ha2⟩ := h.ac
  obtain ⟨hcs, hh, hh2⟩ := h.hc
  obtain ⟨tcs, ht, ht2⟩ := h.tc
  obtain ⟨ccs, ics, hcc, hic, hc2⟩ := h.cc
  have hb : ∀ q, B.has q → ¬ f.own k0 q := fun q hq ho => h.off k0 hk q ho hq
  have hsz := h.chg.size
  refine ⟨fun j hj => ?_, fun j hj => ?_, fun j hj => ?_, fun i j hi hj hij q hq hq2 => ?_, fun j hj q hq hB => ?_, fun j hj q hq => ?_, h.ord, h.bnew, ⟨dcs, hd.kept hU.chg (hb _ (.inl rfl)), hd2⟩, ⟨acs, ha.kept hU.chg (hb _ (.inr (.inl rfl))), ha2⟩,
    ⟨hcs, hh.kept hU.chg (hb _ (.inr (.inr (.inl rfl)))), ⟨hh2.size, hh2.said, hh2.vote, hh2.fixed, hh2.value⟩⟩, ⟨tcs, ht.kept hU.chg (hb _ (.inr (.inr (.inr (.inl rfl))))), ⟨ht2.size, ht2.took⟩⟩,
    ⟨ccs, ics, hcc.kept hU.chg (hb _ (.inr (.inr (.inr (.inr (.inl rfl)))))), hic.kept hU.chg (hb _ (.inr (.inr (.inr (.inr (.inr rfl)))))), ⟨hc2.size, hc2.chosen, hc2.is⟩⟩, fun b j hb hj => Row.kept (h.vrow b j hb hj) hU.chg (fun q hq => (h.voff b j hb hj q hq).2 k0 hk), fun b j hb hj => Nat.le_trans (h.vlen b j hb hj) hc,
    fun b j hb9 hj q hq => ⟨(h.voff b j hb9 hj q hq).1, fun i hi hq2 => ?_⟩, h.chg.trans hU.chg (fun q hq ho => by have := h.new k0 hk q ho; omega), h.five⟩
  · by_cases e : j = k0
    · subst e; simp only [Fam.set, if_true]; exact hA
    · simp only [Fam.set, e, if_false]
      exact (h.acc j hj).kept hU.chg (fun q hq ho => h.disj j k0 hj hk e q hq ho)
  · by_cases e : j = k0
    · subst e; simp only [Fam.set, if_true]; exact hI
    · simp only [Fam.set, e, if_false]; exact h.log j hj
  · by_cases e : j = k0
    · subst e; simp only [if_true]; exact hl
    · simp only [e, if_false]; exact Nat.le_trans (h.len j hj) hc
  · rcases hown i q hq with ⟨rfl, p1⟩ | ⟨e, p1⟩
    · rcases hown j q hq2 with ⟨rfl, -⟩ | ⟨e2, p2⟩
      · exact hij rfl
      · rcases p1 with p1 | p1
        · exact h.disj _ j hi hj hij q p1 p2
        · have := h.fin hj p2; omega
    · rcases hown j q hq2 with ⟨rfl, p2⟩ | ⟨e2, p2⟩
      · rcases p2 with p2 | p2
        · exact h.disj i _ hi hj hij q p1 p2
        · have := h.fin hi p1; omega
      · exact h.disj i j hi hj hij q p1 p2
  · rcases hown j q hq with ⟨rfl, hq⟩ | ⟨e, hq⟩
    · rcases hq with hq | hq
      · exact h.off j hj q hq hB
      · have := h.blt hB; omega
    · exact h.off j hj q hq hB
  · rcases hown j q hq with ⟨rfl, hq⟩ | ⟨e, hq⟩
    · rcases hq with hq | hq
      · exact h.new j hj q hq
      · omega
    · exact h.new j hj q hq
  · rcases hown i q hq2 with ⟨rfl, p2⟩ | ⟨e, p2⟩
    · rcases p2 with p2 | p2
      · exact (h.voff b j hb9 hj q hq).2 _ hi p2
      · have := Row.lt (h.vrow b j hb9 hj) hq; omega
    · exact (h.voff b j hb9 hj q hq).2 i hi p2

/-- a store into one of the law's own blocks -/
theorem AgMem.others (h : AgMem w0 n c B f ac vv S w) {q0 : Nat} (hq0 : B.has q0) (k : Chg (One q0) w w') :
    (∀ j, j < n → AccAt w' (f.ab j) (f.wb j) (f.mb j) (f.d j) 0 (f.F j) (f.A j)) ∧ (∀ b j, b < 9 → j < 5 → VRow w' (vv b j) (S.vt b j)) ∧ Chg No w0 w' := by
  refine ⟨fun j hj => (h.acc j hj).kept k (fun q hq e => ?_), fun b j hb hj => Row.kept (h.vrow b j hb hj) k (fun q hq e => ?_), h.chg.trans k (fun q hq e => ?_)⟩
  · have : q = q0 := e
    subst this
    exact h.off j hj q hq hq0
  · have : q = q0 := e
    subst this
    exact (h.voff b j hb hj q hq).1 hq0
  · have : q = q0 := e
    subst this
    have := h.bge hq0
    omega
theorem AgMem.setAc (h : AgMem w0 n c B f ac vv S w) (k0 : Nat) (hk : k0 < n) (a' : Nat) : AgMem w0 n c B f (fun k => if k = k0 then a' else ac k) vv S (w.setCell ⟨B.al, k0, none⟩ (.pointer (some ⟨a', 0, none⟩))) := by
  have hset : Chg (One B.al) w (w.setCell ⟨B.al, k0, none⟩ (.pointer (some ⟨a', 0, none⟩))) := (Chg.refl _ _).setCell _ _ (fun _ => rfl)
  obtain ⟨h1, h2, h3⟩ := h.others (.inr (.inl rfl)) hset
  obtain ⟨o1, o2, o3, o4, o5⟩ := h.ord
  obtain ⟨dcs, hd, hd2⟩ := h.dc
  obtain ⟨acs, ha, hasz, ha2⟩ := h.ac
  obtain ⟨hcs, hh, hh2⟩ := h.hc
  obtain ⟨tcs, ht, ht2⟩ := h.tc
  obtain ⟨ccs, ics, hcc, hic, hc2⟩ := h.cc
  have h5 := h.five
  refine ⟨h1, h.log, h.len, h.disj, h.off, h.new, h.ord, h.bnew, ⟨dcs, hd.setOther (by simp; omega) _, hd2⟩, ⟨_, ha.set k0 _, by rw [Array.size_setIfInBounds]; exact hasz, fun k hk2 => ?_⟩, ⟨hcs, hh.setOther (by simp; omega) _, hh2⟩, ⟨tcs, ht.setOther (by simp; omega) _, ht2⟩,
    ⟨ccs, ics, hcc.setOther (by simp; omega) _, hic.setOther (by simp; omega) _, hc2⟩, h2, h.vlen, h.voff, h3, h.five⟩
  rw [set_at (by omega)]
  by_cases e : k = k0
  · rw [if_pos e, if_pos e]
  · rw [if_neg e, if_neg e]; exact ha2 k hk2
theorem AgMem.setHb (h : AgMem w0 n c B f ac vv S w) (o : Nat) (v : Value) {S' : PS} {vv' : Nat → Nat → Value} {c' : Nat} (e1 : S'.rs = S.rs) (e2 : S'.sn = S.sn) (e3 : S'.took = S.took) (e4 : S'.is = S.is) (e5 : S'.chosen = S.chosen) (hC : ∀ cs, HeardC cs S vv → HeardC (cs.setIfInBounds o v) S' vv')
    (hcc : c ≤ c') (hr : ∀ b k, b < 9 → k < 5 → VRow w (vv' b k) (S'.vt b k)) (hl : ∀ b k, b < 9 → k < 5 → (S'.vt b k).length ≤ c') (ho : ∀ b k, b < 9 → k < 5 → ∀ q, (vv' b k).ownBlock = some q → ¬ B.has q ∧ (∀ j, j < n → ¬ f.own j q)) :
    AgMem w0 n c' B f ac vv' S' (w.setCell ⟨B.hb, o, none⟩ v) := by
  have hset : Chg (One B.hb) w (w.setCell ⟨B.hb, o, none⟩ v) := (Chg.refl _ _).setCell _ _ (fun _ => rfl)
  obtain ⟨h1, h2, h3⟩ := h.others (.inr (.inr (.inl rfl))) hset
  obtain ⟨o1, o2, o3, o4, o5⟩ := h.ord
  obtain ⟨dcs, hd, hd2⟩ := h.dc
  obtain ⟨acs, ha, ha2⟩ := h.ac
  obtain ⟨hcs, hh, hh2⟩ := h.hc
  obtain ⟨tcs, ht, ht2⟩ := h.tc
  obtain ⟨ccs, ics, hc1, hic, hc2⟩ := h.cc
  refine ⟨h1, by rw [e1, e2]; exact h.log, by rw [e1]; exact fun k hk => Nat.le_trans (h.len k hk) hcc, h.disj, h.off, h.new, h.ord, h.bnew, ⟨dcs, hd.setOther (by simp; omega) _, hd2⟩, ⟨acs, ha.setOther (by simp; omega) _, ha2⟩, ⟨_, hh.set o v, hC hcs hh2⟩, ⟨tcs, ht.setOther (by simp; omega) _, ⟨ht2.size, by rw [e3]; exact ht2.took⟩⟩,
    ⟨ccs, ics, hc1.setOther (by simp; omega) _, hic.setOther (by simp; omega) _, ⟨hc2.size, by rw [e5]; exact hc2.chosen, by rw [e4]; exact hc2.is⟩⟩, fun b k hb hk => Row.kept (hr b k hb hk) hset (fun q hq e => ?_), hl, ho, h3, h.five⟩
  have : q = B.hb := e
  subst this
  exact (ho b k hb hk _ hq).1 (.inr (.inr (.inl rfl)))
theorem AgMem.setSaid (h : AgMem w0 n c B f ac vv S w) (b0 k0 : Nat) (hb : b0 < 9) (hk : k0 < 5) (x : Bool) :
    AgMem w0 n c B f ac vv { S with said := fun b k => if b = b0 ∧ k = k0 then x else S.said b k } (w.setCell ⟨B.hb, b0 * 18 + k0, none⟩ (.bool x)) :=
  h.setHb _ _ rfl rfl rfl rfl rfl (fun cs hc => hc.setSaid b0 k0 hb hk x) (Nat.le_refl _) h.vrow h.vlen h.voff
theorem AgMem.setVote (h : AgMem w0 n c B f ac vv S w) (b0 k0 : Nat) (hb : b0 < 9) (hk : k0 < 5) (v : Value) (l : List VT) {c' : Nat} (hc : c ≤ c') (hr : VRow w v l) (hl : l.length ≤ c') (ho : ∀ q, v.ownBlock = some q → ¬ B.has q ∧ (∀ j, j < n → ¬ f.own j q)) :
    AgMem w0 n c' B f ac (fun b k => if b = b0 ∧ k = k0 then v else vv b k) { S with vt := fun b k => if b = b0 ∧ k = k0 then l else S.vt b k } (w.setCell ⟨B.hb, b0 * 18 + 5 + k0, none⟩ v) := by
  refine h.setHb _ _ rfl rfl rfl rfl rfl (fun cs hc => hc.setVote b0 k0 hb hk v l) hc (fun b k h1 h2 => ?_) (fun b k h1 h2 => ?_) (fun b k h1 h2 q hq => ?_)
  · show VRow w (if b = b0 ∧ k = k0 then v else vv b k) (if b = b0 ∧ k = k0 then l else S.vt b k)
    by_cases e : b = b0 ∧ k = k0
    · rw [if_pos e, if_pos e]; exact hr
    · rw [if_neg e, if_neg e]; exact h.vrow b k h1 h2
  · show (if b = b0 ∧ k = k0 then l else S.vt b k).length ≤ c'
    by_cases e : b = b0 ∧ k = k0
    · rw [if_pos e]; exact hl
    · rw [if_neg e]; exact Nat.le_trans (h.vlen b k h1 h2) hc
  · by_cases e : b = b0 ∧ k = k0
    · simp only [e, and_self, if_true] at hq; exact ho q hq
    · simp only [e, if_false] at hq; exact h.voff b k h1 h2 q hq
theorem AgMem.setFixed (h : AgMem w0 n c B f ac vv S w) (b0 s0 : Nat) (hb : b0 < 9) (hk : s0 < 4) (x : Bool) :
    AgMem w0 n c B f ac vv { S with fixed := fun b s => if b = b0 ∧ s = s0 then x else S.fixed b s } (w.setCell ⟨B.hb, b0 * 18 + 10 + s0, none⟩ (.bool x)) :=
  h.setHb _ _ rfl rfl rfl rfl rfl (fun cs hc => hc.setFixed b0 s0 hb hk x) (Nat.le_refl _) h.vrow h.vlen h.voff
theorem AgMem.setValue (h : AgMem w0 n c B f ac vv S w) (b0 s0 : Nat) (hb : b0 < 9) (hk : s0 < 4) (x : ByteArray) :
    AgMem w0 n c B f ac vv { S with value := fun b s => if b = b0 ∧ s = s0 then x else S.value b s } (w.setCell ⟨B.hb, b0 * 18 + 14 + s0, none⟩ (.string x)) :=
  h.setHb _ _ rfl rfl rfl rfl rfl (fun cs hc => hc.setValue b0 s0 hb hk x) (Nat.le_refl _) h.vrow h.vlen h.voff
theorem AgMem.setTook (h : AgMem w0 n c B f ac vv S w) (b0 s0 k0 : Nat) (hb : b0 < 9) (hs : s0 < 4) (hk : k0 < 5) :
    AgMem w0 n c B f ac vv { S with took := fun b s k => if b = b0 ∧ s = s0 ∧ k = k0 then true else S.took b s k } (w.setCell ⟨B.tb, b0 * 20 + s0 * 5 + k0, none⟩ (.bool true)) := by
  have hset : Chg (One B.tb) w (w.setCell ⟨B.tb, b0 * 20 + s0 * 5 + k0, none⟩ (.bool true)) := (Chg.refl _ _).setCell _ _ (fun _ => rfl)
  obtain ⟨h1, h2, h3⟩ := h.others (.inr (.inr (.inr (.inl rfl)))) hset
  obtain ⟨o1, o2, o3, o4, o5⟩ := h.ord
  obtain ⟨dcs, hd, hd2⟩ := h.dc
  obtain ⟨acs, ha, ha2⟩ := h.ac
  obtain ⟨hcs, hh, hh2⟩ := h.hc
  obtain ⟨tcs, ht, ht2⟩ := h.tc
  obtain ⟨ccs, ics, hc1, hic, hc2⟩ := h.cc
  exact ⟨h1, h.log, h.len, h.disj, h.off, h.new, h.ord, h.bnew, ⟨dcs, hd.setOther (by simp; omega) _, hd2⟩, ⟨acs, ha.setOther (by simp; omega) _, ha2⟩, ⟨hcs, hh.setOther (by simp; omega) _, ⟨hh2.size, hh2.said, hh2.vote, hh2.fixed, hh2.value⟩⟩, ⟨_, ht.set _ _, ht2.set b0 s0 k0 hb hs hk⟩,
    ⟨ccs, ics, hc1.setOther (by simp; omega) _, hic.setOther (by simp; omega) _, ⟨hc2.size, hc2.chosen, hc2.is⟩⟩, h2, h.vlen, h.voff, h3, h.five⟩
theorem AgMem.setChosen (h : AgMem w0 n c B f ac vv S w) (s0 : Nat) (hs : s0 < 4) (x : ByteArray) :
    AgMem w0 n c B f ac vv { S with is := fun s => if s = s0 then true else S.is s, chosen := fun s => if s = s0 then x else S.chosen s } ((w.setCell ⟨B.ib, s0, none⟩ (.bool true)).setCell ⟨B.cb, s0, none⟩ (.string x)) := by
  have hset1 : Chg (One B.ib) w (w.setCell ⟨B.ib, s0, none⟩ (.bool true)) := (Chg.refl _ _).setCell _ _ (fun _ => rfl)
  have hset2 : Chg (One B.cb) (w.setCell ⟨B.ib, s0, none⟩ (.bool true)) ((w.setCell ⟨B.ib, s0, none⟩ (.bool true)).setCell ⟨B.cb, s0, none⟩ (.string x)) := (Chg.refl _ _).setCell _ _ (fun _ => rfl)
  have hset : Chg (fun q => q = B.ib ∨ q = B.cb) w ((w.setCell ⟨B.ib, s0, none⟩ (.bool true)).setCell ⟨B.cb, s0, none⟩ (.string x)) := (hset1.mono (fun _ _ h => .inl h)).trans hset2 (fun _ _ h => .inr h)
  obtain ⟨o1, o2, o3, o4, o5⟩ := h.ord
  obtain ⟨dcs, hd, hd2⟩ := h.dc
  obtain ⟨acs, ha, ha2⟩ := h.ac
  obtain ⟨hcs, hh, hh2⟩ := h.hc
  obtain ⟨tcs, ht, ht2⟩ := h.tc
  obtain ⟨ccs, ics, hc1, hic, hc2⟩ := h.cc
  have hB : ∀ q, (q = B.ib ∨ q = B.cb) → B.has q := fun q hq => by
    rcases hq with rfl | rfl
    · exact .inr (.inr (.inr (.inr (.inr rfl))))
    · exact .inr (.inr (.inr (.inr (.inl rfl))))
  refine ⟨fun j hj => (h.acc j hj).kept hset (fun q hq e => h.off j hj q hq (hB q e)), h.log, h.len, h.disj, h.off, h.new, h.ord, h.bnew, ⟨dcs, hd.kept hset (by omega), hd2⟩, ⟨acs, ha.kept hset (by omega), ha2⟩, ⟨hcs, hh.kept hset (by omega), ⟨hh2.size, hh2.said, hh2.vote, hh2.fixed, hh2.value⟩⟩, ⟨tcs, ht.kept hset (by omega), ⟨ht2.size, ht2.took⟩⟩,
    ⟨_, _, (hc1.setOther (by simp; omega) _).set s0 _, (hic.set s0 _).setOther (by simp; omega) _, hc2.set s0 hs x⟩, fun b k hb hk => Row.kept (h.vrow b k hb hk) hset (fun q hq e => (h.voff b k hb hk q hq).1 (hB q e)), h.vlen, h.voff, h.chg.trans hset (fun q hq e => by have := h.bge (hB q e); omega), h.five⟩
end
end Go.Proofs.Ytfmcfcjcmmlmfaa

/- An acceptor's state, by what it promised and accepted. -/
import Derived.Test.YtfmcfcjcmmlmfaaPickW
import Derived.Test.YtfmcfcjcmmlmfaaBallot5W
import Derived.Test.YtfmcfcjcmmlmfaaDiskB
namespace Go.Proofs.Ytfmcfcjcmmlmfaa
open Go Go.RowKit Go.Maps
set_option linter.unusedVariables false

def prepP (p b : Int) : Int := if whyF p b = 0 ∧ p < b then b else p
def accCodeP (p : Int) (m : List VT) (x : VT) : Int :=
  if whyF p x.b = 231 then 231
  else if ¬ (1 ≤ x.slot ∧ x.slot ≤ 1000) then 232
  else if 1000 < x.s.size then 233
  else if ¬ whyF p x.b = 0 then whyF p x.b
  else match getK VT.slot m x.slot with
    | some o => if o.b = x.b ∧ o.s ≠ x.s then 235 else 0
    | none => 0
def accHasP (m : List VT) (x : VT) : Bool :=
  match getK VT.slot m x.slot with
  | some o => decide (o.b = x.b)
  | none => false
def accVotes (p : Int) (m : List VT) (x : VT) : List VT := if accCodeP p m x = 0 ∧ accHasP m x = false then putK VT.slot x m else m
def accProm (p : Int) (m : List VT) (x : VT) : Int := if accCodeP p m x = 0 ∧ accHasP m x = false then max p x.b else p

structure AIs (A : AccS) (i : Nat) (p : Int) (m : List VT) (n : Nat) : Prop where
  prom : A.prom = p
  votes : A.votes = m
  log : ∀ l, A.D.logs[i]? = some l → l.1.length ≤ n

theorem put_log {D : DiskS} {i : Nat} {ys : List UInt8} {l : List UInt8 × Nat} (h : (D.put i ys).logs[i]? = some l) : ∃ l0, D.logs[i]? = some l0 ∧ l = (l0.1 ++ ys, l0.2) := by
  unfold DiskS.put at h
  cases hg : D.logs[i]? with
  | none => rw [hg] at h; simp only at h; rw [hg] at h; cases h
  | some l0 =>
    rw [hg] at h
    have hi := (List.getElem?_eq_some_iff.1 hg).1
    simp only [List.getElem?_set_self hi, Option.some.injEq] at h
    exact ⟨l0, rfl, h.symm⟩
theorem why_zero {p b : Int} (h : whyF p b = 0) : (1 ≤ b ∧ b ≤ 1099511627776) ∧ p ≤ b := by
  unfold whyF at h
  by_cases h1 : 1 ≤ b ∧ b ≤ 1099511627776
  · rw [if_neg (fun h => h h1)] at h
    by_cases h2 : b < p
    · rw [if_pos h2] at h; cases h
    · exact ⟨h1, by omega⟩
  · rw [if_pos h1] at h; cases h
theorem acc_zero {p : Int} {m : List VT} {x : VT} (h : accCodeP p m x = 0) : whyF p x.b = 0 ∧ (1 ≤ x.slot ∧ x.slot ≤ 1000) ∧ x.s.size ≤ 1000 := by
  unfold accCodeP at h
  by_cases h1 : whyF p x.b = 231
  · rw [if_pos h1] at h; cases h
  rw [if_neg h1] at h
  by_cases h2 : 1 ≤ x.slot ∧ x.slot ≤ 1000
  · rw [if_neg (fun h => h h2)] at h
    by_cases h3 : 1000 < x.s.size
    · rw [if_pos h3] at h; cases h
    · rw [if_neg h3] at h
      by_cases h4 : whyF p x.b = 0
      · exact ⟨h4, h2, by omega⟩
      · rw [if_pos h4] at h; exact absurd h h4
  · rw [if_pos h2] at h; cases h
theorem seal_len (bs : List UInt8) : (sealF bs).length = bs.length + 8 := by
  unfold sealF; simp [fourB]; try omega

theorem AIs.prep {A : AccS} {i : Nat} {p : Int} {m : List VT} {n : Nat} (h : AIs A i p m n) (b : Int) : AIs (A.prep i b) i (prepP p b) m (n + 4100) := by
  obtain ⟨rfl, rfl, hl⟩ := h
  unfold AccS.prep prepP
  split
  · rename_i hc
    refine ⟨rfl, rfl, fun l hg => ?_⟩
    obtain ⟨l0, h0, rfl⟩ := put_log hg
    have h1 := hl l0 h0
    have h2 := packB_len (recP b) (recP_ok b (why_zero hc.1).1)
    have h3 : (recP b).length = 2 := rfl
    rw [h3] at h2
    simp only [List.length_append, seal_len]
    omega
  · exact ⟨rfl, rfl, fun l hg => by have := hl l hg; omega⟩
theorem AIs.acpt {A : AccS} {i : Nat} {p : Int} {m : List VT} {n : Nat} (h : AIs A i p m n) (x : VT) : AIs (A.acpt i x) i (accProm p m x) (accVotes p m x) (n + 4100) := by
  obtain ⟨rfl, rfl, hl⟩ := h
  unfold AccS.acpt accProm accVotes
  have e1 : accCode A x = accCodeP A.prom A.votes x := rfl
  have e2 : accHas A x = accHasP A.votes x := rfl
  rw [e1, e2]
  split
  · rename_i hc
    obtain ⟨z1, z2, z3⟩ := acc_zero hc.1
    refine ⟨rfl, rfl, fun l hg => ?_⟩
    obtain ⟨l0, h0, rfl⟩ := put_log hg
    have h1 := hl l0 h0
    have h2 := packB_len (recA x) (recA_ok x (why_zero z1).1 z2 z3)
    have h3 : (recA x).length = 4 := rfl
    rw [h3] at h2
    simp only [List.length_append, seal_len]
    omega
  · exact ⟨rfl, rfl, fun l hg => by have := hl l hg; omega⟩
theorem AIs.code {A : AccS} {i : Nat} {p : Int} {m : List VT} {n : Nat} (h : AIs A i p m n) (x : VT) : accCode A x = accCodeP p m x := by obtain ⟨rfl, rfl, _⟩ := h; rfl

/-- a sync -/
def AccS.syncd (A : AccS) (i : Nat) : AccS := { A with s := A.a, D := A.D.synced i }
theorem synced_len (D : DiskS) (i : Nat) : (D.synced i).logs.length = D.logs.length := by unfold DiskS.synced; split <;> simp
theorem synced_up (D : DiskS) (i : Nat) : (D.synced i).down = D.down ∧ (D.synced i).armed = D.armed := by unfold DiskS.synced; split <;> simp
theorem synced_log {D : DiskS} {i : Nat} {l : List UInt8 × Nat} (h : (D.synced i).logs[i]? = some l) : ∃ l0, D.logs[i]? = some l0 ∧ l = (l0.1, l0.1.length) := by
  unfold DiskS.synced at h
  cases hg : D.logs[i]? with
  | none => rw [hg] at h; simp only at h; rw [hg] at h; cases h
  | some l0 =>
    rw [hg] at h
    have hi := (List.getElem?_eq_some_iff.1 hg).1
    simp only [List.getElem?_set_self hi, Option.some.injEq] at h
    exact ⟨l0, rfl, h.symm⟩
theorem AIs.syncd {A : AccS} {i : Nat} {p : Int} {m : List VT} {n : Nat} (h : AIs A i p m n) : AIs (A.syncd i) i p m n := by
  obtain ⟨rfl, rfl, hl⟩ := h
  refine ⟨rfl, rfl, fun l hg => ?_⟩
  obtain ⟨l0, h0, rfl⟩ := synced_log hg
  exact hl l0 h0

theorem sync_state (w : World) (ab wb mb d i : Nat) (F : Nat → Prop) (A : AccS) (h : AccAt w ab wb mb d i F A) :
    Calls Try.prog 18 #[.pointer (some ⟨wb, 0, none⟩)] w fun e w' => e = .returned (.int .i64 0) ∧ AccPost w ab wb mb d i F (A.syncd i) w' := by
  obtain ⟨l, hg⟩ : ∃ l, A.D.logs[i]? = some l := ⟨_, List.getElem?_eq_getElem h.log⟩
  refine (wSync w wb d F i A.a A.s A.D l h.on.wal h.disk h.fw hg h.up h.arm).mono ?_
  rintro e w' ⟨rfl, h1, F', h2, h3, h4⟩
  have ha := h.on.head.lt
  have hm := IMap.lt h.on.map
  have hw := h.on.wal.lt
  have n1 := h.on.n1
  have n2 := h.on.n2
  have n3 := h.on.n3
  refine ⟨rfl, F', ⟨⟨h.on.head.kept h3.chg ?_, IMap.kept h.on.map h3.chg ?_, h1, n1, n2, n3⟩, h2, ?_, ?_, ?_, ?_, ?_, ?_, h.few, h.slots⟩, ?_, ?_⟩
  · rintro (hj | hj)
    · exact h.fa hj
    · exact n1 hj
  · rintro (hj | hj)
    · exact h.fm hj
    · exact n3 hj.symm
  · intro hj; rcases h4 _ hj with hj | hj
    · exact h.fa hj
    · omega
  · intro hj; rcases h4 _ hj with hj | hj
    · exact h.fw hj
    · omega
  · intro hj; rcases h4 _ hj with hj | hj
    · exact h.fm hj
    · omega
  · show i < (A.D.synced i).logs.length
    rw [synced_len]; exact h.log
  · show (A.D.synced i).down = false
    rw [(synced_up _ _).1]; exact h.up
  · show (A.D.synced i).armed = 0
    rw [(synced_up _ _).2]; exact h.arm
  · exact h3.chg.mono (fun j _ hj => hj.elim .inl (fun e => .inr (.inr (.inl e))))
  · rintro j (hj | hj | hj | hj)
    · exact (h4 j hj).imp .inl id
    · exact .inl (.inr (.inl hj))
    · exact .inl (.inr (.inr (.inl hj)))
    · exact .inl (.inr (.inr (.inr hj)))

/-- the new disk of one log -/
def disk1 : DiskS := ⟨[([], 0)], 0, false, 0⟩
theorem disk1_opened : disk1.opened 0 = disk1 := by
  have h : scanF 1 [] = ([], 0) := by unfold scanF; rfl
  unfold disk1 DiskS.opened; simp [h]
theorem disk1_loads : disk1.loads 0 = [] := by
  have h : scanF 1 [] = ([], 0) := by unfold scanF; rfl
  unfold disk1 DiskS.loads; simp [h]
theorem fresh_is : AIs (AccS.fresh disk1 0) 0 0 [] 0 := ⟨rfl, rfl, fun l hl => by
  have h : (AccS.fresh disk1 0).D = disk1 := disk1_opened
  rw [h] at hl
  have : l = ([], 0) := by simpa [disk1] using hl.symm
  rw [this]; exact Nat.le_refl _⟩

/-- the contracts, by what was promised and accepted -/
def PrepIs (w : World) (ab wb mb d i : Nat) (F : Nat → Prop) (c p' : Int) (m l : List VT) (n : Nat) (e : Ending) (w' : World) : Prop :=
  ∃ A' v F', AIs A' i p' m n ∧ e = .returned (.tuple #[v, .int .i64 c]) ∧ AccAt w' ab wb mb d i F' A' ∧ Upd w (accF F ab wb mb) w' (accF F' ab wb mb) ∧ VRow w' v l ∧ Fresh w v ∧ ∀ j, v.ownBlock = some j → ¬ accF F' ab wb mb j
theorem prepare_is (w : World) (ab wb mb d i : Nat) (F : Nat → Prop) (A : AccS) (p : Int) (m : List VT) (n : Nat) (b : Int) (h : AccAt w ab wb mb d i F A) (hI : AIs A i p m n) (hn : n ≤ 4000000)
    (c p' : Int) (l : List VT) (hc : whyF p b = c) (hp : prepP p b = p') (hl : (if whyF p b = 0 then m else []) = l) :
    Calls Try.prog 14 #[.pointer (some ⟨ab, 0, none⟩), .int .i64 b] w (PrepIs w ab wb mb d i F c p' m l (n + 4100)) := by
  subst hc; subst hp; subst hl
  refine (prepare_ok w ab wb mb d i F A b h (fun l hl => Nat.le_trans (hI.log l hl) hn)).mono ?_
  rintro e w' ⟨v, rfl, F', h1, h2, h3, h4, h5⟩
  have hP := hI.prep b
  obtain ⟨rfl, rfl, _⟩ := hI
  exact ⟨A.prep i b, v, F', hP, rfl, h1, h2, h3, h4, h5⟩
def AccIs (w : World) (ab wb mb d i : Nat) (F : Nat → Prop) (c p' : Int) (m' : List VT) (n : Nat) (e : Ending) (w' : World) : Prop :=
  ∃ A' F', AIs A' i p' m' n ∧ e = .returned (.int .i64 c) ∧ AccAt w' ab wb mb d i F' A' ∧ Upd w (accF F ab wb mb) w' (accF F' ab wb mb)
theorem accept_is (w : World) (ab wb mb d i : Nat) (F : Nat → Prop) (A : AccS) (p : Int) (m : List VT) (n : Nat) (b k : Int) (s : ByteArray) (h : AccAt w ab wb mb d i F A) (hI : AIs A i p m n) (hn : n ≤ 4000000) (hm : m.length < 1000000) (hk : i64r k)
    (c p' : Int) (m' : List VT) (hc : accCodeP p m ⟨k, b, s⟩ = c) (hp : accProm p m ⟨k, b, s⟩ = p') (hv : accVotes p m ⟨k, b, s⟩ = m') :
    Calls Try.prog 16 #[.pointer (some ⟨ab, 0, none⟩), .int .i64 b, .int .i64 k, .string s] w (AccIs w ab wb mb d i F c p' m' (n + 4100)) := by
  subst hc; subst hp; subst hv
  refine (accept_ok w ab wb mb d i F A ⟨k, b, s⟩ h (fun l hl => Nat.le_trans (hI.log l hl) hn) hk (by rw [hI.votes]; exact hm)).mono ?_
  rintro e w' ⟨rfl, F', h1, h2⟩
  exact ⟨A.acpt i ⟨k, b, s⟩, F', hI.acpt ⟨k, b, s⟩, by rw [hI.code], h1, h2⟩
theorem sync_is (w : World) (ab wb mb d i : Nat) (F : Nat → Prop) (A : AccS) (p : Int) (m : List VT) (n : Nat) (h : AccAt w ab wb mb d i F A) (hI : AIs A i p m n) :
    Calls Try.prog 18 #[.pointer (some ⟨wb, 0, none⟩)] w (AccIs w ab wb mb d i F 0 p m n) := by
  refine (sync_state w ab wb mb d i F A h).mono ?_
  rintro e w' ⟨rfl, F', h1, h2⟩
  exact ⟨A.syncd i, F', hI.syncd, rfl, h1, h2⟩
end Go.Proofs.Ytfmcfcjcmmlmfaa

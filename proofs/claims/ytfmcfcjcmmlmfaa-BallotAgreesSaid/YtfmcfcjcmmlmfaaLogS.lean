/- An acceptor's state, by the records of its log. -/
import Derived.Test.YtfmcfcjcmmlmfaaOpenW
namespace Go.Proofs.Ytfmcfcjcmmlmfaa
open Go Go.RowKit Go.Maps
set_option linter.unusedVariables false

/-- a record that an acceptor lays in a state -/
def okR (s : Int × List VT) : RecT → Prop
  | .p b => whyF s.1 b = 0 ∧ s.1 < b
  | .a x => accCodeP s.1 s.2 x = 0 ∧ accHasP s.2 x = false
def ValidR : Int × List VT → List RecT → Prop
  | _, [] => True
  | s, r :: t => okR s r ∧ ValidR (stepR s r) t
def foldR (s : Int × List VT) (l : List RecT) : Int × List VT := l.foldl stepR s
theorem foldR_append (s : Int × List VT) (a b : List RecT) : foldR s (a ++ b) = foldR (foldR s a) b := by simp [foldR]
theorem ValidR.append : ∀ {a b : List RecT} {s : Int × List VT}, ValidR s (a ++ b) ↔ ValidR s a ∧ ValidR (foldR s a) b
  | [], b, s => by simp [ValidR, foldR]
  | r :: t, b, s => by
    have ih := ValidR.append (a := t) (b := b) (s := stepR s r)
    simp only [List.cons_append, ValidR]
    rw [ih]
    have e : foldR s (r :: t) = foldR (stepR s r) t := rfl
    rw [e]
    constructor
    · rintro ⟨h1, h2, h3⟩; exact ⟨⟨h1, h2⟩, h3⟩
    · rintro ⟨⟨h1, h2⟩, h3⟩; exact ⟨h1, h2, h3⟩
theorem okR.step {s : Int × List VT} {r : RecT} (h : okR s r) {N : Nat} (hg : AGood s.1 s.2 N) : AGood (stepR s r).1 (stepR s r).2 (N + 1) ∧ Grows s.1 s.2 (stepR s r).1 (stepR s r).2 ∧ r.Ok := by
  cases r with
  | p b =>
    obtain ⟨h1, h2⟩ := h
    have e : stepR s (.p b) = (prepP s.1 b, s.2) := by
      show (max s.1 b, s.2) = (prepP s.1 b, s.2)
      have h3 : max s.1 b = b := Int.max_eq_right (Int.le_of_lt h2)
      rw [prep_eq h1, h3]
    rw [e]
    exact ⟨(hg.prep b).mono (by omega), Grows.prep s.1 b s.2, (why_zero h1).1⟩
  | a x =>
    obtain ⟨h1, h2⟩ := h
    have e : stepR s (.a x) = (accProm s.1 s.2 x, accVotes s.1 s.2 x) := by
      unfold stepR accProm accVotes
      rw [if_pos ⟨h1, h2⟩, if_pos ⟨h1, h2⟩]
    rw [e]
    obtain ⟨z1, z2, z3⟩ := acc_zero h1
    exact ⟨hg.acc x, hg.accGrows x, (why_zero z1).1, z2, z3⟩
theorem ValidR.grows : ∀ {l : List RecT} {s : Int × List VT} {N : Nat}, ValidR s l → AGood s.1 s.2 N → AGood (foldR s l).1 (foldR s l).2 (N + l.length) ∧ Grows s.1 s.2 (foldR s l).1 (foldR s l).2 ∧ ∀ r ∈ l, r.Ok
  | [], s, N, _, hg => ⟨by simpa [foldR] using hg, Grows.refl _ _, fun r hr => by cases hr⟩
  | r :: t, s, N, hv, hg => by
    obtain ⟨h1, h2, h3⟩ := hv.1.step hg
    obtain ⟨k1, k2, k3⟩ := ValidR.grows hv.2 h1
    refine ⟨k1.mono (by simp; omega), h2.trans k2, fun q hq => ?_⟩
    rcases List.mem_cons.1 hq with rfl | hq
    · exact h3
    · exact k3 q hq
def VR (l : List RecT) : Prop := ValidR (0, []) l
theorem VR.good {l : List RecT} (h : VR l) : AGood (stateR l).1 (stateR l).2 l.length := by
  have := (ValidR.grows h good0).1
  simpa [foldR, stateR] using this
theorem VR.ok {l : List RecT} (h : VR l) : ∀ r ∈ l, r.Ok := (ValidR.grows h good0).2.2
theorem VR.grows {a b : List RecT} (h : VR (a ++ b)) : Grows (stateR a).1 (stateR a).2 (stateR (a ++ b)).1 (stateR (a ++ b)).2 := by
  obtain ⟨h1, h2⟩ := ValidR.append.1 h
  have hg : AGood (foldR (0, []) a).1 (foldR (0, []) a).2 a.length := VR.good h1
  have := (ValidR.grows h2 hg).2.1
  rw [← foldR_append] at this
  exact this
theorem VR.pre {a b : List RecT} (h : VR (a ++ b)) : VR a := (ValidR.append.1 h).1
theorem VR.snoc {a : List RecT} {r : RecT} (h : VR a) (hr : okR (stateR a) r) : VR (a ++ [r]) := ValidR.append.2 ⟨h, hr, trivial⟩
theorem VR.nil : VR [] := trivial

/-- an acceptor at records, so many of which are sure -/
structure LogIs (A : AccS) (i : Nat) (rs : List RecT) (n : Nat) : Prop where
  prom : A.prom = (stateR rs).1
  votes : A.votes = (stateR rs).2
  log : A.D.logs[i]? = some (logB rs, (logB (rs.take n)).length)
  le : n ≤ rs.length
  ok : VR rs
  cnt : A.D.logs.length ≤ 4194304

def prepL (rs : List RecT) (b : Int) : List RecT := if whyF (stateR rs).1 b = 0 ∧ (stateR rs).1 < b then rs ++ [.p b] else rs
def accL (rs : List RecT) (x : VT) : List RecT := if accCodeP (stateR rs).1 (stateR rs).2 x = 0 ∧ accHasP (stateR rs).2 x = false then rs ++ [.a x] else rs
theorem prepL_len (rs : List RecT) (b : Int) : rs.length ≤ (prepL rs b).length ∧ (prepL rs b).length ≤ rs.length + 1 := by unfold prepL; split <;> simp
theorem accL_len (rs : List RecT) (x : VT) : rs.length ≤ (accL rs x).length ∧ (accL rs x).length ≤ rs.length + 1 := by unfold accL; split <;> simp
theorem prepL_pre (rs : List RecT) (b : Int) : ∃ t, prepL rs b = rs ++ t := by
  unfold prepL; split
  · exact ⟨_, rfl⟩
  · exact ⟨[], by simp⟩
theorem accL_pre (rs : List RecT) (x : VT) : ∃ t, accL rs x = rs ++ t := by
  unfold accL; split
  · exact ⟨_, rfl⟩
  · exact ⟨[], by simp⟩

theorem put_get {D : DiskS} {i : Nat} {ys : List UInt8} {l : List UInt8 × Nat} (h : D.logs[i]? = some l) : (D.put i ys).logs[i]? = some (l.1 ++ ys, l.2) := by
  have hi := (List.getElem?_eq_some_iff.1 h).1
  unfold DiskS.put
  rw [h]
  simp [hi]
theorem LogIs.lay {A : AccS} {i : Nat} {rs : List RecT} {n : Nat} (h : LogIs A i rs n) (r : RecT) (hr : okR (stateR rs) r) (p : Int) (m : List VT) (hp : (p, m) = stepR (stateR rs) r) : LogIs { A.laid i r.wv with prom := p, votes := m } i (rs ++ [r]) n := by
  have e : stateR (rs ++ [r]) = (p, m) := by rw [stateR_snoc, hp]
  refine ⟨by rw [e], by rw [e], ?_, by have := h.le; simp; omega, h.ok.snoc hr, by show (A.D.put i _).logs.length ≤ _; rw [put_len]; exact h.cnt⟩
  show (A.D.put i (sealF (packB r.wv))).logs[i]? = _
  rw [put_get h.log, logB_append, List.take_append_of_le_length h.le]
  simp [logB, RecT.load]
theorem LogIs.prep {A : AccS} {i : Nat} {rs : List RecT} {n : Nat} (h : LogIs A i rs n) (b : Int) : LogIs (A.prep i b) i (prepL rs b) n := by
  unfold AccS.prep prepL
  rw [h.prom]
  by_cases hc : whyF (stateR rs).1 b = 0 ∧ (stateR rs).1 < b
  · rw [if_pos hc, if_pos hc]
    have := h.lay (.p b) hc b A.votes (by
      show (b, A.votes) = (max (stateR rs).1 b, (stateR rs).2)
      have h3 : max (stateR rs).1 b = b := Int.max_eq_right (Int.le_of_lt hc.2)
      rw [h.votes, h3])
    exact this
  · rw [if_neg hc, if_neg hc]; exact h
theorem LogIs.acpt {A : AccS} {i : Nat} {rs : List RecT} {n : Nat} (h : LogIs A i rs n) (x : VT) : LogIs (A.acpt i x) i (accL rs x) n := by
  have e1 : accCode A x = accCodeP (stateR rs).1 (stateR rs).2 x := by rw [← h.prom, ← h.votes]; rfl
  have e2 : accHas A x = accHasP (stateR rs).2 x := by rw [← h.votes]; rfl
  unfold AccS.acpt accL
  rw [e1, e2]
  by_cases hc : accCodeP (stateR rs).1 (stateR rs).2 x = 0 ∧ accHasP (stateR rs).2 x = false
  · rw [if_pos hc, if_pos hc]
    exact h.lay (.a x) hc _ _ (by unfold stepR; rw [h.prom, h.votes])
  · rw [if_neg hc, if_neg hc]; exact h
theorem synced_get {D : DiskS} {i : Nat} {l : List UInt8 × Nat} (h : D.logs[i]? = some l) : (D.synced i).logs[i]? = some (l.1, l.1.length) := by
  have hi := (List.getElem?_eq_some_iff.1 h).1
  unfold DiskS.synced
  rw [h]
  simp [hi]
theorem LogIs.syncd {A : AccS} {i : Nat} {rs : List RecT} {n : Nat} (h : LogIs A i rs n) : LogIs (A.syncd i) i rs rs.length := by
  refine ⟨h.prom, h.votes, ?_, Nat.le_refl _, h.ok, by show (A.D.synced i).logs.length ≤ _; rw [synced_len]; exact h.cnt⟩
  show (A.D.synced i).logs[i]? = _
  rw [synced_get h.log, List.take_length]
theorem LogIs.small {A : AccS} {i : Nat} {rs : List RecT} {n : Nat} (h : LogIs A i rs n) (hn : rs.length ≤ 900) : ∀ l, A.D.logs[i]? = some l → l.1.length ≤ 4000000 := by
  intro l hl
  rw [h.log] at hl
  cases hl
  have := logB_len rs h.ok.ok
  show (logB rs).length ≤ 4000000
  omega

/-- the contracts, by records -/
def PrepLs (w : World) (ab wb mb d i : Nat) (F : Nat → Prop) (rs : List RecT) (n : Nat) (b : Int) (e : Ending) (w' : World) : Prop :=
  ∃ A' v F', LogIs A' i (prepL rs b) n ∧ e = .returned (.tuple #[v, .int .i64 (whyF (stateR rs).1 b)]) ∧ AccAt w' ab wb mb d i F' A' ∧ Upd w (accF F ab wb mb) w' (accF F' ab wb mb) ∧ VRow w' v (if whyF (stateR rs).1 b = 0 then (stateR rs).2 else []) ∧ Fresh w v ∧ ∀ j, v.ownBlock = some j → ¬ accF F' ab wb mb j
theorem prepare_ls (w : World) (ab wb mb d i : Nat) (F : Nat → Prop) (A : AccS) (rs : List RecT) (n : Nat) (b : Int) (h : AccAt w ab wb mb d i F A) (hI : LogIs A i rs n) (hn : rs.length ≤ 900) :
    Calls Try.prog 14 #[.pointer (some ⟨ab, 0, none⟩), .int .i64 b] w (PrepLs w ab wb mb d i F rs n b) := by
  refine (prepare_ok w ab wb mb d i F A b h (hI.small hn)).mono ?_
  rintro e w' ⟨v, rfl, F', h1, h2, h3, h4, h5⟩
  rw [hI.prom, hI.votes] at h3
  rw [hI.prom]
  exact ⟨A.prep i b, v, F', hI.prep b, rfl, h1, h2, h3, h4, h5⟩
def AccLs (w : World) (ab wb mb d i : Nat) (F : Nat → Prop) (rs : List RecT) (n : Nat) (c : Int) (e : Ending) (w' : World) : Prop :=
  ∃ A' F', LogIs A' i rs n ∧ e = .returned (.int .i64 c) ∧ AccAt w' ab wb mb d i F' A' ∧ Upd w (accF F ab wb mb) w' (accF F' ab wb mb)
theorem accept_ls (w : World) (ab wb mb d i : Nat) (F : Nat → Prop) (A : AccS) (rs : List RecT) (n : Nat) (b k : Int) (s : ByteArray) (h : AccAt w ab wb mb d i F A) (hI : LogIs A i rs n) (hn : rs.length ≤ 900) (hk : i64r k) :
    Calls Try.prog 16 #[.pointer (some ⟨ab, 0, none⟩), .int .i64 b, .int .i64 k, .string s] w (AccLs w ab wb mb d i F (accL rs ⟨k, b, s⟩) n (accCodeP (stateR rs).1 (stateR rs).2 ⟨k, b, s⟩)) := by
  have hm := stateR_len rs
  refine (accept_ok w ab wb mb d i F A ⟨k, b, s⟩ h (hI.small hn) hk (by rw [hI.votes]; omega)).mono ?_
  rintro e w' ⟨rfl, F', h1, h2⟩
  refine ⟨A.acpt i ⟨k, b, s⟩, F', hI.acpt ⟨k, b, s⟩, ?_, h1, h2⟩
  rw [← hI.prom, ← hI.votes]; rfl
theorem sync_ls (w : World) (ab wb mb d i : Nat) (F : Nat → Prop) (A : AccS) (rs : List RecT) (n : Nat) (h : AccAt w ab wb mb d i F A) (hI : LogIs A i rs n) :
    Calls Try.prog 18 #[.pointer (some ⟨wb, 0, none⟩)] w (AccLs w ab wb mb d i F rs rs.length 0) := by
  refine (sync_state w ab wb mb d i F A h).mono ?_
  rintro e w' ⟨rfl, F', h1, h2⟩
  exact ⟨A.syncd i, F', hI.syncd, rfl, h1, h2⟩
theorem fresh_log : LogIs (AccS.fresh disk1 0) 0 [] 0 := by
  have h : (AccS.fresh disk1 0).D = disk1 := disk1_opened
  refine ⟨rfl, rfl, ?_, Nat.le_refl _, VR.nil, by rw [h]; show 1 ≤ 4194304; omega⟩
  rw [h]
  rfl

/-- a disk's log behind a loss of power -/
theorem torn_log {D : DiskS} {i : Nat} {rs : List RecT} {n k : Nat} (hok : VR rs) (hn : n ≤ rs.length) (hk : (logB (rs.take n)).length ≤ k) (hk2 : k ≤ (logB rs).length) (h : D.logs[i]? = some ((logB rs).take k, k)) (hcnt : D.logs.length ≤ 4194304) :
    ∃ j, n ≤ j ∧ j ≤ rs.length ∧ D.loads i = (rs.take j).map RecT.load ∧ LogIs (AccS.ofRecs (rs.take j) D i) i (rs.take j) j := by
  have hl : ((logB rs).take k).length = k := by rw [List.length_take]; omega
  have hlen : (logB rs).length ≤ (logB rs).length := Nat.le_refl _
  obtain ⟨j, hs⟩ := scanF_log rs (k + 1) k hok.ok (by omega)
  have hsc : scanF (((logB rs).take k).length + 1) ((logB rs).take k) = ((rs.take j).map RecT.load, (logB (rs.take j)).length) := by rw [hl]; exact hs.eq
  have hlo : D.loads i = (rs.take j).map RecT.load := by
    unfold DiskS.loads
    rw [h]
    simp only
    rw [hsc]
  have hfit := hs.fits
  have htk : ((logB rs).take k).take (logB (rs.take j)).length = logB (rs.take j) := by
    rw [List.take_take, Nat.min_eq_left hfit]
    have e : logB rs = logB (rs.take j) ++ logB (rs.drop j) := by rw [← logB_append, List.take_append_drop]
    rw [e, List.take_left]
  have hi := (List.getElem?_eq_some_iff.1 h).1
  have hjl : (rs.take j).length = j := by rw [List.length_take]; have := hs.le; omega
  have hop : (D.opened i).logs[i]? = some (logB (rs.take j), (logB (rs.take j)).length) := by
    unfold DiskS.opened
    rw [h]
    simp only
    rw [hsc, hl]
    simp only
    by_cases hlt : (logB (rs.take j)).length < k
    · rw [if_pos hlt, htk]
      simp [DiskS.swapped, hi]
    · have hk3 : k = (logB (rs.take j)).length := by omega
      rw [if_neg hlt, if_neg (by omega), h]
      rw [hk3] at htk ⊢
      rw [List.take_take, Nat.min_self] at htk
      rw [htk]
  refine ⟨j, hs.most n hn hk, hs.le, hlo, rfl, rfl, ?_, by omega, ?_, by show (D.opened i).logs.length ≤ _; rw [opened_len]; exact hcnt⟩
  · have e : (rs.take j).take j = rs.take j := by rw [List.take_take, Nat.min_self]
    rw [e]
    exact hop
  · have e : rs = rs.take j ++ rs.drop j := (List.take_append_drop j rs).symm
    rw [e] at hok
    exact hok.pre
end Go.Proofs.Ytfmcfcjcmmlmfaa

/- The records of an acceptor's log; what a log says, how it is cut: plain. -/
import Derived.Test.YtfmcfcjcmmlmfaaRisesP
namespace Go.Proofs.Ytfmcfcjcmmlmfaa
open Go Go.RowKit Go.Maps
set_option linter.unusedVariables false

inductive RecT where
  | p (b : Int)
  | a (x : VT)
def RecT.wv : RecT → List WV
  | .p b => recP b
  | .a x => recA x
def RecT.Ok : RecT → Prop
  | .p b => 1 ≤ b ∧ b ≤ 1099511627776
  | .a x => (1 ≤ x.b ∧ x.b ≤ 1099511627776) ∧ (1 ≤ x.slot ∧ x.slot ≤ 1000) ∧ x.s.size ≤ 1000
def RecT.load (r : RecT) : List UInt8 := packB r.wv
def stepR (s : Int × List VT) : RecT → Int × List VT
  | .p b => (max s.1 b, s.2)
  | .a x => (max s.1 x.b, putK VT.slot x s.2)
def stateR (l : List RecT) : Int × List VT := l.foldl stepR (0, [])
theorem stateR_snoc (l : List RecT) (r : RecT) : stateR (l ++ [r]) = stepR (stateR l) r := by simp [stateR]
theorem stateR_take {l : List RecT} {k : Nat} {r : RecT} (h : l[k]? = some r) : stateR (l.take (k + 1)) = stepR (stateR (l.take k)) r := by
  rw [List.take_add_one, h]; exact stateR_snoc _ _
theorem RecT.wv_ok {r : RecT} (h : r.Ok) : ∀ v ∈ r.wv, v.Ok := by
  cases r with
  | p b => exact recP_ok b h
  | a x => exact recA_ok x h.1 h.2.1 h.2.2
theorem RecT.load_len {r : RecT} (h : r.Ok) : r.load.length ≤ 4044 := by
  have h1 := packB_len r.wv (RecT.wv_ok h)
  have h2 : r.wv.length ≤ 4 := by cases r <;> simp [RecT.wv, recP, recA]
  unfold RecT.load
  omega
theorem stepR_len (s : Int × List VT) (r : RecT) : (stepR s r).2.length ≤ s.2.length + 1 := by
  cases r with
  | p b => simp [stepR]
  | a x => exact putK_len x s.2
theorem stateR_len (l : List RecT) : (stateR l).2.length ≤ l.length := by
  suffices h : ∀ (l : List RecT) (s : Int × List VT), (l.foldl stepR s).2.length ≤ s.2.length + l.length by simpa [stateR] using h l (0, [])
  intro l
  induction l with
  | nil => intro s; simp
  | cons r t ih => intro s; have h1 := ih (stepR s r); have h2 := stepR_len s r; simp only [List.foldl_cons, List.length_cons]; omega
theorem stateR_slots : ∀ (n : Nat) (l : List RecT), l.length = n → (∀ r ∈ l, r.Ok) → ∀ x ∈ (stateR l).2, 1 ≤ x.slot ∧ x.slot ≤ 1000
  | 0, l, h, _, x, hx => by
    have : l = [] := List.eq_nil_of_length_eq_zero h
    subst this
    cases hx
  | n + 1, l, h, hok, x, hx => by
    have hne : l ≠ [] := by intro e; subst e; simp at h
    obtain ⟨t, r, rfl⟩ : ∃ t r, l = t ++ [r] := ⟨l.dropLast, l.getLast hne, (List.dropLast_concat_getLast hne).symm⟩
    have ih := stateR_slots n t (by simpa using h) (fun r hr => hok r (by simp [hr]))
    rw [stateR_snoc] at hx
    have hr := hok r (by simp)
    cases r with
    | p b => exact ih x hx
    | a y =>
      rcases (mem_putK VT.slot y x _).1 hx with rfl | ⟨hx, _⟩
      · exact hr.2.1
      · exact ih x hx

/-- the bytes of a log -/
def logB (l : List RecT) : List UInt8 := l.flatMap fun r => sealF r.load
theorem logB_append (a b : List RecT) : logB (a ++ b) = logB a ++ logB b := by simp [logB]
theorem openF_whole {B : List UInt8} (h1 : ¬ B.length < 8) (h2 : ¬ 65536 < be4 B) (h3 : ¬ B.length - 8 < be4 B) (h4 : crcN (B.take 4) ((B.drop 8).take (be4 B)) = be4 (B.drop 4)) : openF B = .ok ((B.drop 8).take (be4 B)) := by
  unfold openF; rw [if_neg h1, if_neg h2, if_neg h3, if_pos h4]
theorem openF_short {B : List UInt8} (h : B.length < 8) : openF B = .error 31 := by
  unfold openF; rw [if_pos h]
theorem openF_part {B : List UInt8} (h1 : ¬ B.length < 8) (h2 : ¬ 65536 < be4 B) (h3 : B.length - 8 < be4 B) : openF B = .error 31 := by
  unfold openF; rw [if_neg h1, if_neg h2, if_pos h3]
theorem openF_seal (x r : List UInt8) (h : x.length ≤ 65536) : openF (sealF x ++ r) = .ok x := by
  have hl : (sealF x ++ r).length = 8 + x.length + r.length := by rw [List.length_append, sealF_length]
  have e : sealF x ++ r = fourB x.length ++ (fourB (crcN (fourB x.length) x) ++ (x ++ r)) := by simp only [sealF, List.append_assoc]
  have h4 : be4 (sealF x ++ r) = x.length := by rw [e]; exact be4_four _ (by omega) _
  have ht : (sealF x ++ r).take 4 = fourB x.length := by rw [e, List.take_left' (fourB_length _)]
  have hd4 : (sealF x ++ r).drop 4 = fourB (crcN (fourB x.length) x) ++ (x ++ r) := by rw [e, List.drop_left' (fourB_length _)]
  have hd8 : (sealF x ++ r).drop 8 = x ++ r := by
    have h0 : (sealF x ++ r).drop 8 = ((sealF x ++ r).drop 4).drop 4 := by rw [List.drop_drop]
    rw [h0, hd4, List.drop_left' (fourB_length _)]
  have hc := be4_four (crcN (fourB x.length) x) (crcN_eq _ _).2 (x ++ r)
  clear e
  generalize sealF x ++ r = B at *
  have hw := openF_whole (B := B) (by omega) (by omega) (by omega) (by rw [h4, ht, hd8, hd4, List.take_left, hc])
  rw [hw, h4, hd8, List.take_left]
theorem openF_torn (x : List UInt8) (h : x.length ≤ 65536) (k : Nat) (hk : k < (sealF x).length) : ∃ e, openF ((sealF x).take k) = .error e := by
  have hl := sealF_length x
  have hlen : ((sealF x).take k).length = k := by rw [List.length_take]; omega
  by_cases h8 : k < 8
  · exact ⟨_, openF_short (by omega)⟩
  · have h4 : be4 ((sealF x).take k) = x.length := by
      have e : (sealF x).take k = fourB x.length ++ ((fourB (crcN (fourB x.length) x) ++ x).take (k - 4)) := by
        unfold sealF
        rw [List.append_assoc, List.take_append, List.take_of_length_le (by rw [fourB_length]; omega), fourB_length]
      rw [e]; exact be4_four _ (by omega) _
    exact ⟨_, openF_part (by omega) (by omega) (by omega)⟩
theorem logB_cons (r : RecT) (t : List RecT) : logB (r :: t) = sealF r.load ++ logB t := by simp only [logB, List.flatMap_cons]
theorem logB_cons_len (r : RecT) (t : List RecT) : (logB (r :: t)).length = (sealF r.load).length + (logB t).length := by rw [logB_cons, List.length_append]
theorem logB_nil : logB [] = [] := rfl
theorem openF_nil : openF [] = .error 31 := openF_short (by simp)
theorem scanF_ok {n : Nat} {B l : List UInt8} (h : openF B = .ok l) : scanF (n + 1) B = (l :: (scanF n (B.drop (8 + l.length))).1, 8 + l.length + (scanF n (B.drop (8 + l.length))).2) := by
  conv => lhs; unfold scanF
  rw [h]
theorem scanF_err {n : Nat} {B : List UInt8} {e : Int} (h : openF B = .error e) : scanF (n + 1) B = ([], 0) := by
  conv => lhs; unfold scanF
  rw [h]
/-- what a scan of a beginning of a log finds -/
structure ScanOf (l : List RecT) (n k j : Nat) : Prop where
  le : j ≤ l.length
  eq : scanF n ((logB l).take k) = ((l.take j).map RecT.load, (logB (l.take j)).length)
  fits : (logB (l.take j)).length ≤ k
  most : ∀ i, i ≤ l.length → (logB (l.take i)).length ≤ k → i ≤ j
theorem ScanOf.nil (n k : Nat) (hn : 0 < n) : ScanOf [] n k 0 := by
  obtain ⟨n', rfl⟩ : ∃ n', n = n' + 1 := ⟨n - 1, by omega⟩
  refine ⟨Nat.le_refl _, ?_, Nat.zero_le _, fun i hi _ => by simpa using hi⟩
  rw [logB_nil, List.take_nil, scanF_err openF_nil]
  rfl
theorem ScanOf.more {r : RecT} {t : List RecT} {n k j : Nat} (hr : r.load.length ≤ 65536) (hf : (sealF r.load).length ≤ k) (h : ScanOf t n (k - (sealF r.load).length) j) : ScanOf (r :: t) (n + 1) k (j + 1) := by
  have hs := sealF_length r.load
  have hfit := h.fits
  have et : (logB (r :: t)).take k = sealF r.load ++ (logB t).take (k - (sealF r.load).length) := by
    rw [logB_cons, List.take_append, List.take_of_length_le hf]
  have hd : (sealF r.load ++ (logB t).take (k - (sealF r.load).length)).drop (8 + r.load.length) = (logB t).take (k - (sealF r.load).length) := by
    rw [← hs, List.drop_left]
  refine ⟨by have := h.le; simp only [List.length_cons]; omega, ?_, ?_, ?_⟩
  · rw [et, scanF_ok (openF_seal _ _ hr), hd, h.eq, List.take_succ_cons, logB_cons_len, List.map_cons, hs]
  · rw [List.take_succ_cons, logB_cons_len]
    omega
  · intro i hi hle
    cases i with
    | zero => omega
    | succ i =>
      rw [List.take_succ_cons, logB_cons_len] at hle
      simp only [List.length_cons] at hi
      have := h.most i (by omega) (by omega)
      omega
theorem ScanOf.torn {r : RecT} {t : List RecT} {n k : Nat} (hr : r.load.length ≤ 65536) (hf : ¬ (sealF r.load).length ≤ k) : ScanOf (r :: t) (n + 1) k 0 := by
  have et : (logB (r :: t)).take k = (sealF r.load).take k := by
    rw [logB_cons, List.take_append, show k - (sealF r.load).length = 0 by omega, List.take_zero, List.append_nil]
  obtain ⟨er, he⟩ := openF_torn r.load hr k (by omega)
  refine ⟨Nat.zero_le _, ?_, Nat.zero_le _, ?_⟩
  · rw [et, scanF_err he]
    rfl
  · intro i hi hle
    cases i with
    | zero => omega
    | succ i =>
      rw [List.take_succ_cons, logB_cons_len] at hle
      omega
theorem scanF_log (l : List RecT) : ∀ (n k : Nat), (∀ r ∈ l, r.Ok) → k < n → ∃ j, ScanOf l n k j := by
  induction l with
  | nil => exact fun n k _ hn => ⟨0, .nil n k (by omega)⟩
  | cons r t ih =>
    intro n k hok hn
    obtain ⟨n', rfl⟩ : ∃ n', n = n' + 1 := ⟨n - 1, by omega⟩
    have hx := RecT.load_len (hok r (by simp))
    by_cases hf : (sealF r.load).length ≤ k
    · obtain ⟨j, h⟩ := ih n' (k - (sealF r.load).length) (fun r hr => hok r (by simp [hr])) (by have := sealF_length r.load; omega)
      exact ⟨j + 1, h.more (by omega) hf⟩
    · exact ⟨0, .torn (by omega) hf⟩
theorem logB_mono (l : List RecT) {i j : Nat} (h : i ≤ j) : (logB (l.take i)).length ≤ (logB (l.take j)).length := by
  have e : l.take j = l.take i ++ (l.take j).drop i := by
    have h1 := List.take_append_drop i (l.take j)
    rw [List.take_take, Nat.min_eq_left h] at h1
    exact h1.symm
  rw [e, logB_append, List.length_append]
  omega
theorem logB_len (l : List RecT) (h : ∀ r ∈ l, r.Ok) : (logB l).length ≤ l.length * 4052 := by
  induction l with
  | nil => simp [logB]
  | cons r t ih =>
    have h1 := ih (fun r hr => h r (by simp [hr]))
    have h2 := RecT.load_len (h r (by simp))
    have h3 := sealF_length r.load
    rw [logB_cons_len, List.length_cons]
    omega
end Go.Proofs.Ytfmcfcjcmmlmfaa

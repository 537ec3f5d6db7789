/- A disk's loss of power, and a new disk. -/
import Derived.Test.YtfmcfcjcmmlmfaaDiskA
namespace Go.Proofs.Ytfmcfcjcmmlmfaa
set_option maxRecDepth 100000
open Go Go.RowKit
set_option linter.unusedVariables false

def adOf (v : Option Value) : Option Addr := match v with | some (.slice a _ _) => a | _ => none
def cpOf (v : Option Value) : Nat := match v with | some (.slice _ _ c) => c | _ => 0

theorem Row.cut {w : World} {a : Option Addr} {n c k : Nat} {bs : List UInt8} (h : Row w 5 1 (.slice a n c) n (bvs bs)) (hk : k ≤ n) : Row w 5 1 (.slice a k k) k (bvs (bs.take k)) := by
  have hl := h.len
  refine ⟨by rw [bvs_length, List.length_take]; omega, ?_⟩
  rcases h.2 with ⟨he, hn⟩ | ⟨g, off, cap, cur, he, hb, h1, h2, h3, h4⟩
  · cases he; obtain rfl : k = 0 := by omega
    exact .inl ⟨rfl, rfl⟩
  · cases he
    refine .inr ⟨g, off, k, cur, rfl, hb, Nat.le_refl _, by omega, by omega, fun j u hu => h4 j u ?_⟩
    have hj := (List.getElem?_eq_some_iff.1 hu).1
    rw [bvs_length, List.length_take] at hj
    rw [← hu]; simp [bvs, List.getElem?_take]; omega

theorem dCrash (w : World) (d : Nat) (F : Nat → Prop) (D : DiskS) (h : DiskAt w d F D) (hd : D.down = false) (hn : D.logs.length ≤ 4194304) (kv : Value) (ks : List Int)
    (hk : Row w 3 1 kv ks.length (ks.map (.int .i64))) (hkF : ∀ j, kv.ownBlock = some j → ¬ F j) :
    Calls Try.prog 19 #[.pointer (some ⟨d, 0, none⟩), kv] w fun e w' => e = .returned (.tuple #[]) ∧ DiskAt w' d F { D with logs := crashLogs ks 0 D.logs, down := true, armed := 0 } ∧ Chg F w w' := by
  obtain ⟨lb, vs, keep, cur, h⟩ := h
  have hh := h.head
  rw [hd] at hh
  have hget : ∀ j, j < D.logs.length → ∃ v l, vs[j]? = some v ∧ D.logs[j]? = some l := fun j hj =>
    ⟨vs[j]'(by rw [h.len]; exact hj), D.logs[j], List.getElem?_eq_getElem _, List.getElem?_eq_getElem _⟩
  have hsl : ∀ j, j < D.logs.length → ∃ l, D.logs[j]? = some l ∧ vs[j]? = some (.slice (adOf vs[j]?) l.1.length (cpOf vs[j]?)) ∧ l.1.length ≤ cpOf vs[j]? ∧ cpOf vs[j]? ≤ maxLen ∧ (adOf vs[j]? = none → cpOf vs[j]? = 0) ∧
      Row w 5 1 (.slice (adOf vs[j]?) l.1.length (cpOf vs[j]?)) l.1.length (bvs l.1) := by
    intro j hj
    obtain ⟨v, l, hv, hl⟩ := hget j hj
    have hr := h.row j v l hv hl
    obtain ⟨a, c, rfl, h1, h2, -⟩ := hr.cells
    refine ⟨l, hl, by rw [hv]; rfl, by rw [hv]; exact h1, by rw [hv]; exact h2, ?_, by rw [hv]; exact hr⟩
    rw [hv]
    intro ha
    have ha' : a = none := ha
    rcases hr.2 with ⟨he, _⟩ | ⟨g, off, cap, cur, he, _⟩
    · injection he with _ _ e3
    · rw [ha'] at he; cases he
  refine (crash_ok d lb D.logs.length _ D.acts D.armed keep kv ks cur (fun j => adOf vs[j]?) (fun j => ((D.logs[j]?).map (·.1.length)).getD 0) (fun j => cpOf vs[j]?) (fun j => ((D.logs[j]?).map (·.2)).getD 0) w
    hh h.body h.apart hn hk ⟨fun e => hkF _ e h.fd, fun e => hkF _ e h.flb⟩ ⟨fun j hj => ?_, fun j hj => ?_⟩ (fun j hj => ?_)).mono ?_
  · obtain ⟨l, hl, hv, -⟩ := hsl j hj
    rw [h.slice j _ hv, hl]; rfl
  · obtain ⟨l, hl, -⟩ := hsl j hj
    rw [(h.sure j l hl).1, hl]; rfl
  · obtain ⟨l, hl, hv, h1, h2, h3, -⟩ := hsl j hj
    rw [hl]
    exact ⟨(h.sure j l hl).2, h1, h2, h3⟩
  · rintro e w' ⟨rfl, h1, h2, cur', h3, h4⟩
    have hrow : ∀ (j : Nat) (v : Value), vs[j]? = some v → ∀ k, v.ownBlock = some k → ¬ (k = d ∨ k = lb) := fun j v hv k hk e => by
      have := h.own j v hv k hk
      rcases e with e | e
      · exact this.2.1 e
      · exact this.2.2 e
    have hnew : ∀ (j : Nat) (v : Value), ((List.range D.logs.length).map fun j => Value.slice (adOf vs[j]?) (cut ks j (((D.logs[j]?).map (·.1.length)).getD 0) (((D.logs[j]?).map (·.2)).getD 0)) (cut ks j (((D.logs[j]?).map (·.1.length)).getD 0) (((D.logs[j]?).map (·.2)).getD 0)))[j]? = some v →
        j < D.logs.length ∧ v = Value.slice (adOf vs[j]?) (cut ks j (((D.logs[j]?).map (·.1.length)).getD 0) (((D.logs[j]?).map (·.2)).getD 0)) (cut ks j (((D.logs[j]?).map (·.1.length)).getD 0) (((D.logs[j]?).map (·.2)).getD 0)) := by
      intro j v hv
      rw [List.getElem?_map] at hv
      by_cases hj : j < D.logs.length
      · rw [List.getElem?_range hj] at hv; cases hv; exact ⟨hj, rfl⟩
      · rw [List.getElem?_eq_none (by simp; omega)] at hv; cases hv
    have hown : ∀ (j : Nat), j < D.logs.length → ∀ n c k, Value.ownBlock (.slice (adOf vs[j]?) n c) = some k → ∃ v, vs[j]? = some v ∧ v.ownBlock = some k := by
      intro j hj n c k hk
      obtain ⟨l, hl, hv, -⟩ := hsl j hj
      exact ⟨_, hv, by revert hk; cases adOf vs[j]? <;> exact id⟩
    refine ⟨rfl, ⟨lb, (List.range D.logs.length).map fun j => .slice (adOf vs[j]?) (cut ks j (((D.logs[j]?).map (·.1.length)).getD 0) (((D.logs[j]?).map (·.2)).getD 0)) (cut ks j (((D.logs[j]?).map (·.1.length)).getD 0) (((D.logs[j]?).map (·.2)).getD 0)),
      keep, cur', ?_⟩, ?_⟩
    · refine ⟨by simp only [crashLogs_len]; exact h1, h3, h.apart, by simp [crashLogs_len], ?_, ?_, ?_, ?_, ?_, h.fd, h.flb, fun j hj => Nat.lt_of_lt_of_le (h.fin j hj) h2.size⟩
      · intro j v hv
        obtain ⟨hj, rfl⟩ := hnew j v hv
        exact h4.slice j hj
      · intro j l hl
        simp only [crashLogs_get, Nat.zero_add] at hl
        obtain ⟨l0, hl0, rfl⟩ := Option.map_eq_some_iff.1 hl
        have hj := (List.getElem?_eq_some_iff.1 hl0).1
        have := h4.sure j hj
        rw [hl0] at this
        refine ⟨this, ?_⟩
        have hs := (h.sure j l0 hl0).2
        rw [List.length_take]
        have := cut_le ks j l0.1.length l0.2 hs
        omega
      · intro j v l hv hl
        obtain ⟨hj, rfl⟩ := hnew j v hv
        simp only [crashLogs_get, Nat.zero_add] at hl
        obtain ⟨l0, hl0, rfl⟩ := Option.map_eq_some_iff.1 hl
        obtain ⟨l1, hl1, hv1, _, _, _, hr⟩ := hsl j hj
        rw [hl0] at hl1; cases hl1
        have hs := (h.sure j l0 hl0).2
        have hc := cut_le ks j l0.1.length l0.2 hs
        have hr2 := (hr.kept h2 (fun k hk => hrow j _ hv1 k hk)).cut hc.2
        rw [hl0]
        have e : (l0.1.take (cut ks j l0.1.length l0.2)).length = cut ks j l0.1.length l0.2 := by rw [List.length_take]; omega
        simp only [Option.map_some, Option.getD_some, e]
        exact hr2
      · intro j v hv k hk
        obtain ⟨hj, rfl⟩ := hnew j v hv
        obtain ⟨u, hu, hk⟩ := hown j hj _ _ k hk
        exact h.own j u hu k hk
      · intro i j v u hij hv hu k hk hk'
        obtain ⟨hi, rfl⟩ := hnew i v hv
        obtain ⟨hj, rfl⟩ := hnew j u hu
        obtain ⟨v', hv', h5⟩ := hown i hi _ _ k hk
        obtain ⟨u', hu', h6⟩ := hown j hj _ _ k hk'
        exact h.pair i j v' u' hij hv' hu' k h5 h6
    · refine h2.mono (fun j _ hj => ?_)
      rcases hj with hj | hj
      · exact hj ▸ h.fd
      · exact hj ▸ h.flb

theorem madeLog (n : Nat) (h : n ≤ 16) : ∀ j, j < n → (madeCells #[.slice none 0 0, .int .i64 0] (n * 2))[j * 2]? = some (.slice none 0 0) ∧ (madeCells #[.slice none 0 0, .int .i64 0] (n * 2))[j * 2 + 1]? = some (.int .i64 0) := by
  intro j hj
  simp [madeCells, show j * 2 < n * 2 by omega, show j * 2 + 1 < n * 2 by omega]

theorem repl_get {α : Type} {n i : Nat} {a v : α} (h : (List.replicate n a)[i]? = some v) : i < n ∧ v = a := by
  rw [List.getElem?_replicate] at h
  split at h
  · cases h; exact ⟨by assumption, rfl⟩
  · cases h

theorem dNew (n : Nat) (h1 : 1 ≤ n) (h2 : n ≤ 16) (w : World) :
    Calls Try.prog 11 #[.int .i64 n] w fun e w' => ∃ d F, e = .returned (.tuple #[.pointer (some ⟨d, 0, none⟩), .int .i64 0]) ∧ DiskAt w' d F ⟨List.replicate n ([], 0), 0, false, 0⟩ ∧ Chg No w w' ∧ (∀ j, F j → w.heap.size ≤ j) := by
  refine (new_ok n h1 h2 w).mono ?_
  rintro e w' ⟨rfl, hc, hd, hb⟩
  refine ⟨w.heap.size + 1, fun j => j = w.heap.size + 1 ∨ j = w.heap.size, rfl, ⟨w.heap.size, List.replicate n (.slice none 0 0), .slice none 0 0, madeCells #[.slice none 0 0, .int .i64 0] (n * 2), ?_⟩, hc, fun j hj => by omega⟩
  refine ⟨by simpa using hd, hb, by omega, by simp, ?_, ?_, ?_, ?_, ?_, .inl rfl, .inr rfl, ?_⟩
  · intro i v hv
    obtain ⟨hi, rfl⟩ := repl_get hv
    exact (madeLog n h2 i hi).1
  · intro i l hl
    obtain ⟨hi, rfl⟩ := repl_get hl
    exact ⟨(madeLog n h2 i hi).2, Nat.le_refl _⟩
  · intro i v l hv hl
    obtain ⟨hi, rfl⟩ := repl_get hl
    obtain ⟨hi, rfl⟩ := repl_get hv
    exact Row.nil _ _ _
  · intro i v hv j hj
    obtain ⟨hi, rfl⟩ := repl_get hv
    cases hj
  · intro i k v u hik hv hu j hj
    obtain ⟨hi, rfl⟩ := repl_get hv
    cases hj
  · intro j hj
    rcases hj with rfl | rfl
    · exact hd.lt
    · exact hb.lt
end Go.Proofs.Ytfmcfcjcmmlmfaa

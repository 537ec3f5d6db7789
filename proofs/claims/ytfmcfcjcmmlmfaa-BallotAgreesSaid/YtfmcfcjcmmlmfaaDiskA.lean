/- A disk as a state: what its calls do to it. -/
import Derived.Test.YtfmcfcjcmmlmfaaCrashW
import Derived.Test.YtfmcfcjcmmlmfaaScan2W
namespace Go.Proofs.Ytfmcfcjcmmlmfaa
set_option maxRecDepth 100000
open Go Go.RowKit
set_option linter.unusedVariables false

/-- a disk: each log's bytes, and how many of them are sure -/
structure DiskS where
  logs : List (List UInt8 × Nat)
  acts : Int
  down : Bool
  armed : Int

/-- how a disk lies in memory -/
structure DiskRep (w : World) (d lb : Nat) (vs : List Value) (keep : Value) (cur : Array Value) (F : Nat → Prop) (D : DiskS) : Prop where
  head : Blk w d #[.slice (some ⟨lb, 0, none⟩) D.logs.length D.logs.length, .int .i64 D.acts, .bool D.down, .int .i64 D.armed, keep] 80
  body : Blk w lb cur 102
  apart : d ≠ lb
  len : vs.length = D.logs.length
  slice : ∀ (i : Nat) (v : Value), vs[i]? = some v → cur[i * 2]? = some v
  sure : ∀ (i : Nat) (l : List UInt8 × Nat), D.logs[i]? = some l → cur[i * 2 + 1]? = some (.int .i64 l.2) ∧ l.2 ≤ l.1.length
  row : ∀ (i : Nat) (v : Value) (l : List UInt8 × Nat), vs[i]? = some v → D.logs[i]? = some l → Row w 5 1 v l.1.length (bvs l.1)
  own : ∀ (i : Nat) (v : Value), vs[i]? = some v → ∀ j, v.ownBlock = some j → F j ∧ j ≠ d ∧ j ≠ lb
  pair : ∀ (i k : Nat) (v u : Value), i ≠ k → vs[i]? = some v → vs[k]? = some u → ∀ j, v.ownBlock = some j → u.ownBlock ≠ some j
  fd : F d
  flb : F lb
  fin : ∀ j, F j → j < w.heap.size

def DiskAt (w : World) (d : Nat) (F : Nat → Prop) (D : DiskS) : Prop := ∃ lb vs keep cur, DiskRep w d lb vs keep cur F D

theorem DiskAt.fin {w : World} {d : Nat} {F : Nat → Prop} {D : DiskS} (h : DiskAt w d F D) : ∀ j, F j → j < w.heap.size := let ⟨_, _, _, _, h⟩ := h; h.fin
theorem DiskAt.fd {w : World} {d : Nat} {F : Nat → Prop} {D : DiskS} (h : DiskAt w d F D) : F d := let ⟨_, _, _, _, h⟩ := h; h.fd

theorem DiskAt.kept {w w' : World} {d : Nat} {F S : Nat → Prop} {D : DiskS} (h : DiskAt w d F D) (c : Chg S w w') (hs : ∀ j, F j → ¬ S j) : DiskAt w' d F D := by
  obtain ⟨lb, vs, keep, cur, h⟩ := h
  exact ⟨lb, vs, keep, cur, h.head.kept c (hs _ h.fd), h.body.kept c (hs _ h.flb), h.apart, h.len, h.slice, h.sure, fun i v l hv hl => (h.row i v l hv hl).kept c (fun j hj => hs j (h.own i v hv j hj).1), h.own, h.pair, h.fd, h.flb,
    fun j hj => Nat.lt_of_lt_of_le (h.fin j hj) c.size⟩

/-- one log's slice and bytes are others -/
theorem DiskRep.setLog {w w' : World} {d lb : Nat} {vs : List Value} {keep : Value} {cur cur' : Array Value} {F S : Nat → Prop} {D D' : DiskS} (h : DiskRep w d lb vs keep cur F D) (i : Nat) (v' : Value) (l' : List UInt8 × Nat)
    (hi : i < D.logs.length) (hD : D'.logs = D.logs.set i l') (hc : Chg S w w') (hS : ∀ j, S j → j = d ∨ j = lb ∨ (∃ v, vs[i]? = some v ∧ v.ownBlock = some j))
    (hh : Blk w' d #[.slice (some ⟨lb, 0, none⟩) D.logs.length D.logs.length, .int .i64 D'.acts, .bool D'.down, .int .i64 D'.armed, keep] 80)
    (hb : Blk w' lb cur' 102) (h0 : cur'[i * 2]? = some v') (h1 : cur'[i * 2 + 1]? = some (.int .i64 l'.2)) (hle : l'.2 ≤ l'.1.length)
    (hk : ∀ k, k ≠ i → cur'[k * 2]? = cur[k * 2]? ∧ cur'[k * 2 + 1]? = cur[k * 2 + 1]?)
    (hr : Row w' 5 1 v' l'.1.length (bvs l'.1)) (hv : ∀ j, v'.ownBlock = some j → (∃ v, vs[i]? = some v ∧ v.ownBlock = some j) ∨ w.heap.size ≤ j) :
    DiskRep w' d lb (vs.set i v') keep cur' (fun j => F j ∨ v'.ownBlock = some j) D' := by
  have hiv : i < vs.length := by rw [h.len]; exact hi
  have hlt := h.fin
  refine ⟨by rw [hD, List.length_set]; exact hh, hb, h.apart, by rw [hD, List.length_set, List.length_set, h.len], ?_, ?_, ?_, ?_, ?_, .inl h.fd, .inl h.flb, ?_⟩
  · intro k v hkv
    by_cases e : k = i
    · subst e; rw [List.getElem?_set_self hiv] at hkv; cases hkv; exact h0
    · rw [List.getElem?_set_ne (Ne.symm e)] at hkv; rw [(hk k e).1]; exact h.slice k v hkv
  · intro k l hkl
    rw [hD] at hkl
    by_cases e : k = i
    · subst e; rw [List.getElem?_set_self hi] at hkl; cases hkl; exact ⟨h1, hle⟩
    · rw [List.getElem?_set_ne (Ne.symm e)] at hkl; rw [(hk k e).2]; exact h.sure k l hkl
  · intro k v l hkv hkl
    rw [hD] at hkl
    by_cases e : k = i
    · subst e; rw [List.getElem?_set_self hi] at hkl; rw [List.getElem?_set_self hiv] at hkv; cases hkl; cases hkv; exact hr
    · rw [List.getElem?_set_ne (Ne.symm e)] at hkl hkv
      refine (h.row k v l hkv hkl).kept hc (fun j hj hs => ?_)
      have ho := h.own k v hkv j hj
      rcases hS j hs with h2 | h2 | ⟨u, hu, h2⟩
      · exact ho.2.1 h2
      · exact ho.2.2 h2
      · exact h.pair k i v u e hkv hu j hj h2
  · intro k v hkv j hj
    by_cases e : k = i
    · subst e; rw [List.getElem?_set_self hiv] at hkv; cases hkv
      refine ⟨.inr hj, ?_⟩
      rcases hv j hj with ⟨u, hu, h2⟩ | h2
      · exact (h.own k u hu j h2).2
      · exact ⟨fun e => by have := h.head.lt; omega, fun e => by have := h.body.lt; omega⟩
    · rw [List.getElem?_set_ne (Ne.symm e)] at hkv
      have ho := h.own k v hkv j hj
      exact ⟨.inl ho.1, ho.2⟩
  · intro a b u t hab hu ht j hj hj'
    by_cases e1 : a = i
    · subst e1
      rw [List.getElem?_set_self hiv] at hu; cases hu
      rw [List.getElem?_set_ne hab] at ht
      rcases hv j hj with ⟨x, hx, h2⟩ | h2
      · exact h.pair a b x t hab hx ht j h2 hj'
      · have := hlt j (h.own b t ht j hj').1; omega
    · rw [List.getElem?_set_ne (Ne.symm e1)] at hu
      by_cases e2 : b = i
      · subst e2
        rw [List.getElem?_set_self hiv] at ht; cases ht
        rcases hv j hj' with ⟨x, hx, h2⟩ | h2
        · exact h.pair a b u x hab hu hx j hj h2
        · have := hlt j (h.own a u hu j hj).1; omega
      · rw [List.getElem?_set_ne (Ne.symm e2)] at ht
        exact h.pair a b u t hab hu ht j hj hj'
  · intro j hj
    rcases hj with hj | hj
    · exact Nat.lt_of_lt_of_le (h.fin j hj) hc.size
    · exact hr.lt hj

/-- what is appended -/
def DiskS.put (D : DiskS) (i : Nat) (ys : List UInt8) : DiskS :=
  match D.logs[i]? with
  | some l => { D with logs := D.logs.set i (l.1 ++ ys, l.2), acts := wrap64 (D.acts + 1) }
  | none => D
def DiskS.synced (D : DiskS) (i : Nat) : DiskS :=
  match D.logs[i]? with
  | some l => { D with logs := D.logs.set i (l.1, l.1.length), acts := wrap64 (D.acts + 1) }
  | none => D
def DiskS.swapped (D : DiskS) (i : Nat) (ys : List UInt8) : DiskS := { D with logs := D.logs.set i (ys, ys.length), acts := wrap64 (D.acts + 1) }

/-- an act went well: the disk is another, nothing else has turned -/
def DiskPost (w : World) (d : Nat) (F : Nat → Prop) (D' : DiskS) (w' : World) : Prop := ∃ F', DiskAt w' d F' D' ∧ Upd w F w' F'

theorem DiskRep.get {w : World} {d lb : Nat} {vs : List Value} {keep : Value} {cur : Array Value} {F : Nat → Prop} {D : DiskS} (h : DiskRep w d lb vs keep cur F D) {i : Nat} {l : List UInt8 × Nat} (hl : D.logs[i]? = some l) :
    i < D.logs.length ∧ ∃ v, vs[i]? = some v := by
  have hi := (List.getElem?_eq_some_iff.1 hl).1
  exact ⟨hi, _, List.getElem?_eq_getElem (by rw [h.len]; exact hi)⟩

theorem dAppend (w : World) (d : Nat) (F : Nat → Prop) (D : DiskS) (h : DiskAt w d F D) (i : Nat) (l : List UInt8 × Nat) (hl : D.logs[i]? = some l) (hd : D.down = false) (ha : D.armed = 0)
    (x : Value) (ys : List UInt8) (hx : Row w 5 1 x ys.length (bvs ys)) (hxF : ∀ j, x.ownBlock = some j → ¬ F j) (hlen : l.1.length + ys.length ≤ 4194304) :
    Calls Try.prog 55 #[.pointer (some ⟨d, 0, none⟩), .int .i64 i, x] w fun e w' => e = .returned (.int .i64 0) ∧ DiskPost w d F (D.put i ys) w' := by
  obtain ⟨lb, vs, keep, cur, h⟩ := h
  obtain ⟨hi, v, hv⟩ := h.get hl
  have hh := h.head
  rw [hd, ha] at hh
  have hr := h.row i v l hv hl
  have ho := h.own i v hv
  obtain ⟨xa, xc, rfl, -, -, -⟩ := hx.cells
  refine (append_ok d lb i _ _ ys.length l.1.length D.acts keep v _ (bvs l.1) (bvs ys) cur w hh h.body hi (h.slice i v hv) hr ⟨fun e => (ho _ e).2.2 rfl, fun e => (ho _ e).2.1 rfl⟩ h.apart ⟨xa, xc, rfl⟩
    (fun w' hw' => (hx.kept hw' (fun j hj e => hxF j hj (e ▸ h.fd))).src uBytes (bvs_one _)) hlen).mono ?_
  rintro e w' ⟨rfl, a', c', h1, h2, h3, h4, h5⟩
  refine ⟨rfl, fun j => F j ∨ Value.ownBlock (.slice a' (l.1.length + ys.length) c') = some j, ⟨lb, vs.set i (.slice a' (l.1.length + ys.length) c'), keep, cur.setIfInBounds (i * 2) (.slice a' (l.1.length + ys.length) c'), ?_⟩, ?_⟩
  · have hsz := (Array.getElem?_eq_some_iff.1 (h.slice i v hv)).1
    refine h.setLog i _ (l.1 ++ ys, l.2) hi (by simp [DiskS.put, hl]) h2 (fun j hj => ?_) (by simp [DiskS.put, hl, hd, ha]; exact h4) h5 ?_ ?_ ?_ ?_ ?_ ?_
    · rcases hj with hj | hj | hj
      · exact .inl hj
      · exact .inr (.inl hj)
      · exact .inr (.inr ⟨v, hv, hj⟩)
    · rw [Array.getElem?_setIfInBounds_self_of_lt hsz]
    · rw [Array.getElem?_setIfInBounds_ne (by omega)]; exact (h.sure i l hl).1
    · have := (h.sure i l hl).2; simp; omega
    · intro k hk
      exact ⟨Array.getElem?_setIfInBounds_ne (by omega), Array.getElem?_setIfInBounds_ne (by omega)⟩
    · simpa [bvs_append] using h1
    · intro j hj
      rcases h3 with h3 | ⟨k, h3, hk⟩
      · exact .inl ⟨v, hv, h3 ▸ hj⟩
      · rw [h3] at hj; cases hj; exact .inr hk
  · refine ⟨h2.mono (fun j _ hj => ?_), fun j hj => ?_⟩
    · rcases hj with hj | hj | hj
      · exact hj ▸ h.fd
      · exact hj ▸ h.flb
      · exact (ho j hj).1
    · rcases hj with hj | hj
      · exact .inl hj
      · rcases h3 with h3 | ⟨k, h3, hk⟩
        · exact .inl (ho j (h3 ▸ hj)).1
        · rw [h3] at hj; cases hj; exact .inr hk

theorem dSync (w : World) (d : Nat) (F : Nat → Prop) (D : DiskS) (h : DiskAt w d F D) (i : Nat) (l : List UInt8 × Nat) (hl : D.logs[i]? = some l) (hd : D.down = false) (ha : D.armed = 0) :
    Calls Try.prog 31 #[.pointer (some ⟨d, 0, none⟩), .int .i64 i] w fun e w' => e = .returned (.int .i64 0) ∧ DiskPost w d F (D.synced i) w' := by
  obtain ⟨lb, vs, keep, cur, h⟩ := h
  obtain ⟨hi, v, hv⟩ := h.get hl
  have hh := h.head
  rw [hd, ha] at hh
  have hr := h.row i v l hv hl
  have ho := h.own i v hv
  obtain ⟨va, vc, rfl, -, -, -⟩ := hr.cells
  have hs := h.sure i l hl
  have hsl := h.slice i _ hv
  refine (sync_ok d lb i _ _ l.1.length vc D.acts keep va cur w hh h.body hi hsl hs.1 h.apart).mono ?_
  rintro e w' ⟨rfl, h2, h4, h5⟩
  have hsz := (Array.getElem?_eq_some_iff.1 hs.1).1
  refine ⟨rfl, fun j => F j ∨ Value.ownBlock (.slice va l.1.length vc) = some j, ⟨lb, vs.set i (.slice va l.1.length vc), keep, cur.setIfInBounds (i * 2 + 1) (.int .i64 l.1.length), ?_⟩, ?_⟩
  · refine h.setLog i _ (l.1, l.1.length) hi (by simp [DiskS.synced, hl]) h2 (fun j hj => ?_) (by simp [DiskS.synced, hl, hd, ha]; exact h4) h5 ?_ ?_ (Nat.le_refl _) ?_ ?_ ?_
    · rcases hj with hj | hj
      · exact .inl hj
      · exact .inr (.inl hj)
    · rw [Array.getElem?_setIfInBounds_ne (by omega)]; exact hsl
    · rw [Array.getElem?_setIfInBounds_self_of_lt hsz]
    · intro k hk
      exact ⟨Array.getElem?_setIfInBounds_ne (by omega), Array.getElem?_setIfInBounds_ne (by omega)⟩
    · exact hr.kept h2 (fun j hj hs => by have := ho j hj; rcases hs with hs | hs; exact this.2.1 hs; exact this.2.2 hs)
    · intro j hj; exact .inl ⟨_, hv, hj⟩
  · refine ⟨h2.mono (fun j _ hj => ?_), fun j hj => ?_⟩
    · rcases hj with hj | hj
      · exact hj ▸ h.fd
      · exact hj ▸ h.flb
    · rcases hj with hj | hj
      · exact .inl hj
      · exact .inl (ho j hj).1

theorem dSwap (w : World) (d : Nat) (F : Nat → Prop) (D : DiskS) (h : DiskAt w d F D) (i : Nat) (l : List UInt8 × Nat) (hl : D.logs[i]? = some l) (hd : D.down = false) (ha : D.armed = 0)
    (x : Value) (ys : List UInt8) (hx : Row w 5 1 x ys.length (bvs ys)) (hxF : ∀ j, x.ownBlock = some j → ¬ F j) (hlen : ys.length ≤ 4194304) :
    Calls Try.prog 36 #[.pointer (some ⟨d, 0, none⟩), .int .i64 i, x] w fun e w' => e = .returned (.int .i64 0) ∧ DiskPost w d F (D.swapped i ys) w' := by
  obtain ⟨lb, vs, keep, cur, h⟩ := h
  obtain ⟨hi, v, hv⟩ := h.get hl
  have hh := h.head
  rw [hd, ha] at hh
  have hs := h.sure i l hl
  have hsl := h.slice i _ hv
  obtain ⟨xa, xc, rfl, -, -, -⟩ := hx.cells
  refine (swap_ok d lb i _ _ ys.length D.acts keep _ (bvs ys) cur _ _ w hh h.body hi hsl hs.1 h.apart ⟨xa, xc, rfl⟩
    (fun w' hw' => (hx.kept hw' (fun j hj e => by rcases e with e | e; exact hxF j hj (e ▸ h.fd); exact hxF j hj (e ▸ h.flb))).src uBytes (bvs_one _)) hlen).mono ?_
  rintro e w' ⟨rfl, g, h0, h1, h2, h4, h5⟩
  have hsz0 := (Array.getElem?_eq_some_iff.1 hsl).1
  have hsz := (Array.getElem?_eq_some_iff.1 hs.1).1
  refine ⟨rfl, fun j => F j ∨ Value.ownBlock (.slice (some ⟨g, 0, none⟩) ys.length ys.length) = some j, ⟨lb, vs.set i (.slice (some ⟨g, 0, none⟩) ys.length ys.length), keep, (cur.setIfInBounds (i * 2) (.slice (some ⟨g, 0, none⟩) ys.length ys.length)).setIfInBounds (i * 2 + 1) (.int .i64 ys.length), ?_⟩, ?_⟩
  · refine h.setLog i _ (ys, ys.length) hi rfl h2 (fun j hj => ?_) (by simp [DiskS.swapped, hd, ha]; exact h4) h5 ?_ ?_ (Nat.le_refl _) ?_ h1 ?_
    · rcases hj with hj | hj
      · exact .inl hj
      · exact .inr (.inl hj)
    · rw [Array.getElem?_setIfInBounds_ne (by omega), Array.getElem?_setIfInBounds_self_of_lt hsz0]
    · rw [Array.getElem?_setIfInBounds_self_of_lt (by simpa using hsz)]
    · intro k hk
      exact ⟨by rw [Array.getElem?_setIfInBounds_ne (by omega), Array.getElem?_setIfInBounds_ne (by omega)], by rw [Array.getElem?_setIfInBounds_ne (by omega), Array.getElem?_setIfInBounds_ne (by omega)]⟩
    · intro j hj; rw [ownBlock_slice] at hj; cases hj; exact .inr h0
  · refine ⟨h2.mono (fun j _ hj => ?_), fun j hj => ?_⟩
    · rcases hj with hj | hj
      · exact hj ▸ h.fd
      · exact hj ▸ h.flb
    · rcases hj with hj | hj
      · exact .inl hj
      · rw [ownBlock_slice] at hj; cases hj; exact .inr h0

theorem dRead (w : World) (d : Nat) (F : Nat → Prop) (D : DiskS) (h : DiskAt w d F D) (i : Nat) (l : List UInt8 × Nat) (hl : D.logs[i]? = some l) (hd : D.down = false) (hlen : l.1.length ≤ 4194304) :
    Calls Try.prog 34 #[.pointer (some ⟨d, 0, none⟩), .int .i64 i] w fun e w' =>
      ∃ g, e = .returned (.tuple #[.slice (some ⟨g, 0, none⟩) l.1.length l.1.length, .int .i64 0]) ∧ Row w' 5 1 (.slice (some ⟨g, 0, none⟩) l.1.length l.1.length) l.1.length (bvs l.1) ∧ Chg No w w' ∧ w.heap.size ≤ g := by
  obtain ⟨lb, vs, keep, cur, h⟩ := h
  obtain ⟨hi, v, hv⟩ := h.get hl
  have hc := h.head.c5
  rw [hd] at hc
  exact read_ok d lb i _ _ l.1.length 0 v (bvs l.1) none cur w hc.1 hc.2.2.1 h.body hi (h.slice i v hv) (h.row i v l hv hl) (bvs_one _) hlen

theorem dSure (w : World) (d : Nat) (F : Nat → Prop) (D : DiskS) (h : DiskAt w d F D) (i : Nat) (l : List UInt8 × Nat) (hl : D.logs[i]? = some l) :
    Calls Try.prog 37 #[.pointer (some ⟨d, 0, none⟩), .int .i64 i] w fun e w' => e = .returned (.int .i64 l.2) ∧ w = w' := by
  obtain ⟨lb, vs, keep, cur, h⟩ := h
  obtain ⟨hi, v, hv⟩ := h.get hl
  exact sure_ok d lb i _ _ 0 l.2 keep cur w h.head.c5.1 h.body hi (h.sure i l hl).1

theorem dUp (w : World) (d : Nat) (F : Nat → Prop) (D : DiskS) (h : DiskAt w d F D) :
    Calls Try.prog 20 #[.pointer (some ⟨d, 0, none⟩)] w fun e w' => e = .returned (.tuple #[]) ∧ DiskAt w' d F { D with down := false } ∧ Chg (One d) w w' := by
  obtain ⟨lb, vs, keep, cur, h⟩ := h
  have hc := h.head.c5
  refine (up_ok d w hc.2.2.1 (h.head.free _)).mono ?_
  rintro e w' ⟨rfl, rfl⟩
  have hch : Chg (One d) w (w.setCell ⟨d, 2, none⟩ (.bool false)) := (Chg.refl _ w).setCell _ _ (fun _ => rfl)
  refine ⟨rfl, ⟨lb, vs, keep, cur, h.head.set 2 (.bool false), h.body.kept hch (fun e => h.apart e.symm), h.apart, h.len, h.slice, h.sure, fun i v l hv hl => (h.row i v l hv hl).kept hch (fun j hj e => (h.own i v hv j hj).2.1 e), h.own, h.pair, h.fd, h.flb,
    fun j hj => Nat.lt_of_lt_of_le (h.fin j hj) hch.size⟩, hch⟩

/-- what a loss of power leaves -/
def crashLogs (ks : List Int) : Nat → List (List UInt8 × Nat) → List (List UInt8 × Nat)
  | _, [] => []
  | i, l :: r => (l.1.take (cut ks i l.1.length l.2), cut ks i l.1.length l.2) :: crashLogs ks (i + 1) r
theorem crashLogs_len (ks : List Int) : ∀ (L : List (List UInt8 × Nat)) (i : Nat), (crashLogs ks i L).length = L.length
  | [], _ => rfl
  | l :: r, i => by simp [crashLogs, crashLogs_len ks r]
theorem crashLogs_get (ks : List Int) : ∀ (L : List (List UInt8 × Nat)) (i k : Nat), (crashLogs ks i L)[k]? = (L[k]?).map fun l => (l.1.take (cut ks (i + k) l.1.length l.2), cut ks (i + k) l.1.length l.2)
  | [], _, _ => rfl
  | l :: r, i, 0 => rfl
  | l :: r, i, k + 1 => by
    have := crashLogs_get ks r (i + 1) k
    simp only [crashLogs, List.getElem?_cons_succ]
    rw [this, show i + 1 + k = i + (k + 1) by omega]
end Go.Proofs.Ytfmcfcjcmmlmfaa

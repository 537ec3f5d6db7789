/- Memory words of this seat's own proofs: what a call changed ('Chg', 'Upd'), whole blocks ('Blk'), slices that own a row ('Row'), appends, copies. No condition on the program: any P. -/
import Derived.WalkKit
import Derived.WalkSpells
import Derived.WalkLawsBesides
import Derived.Handy
import Derived.Deep.AppendSrc
import Derived.Shelf.Abstract
namespace Go.Proofs.Ytfmcfcjcmmlmfaa
open Go Go.RowKit
set_option linter.unusedVariables false
set_option linter.unusedSimpArgs false

theorem hid {p : Prop} (h : p) : Hid p := h

/-- Blocks outside S that were there are as they were; the streams too. -/
structure Chg (S : Nat → Prop) (w w' : World) : Prop where
  os : w'.os = w.os
  tape : w'.tape = w.tape
  output : w'.output = w.output
  size : w.heap.size ≤ w'.heap.size
  block : ∀ k, k < w.heap.size → ¬ S k → w'.heap[k]? = w.heap[k]?

def No : Nat → Prop := fun _ => False
def One (b : Nat) : Nat → Prop := fun k => k = b

theorem Chg.refl (S : Nat → Prop) (w : World) : Chg S w w := ⟨rfl, rfl, rfl, Nat.le_refl _, fun _ _ _ => rfl⟩
theorem Chg.trans {S T : Nat → Prop} {a b c : World} (h : Chg S a b) (k : Chg T b c) (hT : ∀ i, i < a.heap.size → T i → S i) : Chg S a c :=
  ⟨k.os.trans h.os, k.tape.trans h.tape, k.output.trans h.output, Nat.le_trans h.size k.size,
    fun i hi hs => (k.block i (Nat.lt_of_lt_of_le hi h.size) (fun ht => hs (hT i hi ht))).trans (h.block i hi hs)⟩
theorem Chg.mono {S T : Nat → Prop} {a b : World} (h : Chg S a b) (hT : ∀ i, i < a.heap.size → S i → T i) : Chg T a b :=
  ⟨h.os, h.tape, h.output, h.size, fun i hi ht => h.block i hi (fun hs => ht (hT i hi hs))⟩
theorem Chg.same {S : Nat → Prop} {a b c : World} (h : Chg S a b) (k : Chg S b c) : Chg S a c := h.trans k fun _ _ h => h
theorem Chg.drew {S : Nat → Prop} {a w : World} (h : Chg S a w) : Chg S a w.drew := ⟨h.os, h.tape, h.output, h.size, h.block⟩
theorem Chg.drewN {S : Nat → Prop} {a w : World} (h : Chg S a w) (n : Nat) : Chg S a (w.drewN n) := ⟨h.os, h.tape, h.output, h.size, h.block⟩
theorem Chg.ofDrew {S : Nat → Prop} {a w : World} (h : Chg S a.drew w) : Chg S a w := ⟨h.os, h.tape, h.output, h.size, h.block⟩
theorem Chg.ofDrewN {S : Nat → Prop} {a w : World} {n : Nat} (h : Chg S (a.drewN n) w) : Chg S a w := ⟨h.os, h.tape, h.output, h.size, h.block⟩
theorem Chg.alloc {S : Nat → Prop} {a w : World} (h : Chg S a w) (o : Obj) : Chg S a (w.alloc o) :=
  ⟨h.os, h.tape, h.output, Nat.le_trans h.size (by simp), fun k hk hs => (Below.heap_alloc _ _ _ (Nat.lt_of_lt_of_le hk h.size)).trans (h.block k hk hs)⟩
theorem Chg.setCell {S : Nat → Prop} {a w : World} (h : Chg S a w) (p : Addr) (u : Value) (hp : p.block < a.heap.size → S p.block) : Chg S a (w.setCell p u) :=
  ⟨h.os, h.tape, h.output, Nat.le_trans h.size (by simp [World.setCell]), fun k hk hs => by
    rw [Below.heap_setCell]; exact h.block k hk hs; intro e; subst e; exact hs (hp hk)⟩
theorem Chg.grown {S : Nat → Prop} {a w w' : World} {row : Option Nat} (h : Chg S a w) (hg : w.grownBy w' row) (hr : ∀ k, row = some k → k < a.heap.size → S k) : Chg S a w' :=
  ⟨hg.os.trans h.os, hg.tape.trans h.tape, hg.output.trans h.output, Nat.le_trans h.size hg.size, fun k hk hs =>
    (hg.block k (Nat.lt_of_lt_of_le hk h.size) (fun e => hs (hr k e.symm hk))).trans (h.block k hk hs)⟩
theorem Chg.ofBelow {w w' : World} (h : Below w.heap.size w w') : Chg No w w' := ⟨h.os, h.tape, h.output, h.size, fun k hk _ => h.block k hk⟩
theorem Chg.below {S : Nat → Prop} {w w' : World} (h : Chg S w w') {B : Nat} (hB : B ≤ w.heap.size) (hs : ∀ k, k < B → ¬ S k) : Below B w w' :=
  ⟨h.os, h.tape, h.output, h.size, fun k hk => h.block k (by omega) (hs k hk)⟩
theorem Chg.no {w w' : World} (h : Chg No w w') : Below w.heap.size w w' := h.below (Nat.le_refl _) fun _ _ h => h
theorem Chg.cell {S : Nat → Prop} {w w' : World} (h : Chg S w w') {p : Addr} (hp : p.block < w.heap.size) (hs : ¬ S p.block) : w'.cell? p = w.cell? p := World.cell?_of_block (w := w) (h.block p.block hp hs)
theorem Chg.frozen {S : Nat → Prop} {w w' : World} (h : Chg S w w') {p : Addr} (hp : p.block < w.heap.size) (hs : ¬ S p.block) : w'.frozen? p = w.frozen? p := World.frozen?_of_block (w := w) (h.block p.block hp hs)

/-- What is owned moves on: blocks outside F are as they were; what is owned now was owned, or is new. -/
structure Upd (w : World) (F : Nat → Prop) (w' : World) (F' : Nat → Prop) : Prop where
  chg : Chg F w w'
  foot : ∀ k, F' k → F k ∨ w.heap.size ≤ k
theorem Upd.trans {a b c : World} {F G H : Nat → Prop} (h : Upd a F b G) (k : Upd b G c H) : Upd a F c H :=
  ⟨h.chg.trans k.chg (fun i hi hg => (h.foot i hg).elim id (fun h => absurd hi (by omega))),
   fun i hi => (k.foot i hi).elim (h.foot i) (fun hb => .inr (Nat.le_trans h.chg.size hb))⟩
theorem Upd.refl (w : World) (F : Nat → Prop) : Upd w F w F := ⟨.refl _ _, fun _ h => .inl h⟩
theorem Upd.apart {w w' : World} {F F' G : Nat → Prop} (h : Upd w F w' F') (hG : ∀ k, G k → k < w.heap.size ∧ ¬ F k) : ∀ k, G k → k < w'.heap.size ∧ ¬ F' k :=
  fun k hk => ⟨Nat.lt_of_lt_of_le (hG k hk).1 h.chg.size, fun hf => (h.foot k hf).elim (hG k hk).2 (fun hb => by have := (hG k hk).1; omega)⟩

/-- Block b is a row of cells, nothing of it frozen. -/
theorem Chg.cellN {w w' : World} (h : Chg No w w') {p : Addr} {v : Value} (hp : w.cell? p = some v) : w'.cell? p = some v := (h.cell (World.block_lt_of_cell? w p hp) id).trans hp
def Blk (w : World) (b : Nat) (vs : Array Value) (e : TypeId) : Prop := w.heap[b]? = some (.cells vs e (0, 0))
section
variable {w : World} {b : Nat} {vs : Array Value} {e : TypeId}
theorem Blk.lt (h : Blk w b vs e) : b < w.heap.size := (Array.getElem?_eq_some_iff.1 h).1
theorem Blk.cellEq (h : Blk w b vs e) (o : Nat) : w.cell? ⟨b, o, none⟩ = vs[o]? := by unfold Blk at h; simp [World.cell?, h]
theorem Blk.cell (h : Blk w b vs e) (o : Nat) {v : Value} (hv : vs[o]? = some v) : w.cell? ⟨b, o, none⟩ = some v := by rw [h.cellEq, hv]
theorem Blk.free (h : Blk w b vs e) (o : Nat) : w.frozen? ⟨b, o, none⟩ = false := by unfold Blk at h; simp [World.frozen?, h]
theorem Blk.kept {S : Nat → Prop} {w' : World} (h : Blk w b vs e) (c : Chg S w w') (hs : ¬ S b) : Blk w' b vs e := (c.block b h.lt hs).trans h
theorem Blk.keptB {B : Nat} {w' : World} (h : Blk w b vs e) (c : Below B w w') (hs : b < B) : Blk w' b vs e := (c.block b hs).trans h
theorem Blk.drew (h : Blk w b vs e) : Blk w.drew b vs e := h
theorem Blk.alloc (h : Blk w b vs e) (o : Obj) : Blk (w.alloc o) b vs e := (Below.heap_alloc w o b h.lt).trans h
theorem Blk.new (w : World) (vs : Array Value) (e : TypeId) : Blk (w.alloc (.cells vs e)) w.heap.size vs e := by
  show (w.heap.push _)[w.heap.size]? = _
  simp
theorem Blk.set (h : Blk w b vs e) (o : Nat) (v : Value) : Blk (w.setCell ⟨b, o, none⟩ v) b (vs.setIfInBounds o v) e := by
  unfold Blk at *; simp [World.setCell, Array.getElem?_modify, h]
theorem Blk.setOther (h : Blk w b vs e) {p : Addr} (hp : b ≠ p.block) (v : Value) : Blk (w.setCell p v) b vs e := (Below.heap_setCell w p v b hp).trans h
theorem Blk.c1 {v0 : Value} (h : Blk w b #[v0] e) : w.cell? ⟨b, 0, none⟩ = some v0 ∧ ∀ o, w.frozen? ⟨b, o, none⟩ = false := ⟨h.cell 0 rfl, h.free⟩
theorem Blk.c2 {v0 v1 : Value} (h : Blk w b #[v0, v1] e) : w.cell? ⟨b, 0, none⟩ = some v0 ∧ w.cell? ⟨b, 1, none⟩ = some v1 ∧ ∀ o, w.frozen? ⟨b, o, none⟩ = false := ⟨h.cell 0 rfl, h.cell 1 rfl, h.free⟩
theorem Blk.c3 {v0 v1 v2 : Value} (h : Blk w b #[v0, v1, v2] e) : w.cell? ⟨b, 0, none⟩ = some v0 ∧ w.cell? ⟨b, 1, none⟩ = some v1 ∧ w.cell? ⟨b, 2, none⟩ = some v2 ∧ ∀ o, w.frozen? ⟨b, o, none⟩ = false :=
  ⟨h.cell 0 rfl, h.cell 1 rfl, h.cell 2 rfl, h.free⟩
theorem Blk.c4 {v0 v1 v2 v3 : Value} (h : Blk w b #[v0, v1, v2, v3] e) : w.cell? ⟨b, 0, none⟩ = some v0 ∧ w.cell? ⟨b, 1, none⟩ = some v1 ∧ w.cell? ⟨b, 2, none⟩ = some v2 ∧ w.cell? ⟨b, 3, none⟩ = some v3 ∧ ∀ o, w.frozen? ⟨b, o, none⟩ = false :=
  ⟨h.cell 0 rfl, h.cell 1 rfl, h.cell 2 rfl, h.cell 3 rfl, h.free⟩
theorem Blk.c5 {v0 v1 v2 v3 v4 : Value} (h : Blk w b #[v0, v1, v2, v3, v4] e) : w.cell? ⟨b, 0, none⟩ = some v0 ∧ w.cell? ⟨b, 1, none⟩ = some v1 ∧ w.cell? ⟨b, 2, none⟩ = some v2 ∧ w.cell? ⟨b, 3, none⟩ = some v3 ∧ w.cell? ⟨b, 4, none⟩ = some v4 ∧ ∀ o, w.frozen? ⟨b, o, none⟩ = false :=
  ⟨h.cell 0 rfl, h.cell 1 rfl, h.cell 2 rfl, h.cell 3 rfl, h.cell 4 rfl, h.free⟩
theorem Blk.c6 {v0 v1 v2 v3 v4 v5 : Value} (h : Blk w b #[v0, v1, v2, v3, v4, v5] e) : w.cell? ⟨b, 0, none⟩ = some v0 ∧ w.cell? ⟨b, 1, none⟩ = some v1 ∧ w.cell? ⟨b, 2, none⟩ = some v2 ∧ w.cell? ⟨b, 3, none⟩ = some v3 ∧ w.cell? ⟨b, 4, none⟩ = some v4 ∧ w.cell? ⟨b, 5, none⟩ = some v5 ∧ ∀ o, w.frozen? ⟨b, o, none⟩ = false :=
  ⟨h.cell 0 rfl, h.cell 1 rfl, h.cell 2 rfl, h.cell 3 rfl, h.cell 4 rfl, h.cell 5 rfl, h.free⟩
end

/-- cells set one by one -/
def updAt : Array Value → Nat → List Value → Array Value
  | cur, _, [] => cur
  | cur, o, v :: r => updAt (cur.setIfInBounds o v) (o + 1) r
theorem updAt_size : ∀ (vs : List Value) (cur : Array Value) (o : Nat), (updAt cur o vs).size = cur.size
  | [], _, _ => rfl
  | v :: r, cur, o => by simp [updAt, updAt_size r]
theorem updAt_out : ∀ (vs : List Value) (cur : Array Value) (o j : Nat), (j < o ∨ o + vs.length ≤ j) → (updAt cur o vs)[j]? = cur[j]?
  | [], _, _, _, _ => rfl
  | v :: r, cur, o, j, h => by
    rw [updAt, updAt_out r _ _ _ (by simp at h; omega)]
    rw [Array.getElem?_setIfInBounds_ne (by simp at h; omega)]
theorem updAt_in : ∀ (vs : List Value) (cur : Array Value) (o j : Nat), o + vs.length ≤ cur.size → j < vs.length → (updAt cur o vs)[o + j]? = vs[j]?
  | v :: r, cur, o, 0, h, _ => by
    rw [updAt, updAt_out r _ _ _ (by simp)]
    simp at h
    simp [show o < cur.size by omega]
  | v :: r, cur, o, j + 1, h, hj => by
    have := updAt_in r (cur.setIfInBounds o v) (o + 1) j (by simp at h ⊢; omega) (by simpa using hj)
    rw [updAt, show o + (j + 1) = o + 1 + j by omega, this]
    simp
theorem Blk.setCells : ∀ (vs : List Value) {w : World} {b : Nat} {cur : Array Value} {e : TypeId} (h : Blk w b cur e) (o : Nat), Blk (w.setCells b o vs) b (updAt cur o vs) e
  | [], _, _, _, _, h, _ => h
  | v :: r, _, _, _, _, h, o => Blk.setCells r (h.set o v) (o + 1)
theorem Chg.setCells : ∀ (vs : List Value) {S : Nat → Prop} {a w : World} (h : Chg S a w) (b o : Nat) (hp : b < a.heap.size → S b), Chg S a (w.setCells b o vs)
  | [], _, _, _, h, _, _, _ => h
  | v :: r, _, _, _, h, b, o, hp => Chg.setCells r (h.setCell ⟨b, o, none⟩ v hp) b (o + 1) hp
theorem size_setCells : ∀ (vs : List Value) (w : World) (b o : Nat), (w.setCells b o vs).heap.size = w.heap.size
  | [], _, _, _ => rfl
  | v :: r, w, b, o => by rw [World.setCells, size_setCells r]; simp [World.setCell]

/-- v is a slice of n elements of type e (size cells each) that hold xs; nothing of its block is frozen. -/
def Row (w : World) (e : TypeId) (size : Nat) (v : Value) (n : Nat) (xs : List Value) : Prop :=
  xs.length = n * size ∧
  ((v = .slice none 0 0 ∧ n = 0) ∨
   ∃ g off cap cur, v = .slice (some ⟨g, off, none⟩) n cap ∧ Blk w g cur e ∧ n ≤ cap ∧ cap ≤ maxLen ∧ off + cap * size ≤ cur.size ∧ ∀ j u, xs[j]? = some u → cur[off + j]? = some u)

section
variable {w : World} {e : TypeId} {size : Nat} {v : Value} {n : Nat} {xs : List Value}
theorem Row.nil (w : World) (e : TypeId) (size : Nat) : Row w e size (.slice none 0 0) 0 [] := ⟨by simp, .inl ⟨rfl, rfl⟩⟩
theorem Row.lt (h : Row w e size v n xs) {k : Nat} (hk : v.ownBlock = some k) : k < w.heap.size := by
  rcases h.2 with ⟨rfl, _⟩ | ⟨g, off, cap, cur, rfl, hb, _⟩
  · simp [Value.ownBlock] at hk
  · simp [Value.ownBlock] at hk; subst hk; exact hb.lt
theorem Row.kept {S : Nat → Prop} {w' : World} (h : Row w e size v n xs) (c : Chg S w w') (hs : ∀ k, v.ownBlock = some k → ¬ S k) : Row w' e size v n xs := by
  refine ⟨h.1, ?_⟩
  rcases h.2 with hn | ⟨g, off, cap, cur, rfl, hb, r⟩
  · exact .inl hn
  · exact .inr ⟨g, off, cap, cur, rfl, hb.kept c (hs g rfl), r⟩
theorem Row.cells (h : Row w e size v n xs) : ∃ a cap, v = .slice a n cap ∧ n ≤ cap ∧ cap ≤ maxLen ∧ (∀ j u, xs[j]? = some u → ∃ g off, a = some ⟨g, off, none⟩ ∧ w.cell? ⟨g, off + j, none⟩ = some u) := by
  rcases h.2 with ⟨rfl, rfl⟩ | ⟨g, off, cap, cur, rfl, hb, hn, hc, _, hx⟩
  · have : xs = [] := List.eq_nil_of_length_eq_zero (by simpa using h.1)
    subst this
    exact ⟨none, 0, rfl, Nat.le_refl _, by unfold maxLen; omega, fun j u hu => by simp at hu⟩
  · exact ⟨some ⟨g, off, none⟩, cap, rfl, hn, hc, fun j u hu => ⟨g, off, rfl, hb.cell _ (hx j u hu)⟩⟩
/-- a row that the kit's own law made -/
theorem Row.ofOwns {base : Nat} (h : w.ownsRow base e size v n xs) : Row w e size v n xs := by
  obtain ⟨h1, h2⟩ := h
  refine ⟨h1, ?_⟩
  rcases h2 with h2 | ⟨g, cap, cur, rfl, _, hg, hn, hc, hs, ht⟩
  · exact .inl h2
  · refine .inr ⟨g, 0, cap, cur, rfl, hg, hn, hc, by omega, fun j u hu => ?_⟩
    rw [← ht, List.getElem?_take] at hu
    split at hu
    · simpa using hu
    · cases hu
theorem Row.drew (h : Row w e size v n xs) : Row w.drew e size v n xs := h
theorem Row.src {P : Program} {tx e' : TypeId} (hk : P.underlying tx = some (.slice e')) (h : Row w e size v n xs) (h1 : ∀ u ∈ xs, u.oneCell' = true) : Src P size tx v n xs w := by
  rcases h.2 with ⟨rfl, rfl⟩ | ⟨g, off, cap, cur, rfl, hb, hn, hc, _, hx⟩
  · have : xs = [] := List.eq_nil_of_length_eq_zero (by simpa using h.1)
    subst this
    exact Src.ofNil w hk 0
  · exact Src.ofSlice w hk _ n cap xs h.1 (fun j u hu => by rw [Addr.add_lit]; exact hb.cell _ (hx j u hu)) h1
end
/-- a row over a new block -/
theorem Row.made {w : World} {e : TypeId} {size : Nat} {cur : Array Value} {g : Nat} (hb : Blk w g cur e) (n cap : Nat) (xs : List Value) (hx : xs.length = n * size) (hn : n ≤ cap) (hc : cap ≤ maxLen) (hs : cap * size ≤ cur.size) (h : ∀ (j : Nat) (u : Value), xs[j]? = some u → cur[j]? = some u) :
    Row w e size (.slice (some ⟨g, 0, none⟩) n cap) n xs := ⟨hx, .inr ⟨g, 0, cap, cur, rfl, hb, hn, hc, by omega, by simpa using h⟩⟩

/-- what was copied over the whole of a row -/
theorem Row.copied {w : World} {e : TypeId} {Z : Array Value} {g m : Nat} {xs : List Value} (hb : Blk w g (updAt Z 0 xs) e) (hZ : Z.size = m) (hx : xs.length = m) (hm : m ≤ maxLen) : Row w e 1 (.slice (some ⟨g, 0, none⟩) m m) m xs := by
  refine Row.made hb m m xs (by omega) (Nat.le_refl _) hm (by rw [updAt_size, hZ]; omega) ?_
  intro j u hu
  have hj := (List.getElem?_eq_some_iff.1 hu).1
  have := updAt_in xs Z 0 j (by omega) hj
  rw [Nat.zero_add] at this
  rw [this, hu]

theorem Row.capped {w : World} {e : TypeId} {size n c : Nat} {a : Option Addr} {xs : List Value} (h : Row w e size (.slice a n c) n xs) : Row w e size (.slice a n n) n xs := by
  refine ⟨h.1, ?_⟩
  rcases h.2 with ⟨he, hn⟩ | ⟨g, off, cap, cur, he, hb, h1, h2, h3, h4⟩
  · cases he; exact .inl ⟨rfl, rfl⟩
  · cases he
    have := Nat.mul_le_mul_right size h1
    exact .inr ⟨g, off, n, cur, rfl, hb, Nat.le_refl _, by omega, by omega, h4⟩

/-- APPEND: what comes back is a row that holds both; it lies where the old one lay, or in a new block. -/
theorem run_append_Row {P : Program} (w : World) (t tx ty e : TypeId) (i : TypeInfo) (z : Value) (size bytes : Nat) (ht : P.underlying t = some (.slice e)) (hi : P.info? e = some i) (hz : i.zero = some z)
    (hsize : i.size = size) (hby : i.bytes = bytes) (hzs : z.cells.size = size)
    (v : Value) (n : Nat) (xs : List Value) (hrow : Row w e size v n xs) (x : Value) (m : Nat) (news : List Value) (hs : Src P size tx x m news w)
    (h63 : n + m ≤ maxLen) (hbytes : (n + m) * bytes ≤ 140737488355328) :
    ∃ a' c' w', (Builtin.append_ #[t, tx] ty #[v, x]).run P w = .ok (.slice a' (n + m) c') w' ∧ Row w' e size (.slice a' (n + m) c') (n + m) (xs ++ news) ∧ Chg (fun k => v.ownBlock = some k) w w' ∧
      (Value.ownBlock (.slice a' (n + m) c') = v.ownBlock ∨ (Value.ownBlock (.slice a' (n + m) c') = some w.heap.size ∧ w.heap.size < w'.heap.size)) ∧ ((a' = none ∧ c' = 0) ↔ v = .slice none 0 0 ∧ m = 0) := by
  subst hsize
  subst hby
  have hsmall : n + m ≤ 9223372036854775807 := by simp only [maxLen] at h63; omega
  have hlen : (xs ++ news).length = (n + m) * i.size := by rw [List.length_append, hrow.1, hs.newsLen, Nat.add_mul]
  have grown : ∀ (old : Nat), old < n + m →
      Row (w.drew.alloc (.cells ((xs ++ news).toArray ++ Builtin.zeroCells z.cells (grownCap w (n + m) old e - (n + m))) e)) e i.size
        (.slice (some ⟨w.heap.size, 0, none⟩) (n + m) (grownCap w (n + m) old e)) (n + m) (xs ++ news) := by
    intro old ho
    have hge := grownCap_ge w (n + m) old e
    have hcm : grownCap w (n + m) old e ≤ maxLen := grownCap_le_maxLen w (n + m) old e h63
    refine Row.made (Blk.new w.drew _ e) _ _ _ hlen hge hcm ?_ ?_
    · simp only [Array.size_append, List.size_toArray, size_zeroCells, hzs, hlen, ← Nat.add_mul]
      exact Nat.mul_le_mul_right _ (by omega)
    · intro j u hu
      have hj : j < (xs ++ news).length := (List.getElem?_eq_some_iff.1 hu).1
      rw [Array.getElem?_append_left (by simpa using hj)]
      simpa using hu
  rcases hrow.2 with ⟨rfl, rfl⟩ | ⟨g, off, cap, cur, rfl, hb, hnc, hcm, hcs, hx⟩
  · have hx : xs = [] := List.eq_nil_of_length_eq_zero (by simpa using hrow.1)
    subst hx
    by_cases hm : m = 0
    · subst hm
      have hn : news = [] := List.eq_nil_of_length_eq_zero (by simpa using hs.newsLen)
      subst hn
      refine ⟨none, 0, w, ?_, Row.nil w e i.size, Chg.refl _ _, .inl rfl, by simp⟩
      rcases hs.kind with ⟨e', hk⟩ | hk <;> simp [Builtin.append_, run_underlying ht, run_underlying hk, sizeOf, typeInfo, hi, hs.len, hs.cells]
    · have hr := run_append_grow_src (P := P) w t tx ty e i z ht hi hz none 0 0 [] (run_firstCells_none _ _ _ _ _) x m news hs (by omega) (by omega) (growslice_fits (by omega) hbytes)
      exact ⟨_, _, _, hr, grown 0 (by omega), (Chg.refl _ w).drew.alloc _, .inr ⟨rfl, by simp⟩, by simp [hm]⟩
  · by_cases hroom : n + m ≤ cap
    · have hle : (n + m) * i.size ≤ cap * i.size := Nat.mul_le_mul_right _ hroom
      rw [Nat.add_mul, ← hs.newsLen] at hle
      have hr := run_append_room_src (P := P) w t tx ty e i ht hi g off n cap x m news hs hroom
        (fun j hj => by rw [hb.cellEq]; simp; omega) (fun j _ => hb.free _)
      refine ⟨_, _, _, hr, ⟨hlen, .inr ⟨g, off, cap, updAt cur (off + n * i.size) news, rfl, hb.setCells news _, hroom, hcm, by rw [updAt_size]; exact hcs, ?_⟩⟩, Chg.setCells news (Chg.refl _ w) g _ (fun _ => rfl), .inl rfl, by simp⟩
      intro j u hu
      by_cases hj : j < xs.length
      · rw [List.getElem?_append_left hj] at hu
        rw [updAt_out _ _ _ _ (by rw [hrow.1] at hj; omega)]
        exact hx j u hu
      · rw [List.getElem?_append_right (by omega)] at hu
        have hj' := (List.getElem?_eq_some_iff.1 hu).1
        have := updAt_in news cur (off + n * i.size) (j - xs.length) (by omega) hj'
        rw [← hu, ← this]
        congr 1
        have := hrow.1
        omega
    · have hold : (Builtin.firstCells i.size n (.slice (some ⟨g, off, none⟩) n cap)).run P w.drew = .ok xs.toArray w.drew :=
        run_firstCells_some w.drew i.size n ⟨g, off, none⟩ n cap xs hrow.1 (fun j u hu => by rw [Addr.add_lit]; exact hb.drew.cell _ (hx j u hu))
      have hr := run_append_grow_src (P := P) w t tx ty e i z ht hi hz _ n cap xs hold x m news hs (by omega) (by omega) (growslice_fits (by omega) hbytes)
      exact ⟨_, _, _, hr, grown cap (by omega), (Chg.refl _ w).drew.alloc _, .inr ⟨rfl, by simp⟩, by simp⟩

/-- .. at the operation, for the walk -/
theorem wpList_append_Row {P : Program} {w : World} {ops : Array Oper} {rest : List Oper} {o : Oper} {a : Act} {Q : Exit → Act → World → Prop} (hgd : o.guard = none) (s x : Operand) (t tx : TypeId)
    (ho : o.op = .call { callee := .builtin .append, args := #[s, x], argTypes := #[t, tx] })
    (e : TypeId) (i : TypeInfo) (z : Value) (size bytes : Nat) (ht : P.underlying t = some (.slice e)) (hi : P.info? e = some i) (hz : i.zero = some z)
    (hsize : i.size = size) (hby : i.bytes = bytes) (hzs : z.cells.size = size)
    (v : Value) (n : Nat) (xs : List Value) (hv : a.eval s = v) (hrow : Row w e size v n xs) (xv : Value) (hxv : a.eval x = xv) (m : Nat) (news : List Value) (hs : Src P size tx xv m news w)
    (h63 : n + m ≤ maxLen) (hbytes : (n + m) * bytes ≤ 140737488355328)
    (h : ∀ a' c' w', Row w' e size (.slice a' (n + m) c') (n + m) (xs ++ news) → Chg (fun k => v.ownBlock = some k) w w' → (Value.ownBlock (.slice a' (n + m) c') = v.ownBlock ∨ (Value.ownBlock (.slice a' (n + m) c') = some w.heap.size ∧ w.heap.size < w'.heap.size)) → ((a' = none ∧ c' = 0) ↔ v = .slice none 0 0 ∧ m = 0) → wpList P ops Q rest (a.put o.dst (.slice a' (n + m) c')) w') :
    wpList P ops Q (o :: rest) a w := by
  refine wpList_plain hgd fun K hK => ?_
  obtain ⟨a', c', w', hr, h2, h3, h4, h5⟩ := run_append_Row (P := P) w t tx o.type e i z size bytes ht hi hz hsize hby hzs v n xs hrow xv m news hs h63 hbytes
  unfold Oper.wp execOp
  simp only [ho, resolve, invoke, builtin, Sem.run_bind, Sem.run_pure, Result.andThen_ok, List.map_toArray, List.map_cons, List.map_nil, hv, hxv, hr]
  exact hK _ _ (h a' c' w' h2 h3 h4 h5)

/-- .. as one step of a region that draws its order (go_region_law) -/
theorem step_append_Row {P : Program} {ops : Array Oper} {o : Oper} {a : Act} {w : World} {K : Act → World → Prop} {Q : Exit → Act → World → Prop} {E : Prop} (hgd : o.guard = none) (s x : Operand) (t tx : TypeId)
    (ho : o.op = .call { callee := .builtin .append, args := #[s, x], argTypes := #[t, tx] })
    (e : TypeId) (i : TypeInfo) (z : Value) (size bytes : Nat) (ht : P.underlying t = some (.slice e)) (hi : P.info? e = some i) (hz : i.zero = some z)
    (hsize : i.size = size) (hby : i.bytes = bytes) (hzs : z.cells.size = size)
    (v : Value) (n : Nat) (xs : List Value) (hv : a.eval s = v) (hrow : Row w e size v n xs) (xv : Value) (hxv : a.eval x = xv) (m : Nat) (news : List Value) (hs : Src P size tx xv m news w)
    (h63 : n + m ≤ maxLen) (hbytes : (n + m) * bytes ≤ 140737488355328)
    (h : ∀ a' c' w', Row w' e size (.slice a' (n + m) c') (n + m) (xs ++ news) → Chg (fun k => v.ownBlock = some k) w w' → (Value.ownBlock (.slice a' (n + m) c') = v.ownBlock ∨ (Value.ownBlock (.slice a' (n + m) c') = some w.heap.size ∧ w.heap.size < w'.heap.size)) → ((a' = none ∧ c' = 0) ↔ v = .slice none 0 0 ∧ m = 0) → K (a.put o.dst (.slice a' (n + m) c')) w') :
    if Region.wanted o (yielded ops a.tmps) = true then Oper.wp P o a w K Q else E := by
  have hw : Region.wanted o (yielded ops a.tmps) = true := by simp [Region.wanted, hgd]
  rw [if_pos hw]
  obtain ⟨a', c', w', hr, h2, h3, h4, h5⟩ := run_append_Row (P := P) w t tx o.type e i z size bytes ht hi hz hsize hby hzs v n xs hrow xv m news hs h63 hbytes
  unfold Oper.wp execOp
  simp only [ho, resolve, invoke, builtin, Sem.run_bind, Sem.run_pure, Result.andThen_ok, List.map_toArray, List.map_cons, List.map_nil, hv, hxv, hr]
  exact h a' c' w' h2 h3 h4 h5

/-- copy of as many elements as there are on both sides -/
theorem run_copy_all {P : Program} (w : World) (dT sT ty e : TypeId) (i : TypeInfo) (ht : P.underlying dT = some (.slice e)) (hi : P.info? e = some i) (g off m c : Nat) (cur : Array Value) (e' : TypeId) (hb : Blk w g cur e')
    (x : Value) (news : List Value) (hs : Src P i.size sT x m news w) (hfit : off + news.length ≤ cur.size) :
    (Builtin.copy_ #[dT, sT] ty #[.slice (some ⟨g, off, none⟩) m c, x]).run P w = .ok (.int .i64 m) (w.setCells g off news) := by
  have hst := run_storeCells_cells (P := P) g off news 0 w (fun j hj => by rw [hb.cellEq]; simp; omega) (fun j _ => hb.free _) hs.one
  simp only [Nat.add_zero] at hst
  simp [Builtin.copy_, run_underlying ht, sizeOf, typeInfo, hi, hs.len, hs.cells, hst, goInt]

theorem wpList_copy_all {P : Program} {w : World} {ops : Array Oper} {rest : List Oper} {o : Oper} {a : Act} {Q : Exit → Act → World → Prop} (hgd : o.guard = none) (d s : Operand) (dT sT : TypeId)
    (ho : o.op = .call { callee := .builtin .copy, args := #[d, s], argTypes := #[dT, sT] }) (e : TypeId) (i : TypeInfo) (size : Nat) (ht : P.underlying dT = some (.slice e)) (hi : P.info? e = some i) (hsize : i.size = size)
    (g off m c : Nat) (cur : Array Value) (e' : TypeId) (hd : a.eval d = .slice (some ⟨g, off, none⟩) m c) (hb : Blk w g cur e') (x : Value) (hx : a.eval s = x) (news : List Value) (hs : Src P size sT x m news w) (hfit : off + news.length ≤ cur.size)
    (h : ∀ w2, Chg (One g) w w2 → Blk w2 g (updAt cur off news) e' → w2.heap.size = w.heap.size → wpList P ops Q rest (a.put o.dst (.int .i64 m)) w2) : wpList P ops Q (o :: rest) a w := by
  refine wpList_plain hgd fun K hK => ?_
  subst hsize
  have hrun := run_copy_all (P := P) w dT sT o.type e i ht hi g off m c cur e' hb x news hs hfit
  unfold Oper.wp execOp
  simp only [ho, resolve, invoke, builtin, Sem.run_bind, Sem.run_pure, Result.andThen_ok, List.map_toArray, List.map_cons, List.map_nil, hd, hx, hrun]
  exact hK _ _ (h _ (Chg.setCells news (Chg.refl _ w) g off (fun _ => rfl)) (hb.setCells news off) (size_setCells _ _ _ _))

theorem step_copy_all {P : Program} {w : World} {ops : Array Oper} {o : Oper} {a : Act} {K : Act → World → Prop} {Q : Exit → Act → World → Prop} {E : Prop} (hgd : o.guard = none) (d s : Operand) (dT sT : TypeId)
    (ho : o.op = .call { callee := .builtin .copy, args := #[d, s], argTypes := #[dT, sT] }) (e : TypeId) (i : TypeInfo) (size : Nat) (ht : P.underlying dT = some (.slice e)) (hi : P.info? e = some i) (hsize : i.size = size)
    (g off m c : Nat) (cur : Array Value) (e' : TypeId) (hd : a.eval d = .slice (some ⟨g, off, none⟩) m c) (hb : Blk w g cur e') (x : Value) (hx : a.eval s = x) (news : List Value) (hs : Src P size sT x m news w) (hfit : off + news.length ≤ cur.size)
    (h : ∀ w2, Chg (One g) w w2 → Blk w2 g (updAt cur off news) e' → w2.heap.size = w.heap.size → K (a.put o.dst (.int .i64 m)) w2) : if Region.wanted o (yielded ops a.tmps) = true then Oper.wp P o a w K Q else E := by
  have hw : Region.wanted o (yielded ops a.tmps) = true := by simp [Region.wanted, hgd]
  rw [if_pos hw]
  subst hsize
  have hrun := run_copy_all (P := P) w dT sT o.type e i ht hi g off m c cur e' hb x news hs hfit
  unfold Oper.wp execOp
  simp only [ho, resolve, invoke, builtin, Sem.run_bind, Sem.run_pure, Result.andThen_ok, List.map_toArray, List.map_cons, List.map_nil, hd, hx, hrun]
  exact h _ (Chg.setCells news (Chg.refl _ w) g off (fun _ => rfl)) (hb.setCells news off) (size_setCells _ _ _ _)

/-- make([]T, n) -/
theorem run_makeN {P : Program} (t e : TypeId) (i : TypeInfo) (z : Value) (size bytes : Nat) (ht : P.underlying t = some (.slice e)) (hi : P.info? e = some i) (hz : i.zero = some z) (hsize : i.size = size) (hby : i.bytes = bytes)
    (n c : Nat) (hnc : n ≤ c) (hb : bytes * c ≤ 281474976710656) (hm : c ≤ 9223372036854775807) (w : World) :
    (Instr.makeSlice t (.int .i64 n) (.int .i64 c)).run P w = .ok (.slice (some ⟨w.heap.size, 0, none⟩) n c) (w.alloc (.cells (madeCells z.cells (c * size)) e)) := by
  subst hsize; subst hby
  have hb' : (i.bytes : Int) * (c : Int) ≤ 281474976710656 := by
    have h : ((i.bytes * c : Nat) : Int) ≤ 281474976710656 := by omega
    rwa [Int.natCast_mul] at h
  have := run_make (P := P) w t e i z ht hi hz .i64 .i64 (n : Int) (c : Int) (by omega) (by omega) hb' (by omega)
  simp only [Int.toNat_natCast] at this
  exact this

/-- .. at the operation -/
theorem wpList_makeN {P : Program} {w : World} {ops : Array Oper} {rest : List Oper} {o : Oper} {a : Act} {Q : Exit → Act → World → Prop}
    (hg : o.guard = none) (l c : Operand) (t : TypeId) (hop : o.op = Op.makeSlice t l c)
    (e : TypeId) (i : TypeInfo) (z : Value) (size bytes : Nat) (h1 : P.underlying t = some (.slice e)) (h2 : P.info? e = some i) (h3 : i.zero = some z) (h4 : i.size = size) (h5 : i.bytes = bytes)
    (L C : Int) (n m : Nat) (hl : a.eval l = .int .i64 L) (hc : a.eval c = .int .i64 C) (hL : L = (n : Int)) (hC : C = (m : Int)) (hnm : n ≤ m) (b2 : bytes * m ≤ 281474976710656) (b3 : m ≤ 9223372036854775807)
    (hK : ∀ w' Z, Z.size = m * size → Blk w' w.heap.size Z e → Chg No w w' → w'.heap.size = w.heap.size + 1 → Hid (Z = madeCells z.cells (m * size)) → wpList P ops Q rest (a.put o.dst (.slice (some ⟨w.heap.size, 0, none⟩) n m)) w') :
    wpList P ops Q (o :: rest) a w := by
  refine wpList_plain hg fun K hK' => ?_
  have hrun := run_makeN (P := P) t e i z size bytes h1 h2 h3 h4 h5 n m hnm b2 b3 w
  subst hL
  subst hC
  unfold Oper.wp
  simp [execOp, hop, hl, hc, hrun, Result.andThen]
  exact hK' _ _ (hK _ _ (size_madeCells _ _) (Blk.new w _ e) ((Chg.refl _ w).alloc _) (by simp) rfl)

section slices
variable {P : Program} {t e : TypeId} {size : Nat}
/-- s[l:h] -/
theorem run_slice_lh (ht : P.underlying t = some (.slice e)) (hs : (P.info? e).map (·.size) = some size) (g off len cap l h : Nat) (hl : l ≤ h) (hh : h ≤ cap) (hc : cap ≠ l) (L H : Int) (hL : L = l) (hH : H = h) (w : World) :
    (Instr.slice t (.slice (some ⟨g, off, none⟩) len cap) (some (.int .i64 L)) (some (.int .i64 H)) none).run P w = .ok (.slice (some ⟨g, off + l * size, none⟩) (h - l) (cap - l)) w := by
  subst hL; subst hH
  obtain ⟨i, hi, hsz⟩ := Option.map_eq_some_iff.1 hs
  have h1 : (h : Int) ≤ cap := by omega
  have h2 : (l : Int) ≤ h := by omega
  simp [Instr.slice, run_underlying ht, Instr.sliceBounds, Instr.sliceBound, asIntOf, sizeOf, typeInfo, hi, hsz, hc, h1, h2, hl, hh, Addr.add_lit]
/-- s[:h] -/
theorem run_slice_h (ht : P.underlying t = some (.slice e)) (hs : (P.info? e).map (·.size) = some size) (a : Option Addr) (len cap h : Nat) (hh : h ≤ cap) (H : Int) (hH : H = h) (w : World) :
    (Instr.slice t (.slice a len cap) none (some (.int .i64 H)) none).run P w = .ok (.slice a h cap) w := by
  subst hH
  obtain ⟨i, hi, hsz⟩ := Option.map_eq_some_iff.1 hs
  have h1 : (h : Int) ≤ cap := by omega
  by_cases hc : cap = 0
  · simp [Instr.slice, run_underlying ht, Instr.sliceBounds, Instr.sliceBound, asIntOf, sizeOf, typeInfo, hi, hsz, hc, h1, hh]; omega
  · cases a <;> simp [Instr.slice, run_underlying ht, Instr.sliceBounds, Instr.sliceBound, asIntOf, sizeOf, typeInfo, hi, hsz, hc, h1, hh, Addr.add]
/-- s[l:] -/
theorem run_slice_l (ht : P.underlying t = some (.slice e)) (hs : (P.info? e).map (·.size) = some size) (g off len cap l : Nat) (hl : l ≤ len) (hc : cap ≠ l) (L : Int) (hL : L = l) (w : World) :
    (Instr.slice t (.slice (some ⟨g, off, none⟩) len cap) (some (.int .i64 L)) none none).run P w = .ok (.slice (some ⟨g, off + l * size, none⟩) (len - l) (cap - l)) w := by
  subst hL
  obtain ⟨i, hi, hsz⟩ := Option.map_eq_some_iff.1 hs
  have h2 : (l : Int) ≤ len := by omega
  simp [Instr.slice, run_underlying ht, Instr.sliceBounds, Instr.sliceBound, asIntOf, sizeOf, typeInfo, hi, hsz, hc, h2, hl, Addr.add_lit]
/-- s[l:] where l is the capacity -/
theorem run_slice_l_end (ht : P.underlying t = some (.slice e)) (hs : (P.info? e).map (·.size) = some size) (a : Option Addr) (len cap l : Nat) (hl : l ≤ len) (hc : cap = l) (L : Int) (hL : L = l) (w : World) :
    (Instr.slice t (.slice a len cap) (some (.int .i64 L)) none none).run P w = .ok (.slice a (len - l) 0) w := by
  subst hL
  obtain ⟨i, hi, hsz⟩ := Option.map_eq_some_iff.1 hs
  have h2 : (l : Int) ≤ len := by omega
  subst hc
  simp [Instr.slice, run_underlying ht, Instr.sliceBounds, Instr.sliceBound, asIntOf, sizeOf, typeInfo, hi, hsz, h2, hl]
/-- s[l:h] where l is the capacity -/
theorem run_slice_lh_end (ht : P.underlying t = some (.slice e)) (hs : (P.info? e).map (·.size) = some size) (a : Option Addr) (len cap l h : Nat) (hl : l ≤ h) (hh : h ≤ cap) (hc : cap = l) (L H : Int) (hL : L = l) (hH : H = h) (w : World) :
    (Instr.slice t (.slice a len cap) (some (.int .i64 L)) (some (.int .i64 H)) none).run P w = .ok (.slice a 0 0) w := by
  subst hL; subst hH
  obtain ⟨i, hi, hsz⟩ := Option.map_eq_some_iff.1 hs
  subst hc
  have e1 : h = cap := by omega
  subst e1
  simp [Instr.slice, run_underlying ht, Instr.sliceBounds, Instr.sliceBound, asIntOf, sizeOf, typeInfo, hi, hsz]
end slices

/-- v lies in memory that is new since w -/
def Fresh (w : World) (v : Value) : Prop := ∀ j, v.ownBlock = some j → w.heap.size ≤ j
theorem Fresh.cap {w : World} {a : Option Addr} {n c m d : Nat} (h : Fresh w (.slice a n c)) : Fresh w (.slice a m d) := fun j hj => h j (by cases a <;> exact hj)
theorem Chg.fresh {w w1 w2 : World} {v : Value} (h : Chg No w w1) (hf : Fresh w v) (k : Chg (fun j => v.ownBlock = some j) w1 w2) : Chg No w w2 := h.trans k (fun i hi hv => absurd (hf i hv) (by omega))
theorem Fresh.next {w w1 : World} {v v' : Value} (hf : Fresh w v) (hs : w.heap.size ≤ w1.heap.size) (h : v'.ownBlock = v.ownBlock ∨ ∃ j, v'.ownBlock = some j ∧ w1.heap.size ≤ j) : Fresh w v' := by
  intro j hj
  rcases h with h | ⟨i, h, hi⟩
  · exact hf j (h ▸ hj)
  · rw [h] at hj; cases hj; omega
theorem Fresh.next' {w w1 w2 : World} {v v' : Value} (hf : Fresh w v) (hs : w.heap.size ≤ w1.heap.size) (h : v'.ownBlock = v.ownBlock ∨ (v'.ownBlock = some w1.heap.size ∧ w1.heap.size < w2.heap.size)) : Fresh w v' :=
  hf.next hs (h.imp id fun h => ⟨_, h.1, Nat.le_refl _⟩)
theorem ownBlock_slice (g off n c : Nat) : Value.ownBlock (.slice (some ⟨g, off, none⟩) n c) = some g := rfl
theorem ownBlock_nil : Value.ownBlock (.slice none 0 0) = none := rfl

/-- bytes as cells -/
def bv (b : UInt8) : Value := .int .u8 b.toNat
def bvs (l : List UInt8) : List Value := l.map bv
theorem bvs_length (l : List UInt8) : (bvs l).length = l.length := by simp [bvs]
theorem bvs_append (a b : List UInt8) : bvs (a ++ b) = bvs a ++ bvs b := by simp [bvs]
theorem bvs_one (l : List UInt8) : ∀ u ∈ bvs l, u.oneCell' = true := by
  intro u hu; simp [bvs] at hu; obtain ⟨b, _, rfl⟩ := hu; rfl
theorem byteCells_bvs (s : ByteArray) : byteCells s = bvs s.data.toList := rfl

#print axioms run_append_Row
end Go.Proofs.Ytfmcfcjcmmlmfaa

/- Maps at integer keys as sorted lists of entries. -/
import Derived.Test.YtfmcfcjcmmlmfaaMem
import Derived.Maps.OwnSet
import Derived.Maps.OwnIn
import Derived.Lib.SlKeysI
namespace Go.Proofs.Ytfmcfcjcmmlmfaa
open Go Go.RowKit Go.Maps
set_option linter.unusedVariables false
set_option linter.unusedSectionVars false

section
variable {α : Type} (key : α → Int) (val : α → Value)

/-- put among entries that rise -/
def insK (x : α) : List α → List α
  | [] => [x]
  | y :: r => if key x < key y then x :: y :: r else y :: insK x r
/-- a map's entries behind a store -/
def putK (x : α) (m : List α) : List α := insK key x (m.filter fun y => !decide (key y = key x))
/-- a map's entry -/
def getK (m : List α) (k : Int) : Option α := m.find? fun y => decide (key y = k)
/-- the keys rise -/
def Rising (m : List α) : Prop := m.Pairwise fun x y => key x < key y

theorem mem_insK (x y : α) : ∀ m : List α, y ∈ insK key x m ↔ y = x ∨ y ∈ m
  | [] => by simp [insK]
  | z :: r => by
    unfold insK
    split
    · simp
    · simp [mem_insK x y r]; constructor <;> (rintro (h | h | h) <;> simp [h])
theorem insK_rising (x : α) : ∀ m : List α, Rising key m → (∀ y ∈ m, key y ≠ key x) → Rising key (insK key x m)
  | [], _, _ => by simp [insK, Rising]
  | z :: r, h, hn => by
    obtain ⟨h1, h2⟩ := List.pairwise_cons.1 h
    unfold insK
    split
    · rename_i hl
      refine List.pairwise_cons.2 ⟨fun y hy => ?_, h⟩
      rcases List.mem_cons.1 hy with rfl | hy
      · exact hl
      · exact Int.lt_trans hl (h1 y hy)
    · rename_i hl
      refine List.pairwise_cons.2 ⟨fun y hy => ?_, insK_rising x r h2 (fun y hy => hn y (List.mem_cons_of_mem _ hy))⟩
      rcases (mem_insK key x y r).1 hy with rfl | hy
      · have := hn z (by simp); omega
      · exact h1 y hy
theorem putK_rising (x : α) (m : List α) (h : Rising key m) : Rising key (putK key x m) :=
  insK_rising key x _ (h.filter _) (fun y hy => by have := (List.mem_filter.1 hy).2; simpa using this)
theorem mem_putK (x y : α) (m : List α) : y ∈ putK key x m ↔ y = x ∨ (y ∈ m ∧ key y ≠ key x) := by
  unfold putK; rw [mem_insK]; simp
theorem rising_one {m : List α} (h : Rising key m) {x y : α} (hx : x ∈ m) (hy : y ∈ m) (e : key x = key y) : x = y := by
  induction m with
  | nil => simp at hx
  | cons z r ih =>
    obtain ⟨h1, h2⟩ := List.pairwise_cons.1 h
    rcases List.mem_cons.1 hx with hx1 | hx1 <;> rcases List.mem_cons.1 hy with hy1 | hy1
    · rw [hx1, hy1]
    · have := h1 _ hy1; rw [← hx1] at this; omega
    · have := h1 _ hx1; rw [← hy1] at this; omega
    · exact ih h2 hx1 hy1
theorem getK_some {m : List α} {k : Int} {x : α} (h : getK key m k = some x) : x ∈ m ∧ key x = k :=
  ⟨List.mem_of_find?_eq_some h, by simpa using List.find?_some h⟩
theorem getK_none {m : List α} {k : Int} : getK key m k = none ↔ ∀ x ∈ m, key x ≠ k := by simp [getK]
theorem getK_mem {m : List α} (hm : Rising key m) {k : Int} {x : α} : getK key m k = some x ↔ x ∈ m ∧ key x = k := by
  constructor
  · exact getK_some key
  · rintro ⟨h, rfl⟩
    cases hg : getK key m (key x) with
    | none => exact absurd rfl ((getK_none key).1 hg x h)
    | some y => rw [rising_one key hm (getK_some key hg).1 h (getK_some key hg).2]
theorem getK_putK {m : List α} (hm : Rising key m) (x : α) (k : Int) : getK key (putK key x m) k = if k = key x then some x else getK key m k := by
  split
  · rename_i e; subst e
    exact (getK_mem key (putK_rising key x m hm)).2 ⟨(mem_putK key x x m).2 (.inl rfl), rfl⟩
  · rename_i e
    cases hg : getK key m k with
    | none =>
      refine (getK_none key).2 fun y hy => ?_
      rcases (mem_putK key x y m).1 hy with rfl | ⟨hy, _⟩
      · exact fun h => e h.symm
      · exact (getK_none key).1 hg y hy
    | some y =>
      obtain ⟨h1, h2⟩ := getK_some key hg
      exact (getK_mem key (putK_rising key x m hm)).2 ⟨(mem_putK key x y m).2 (.inr ⟨h1, by rw [h2]; exact e⟩), h2⟩

variable (q : IntKind)
/-- an entry's datum -/
def ent (x : α) : Lit × DataW Value := (.int q (key x), .held (val x))
theorem ent_ins (x : α) : ∀ m : List α, DataW.insert (ent key val q x) (m.map (ent key val q)) = (insK key x m).map (ent key val q)
  | [] => rfl
  | y :: r => by
    simp only [List.map_cons, DataW.insert, insK]
    have e : (ent key val q x).1.before (ent key val q y).1 = decide (key x < key y) := rfl
    rw [e]
    by_cases h : key x < key y
    · simp [h]
    · simp [h, ent_ins x r]
theorem ent_filter (x : α) (m : List α) : (m.map (ent key val q)).filter (ChangeMaps.notKey (.int q (key x))) = (m.filter fun y => !decide (key y = key x)).map (ent key val q) := by
  rw [List.filter_map]
  congr 1
  apply List.filter_congr
  intro y _
  simp [Function.comp, ChangeMaps.notKey, ent, Lit.sameKey]
theorem ent_put (x : α) (m : List α) : (DataW.map (m.map (ent key val q))).put (.int q (key x)) (.held (val x)) = .map ((putK key x m).map (ent key val q)) := by
  rw [DataW.put_eq]
  unfold ChangeMaps.putKey
  rw [ent_filter]
  exact congrArg _ (ent_ins key val q x _)
theorem find_ent (m : List α) (k : Int) : (m.map (ent key val q)).find? (fun p => p.1.sameKey (.int q k)) = (getK key m k).map (ent key val q) := by
  induction m with
  | nil => rfl
  | cons y r ih =>
    by_cases h : key y = k
    · simp [getK, ent, Lit.sameKey, h]
    · simp only [List.map_cons, List.find?_cons, getK]
      have e : (ent key val q y).1.sameKey (.int q k) = false := by simp [ent, Lit.sameKey, h]
      have e2 : decide (key y = k) = false := by simp [h]
      rw [e, e2]
      exact ih
theorem ent_at (m : List α) (k : Int) (z : DataW Value) : (DataW.map (m.map (ent key val q))).atKey (.int q k) z = ((getK key m k).map fun x => DataW.held (val x)).getD z := by
  simp only [DataW.atKey, find_ent]
  cases getK key m k <;> rfl
theorem ent_has (m : List α) (k : Int) : Maps.has (.map (m.map (ent key val q))) (.int q k) = (getK key m k).isSome := by
  have h := find_ent key val q m k
  rw [Maps.has_eq]
  cases hg : getK key m k with
  | none =>
    rw [hg] at h
    have h2 := List.find?_eq_none.1 h
    rw [Option.isSome_none, List.any_eq_false]
    exact fun x hx => by simpa using h2 x hx
  | some y =>
    rw [hg] at h
    rw [Option.isSome_some, List.any_eq_true]
    exact ⟨_, List.mem_of_find?_eq_some h, by simpa using List.find?_some h⟩
theorem ent_keys (m : List α) : intKeys (.map (m.map (ent key val q)) : DataW Value) = m.map key := by
  simp only [intKeys, List.map_map]
  rfl

/-- a key's bounds -/
def wfK (k : Int) : Prop := (Lit.int q k).wf = true
/-- how any element reads -/
def anyE : Value → Option (DataW Value × List MemPlace) := fun v => some (.held v, [])

/-- block b is the map of these entries -/
structure IMap (P : Program) (kt : TypeId) (w : World) (b : Nat) (m : List α) : Prop where
  own : w.ownsMap P kt anyE b m.length (.map (m.map (ent key val q)))
  rise : Rising key m

variable {key val q} {P : Program} {kt : TypeId} {w : World} {b : Nat} {m : List α}

theorem IMap.lt (h : IMap key val q P kt w b m) : b < w.heap.size := h.own.lt
theorem IMap.kept {S : Nat → Prop} {w' : World} (h : IMap key val q P kt w b m) (c : Chg S w w') (hs : ¬ S b) : IMap key val q P kt w' b m := by
  obtain ⟨⟨es, clock, hb, F, h1, h2⟩, hr⟩ := h
  exact ⟨⟨es, clock, (c.block b (Array.getElem?_eq_some_iff.1 hb).1 hs).trans hb, F, h1, h2⟩, hr⟩
theorem IMap.drew (h : IMap key val q P kt w b m) (n : Nat) : IMap key val q P kt (w.drewN n) b m := ⟨h.own, h.rise⟩
theorem IMap.made (w : World) : IMap key val q P kt (w.alloc (.map #[] 0)) w.heap.size ([] : List α) := ⟨World.ownsMap_made w P kt _, .nil⟩
theorem owns_tight {w : World} {D : DataW Value} {n : Nat} (h : w.ownsMap P kt anyE b n D) : w.ownsMap P kt anyE b (Maps.size D) D := by
  obtain ⟨es, clock, hb, F, h1, rfl⟩ := h
  exact ⟨es, clock, hb, F, by simp [Maps.size, length_sorted], rfl⟩

theorem IMap.look_ok {t e : TypeId} (h : IMap key val q P kt w b m) (hk : P.underlying kt = some (.int q)) (ht : P.underlying t = some (.map kt e)) {z : Value} (hz : (zeroValue e).run P w = .ok z w) {k : Int} (hw : wfK q k) :
    (Instr.lookup t (.map (some b)) (.int q k) true).run P w = .ok (.tuple #[((getK key m k).map val).getD z, .bool (getK key m k).isSome]) w := by
  obtain ⟨v, ps, hrun, hv⟩ := h.own.look_ok (zd := .held z) (zp := []) (int_keyed hk) ht hz rfl (keyOf_int_mk hk hw)
  rw [ent_at] at hv
  rw [ent_has] at hrun
  rw [hrun]
  unfold anyE at hv
  simp only [Option.some.injEq, Prod.mk.injEq] at hv
  cases hg : getK key m k with
  | none => rw [hg] at hv; have := hv.1; simp at this; subst this; rfl
  | some x => rw [hg] at hv; have := hv.1; simp at this; subst this; rfl
theorem IMap.look {t e : TypeId} (h : IMap key val q P kt w b m) (hk : P.underlying kt = some (.int q)) (ht : P.underlying t = some (.map kt e)) {z : Value} (hz : (zeroValue e).run P w = .ok z w) {k : Int} (hw : wfK q k) :
    (Instr.lookup t (.map (some b)) (.int q k) false).run P w = .ok (((getK key m k).map val).getD z) w := by
  obtain ⟨v, ps, hrun, hv⟩ := h.own.lookup (zd := .held z) (zp := []) (int_keyed hk) ht hz rfl (keyOf_int_mk hk hw)
  rw [ent_at] at hv
  rw [hrun]
  unfold anyE at hv
  simp only [Option.some.injEq, Prod.mk.injEq] at hv
  cases hg : getK key m k with
  | none => rw [hg] at hv; have := hv.1; simp at this; subst this; rfl
  | some x => rw [hg] at hv; have := hv.1; simp at this; subst this; rfl
theorem IMap.put {w' : World} (h : IMap key val q P kt w b m) (x : α) (ho : w'.ownsMap P kt anyE b (m.length + 1) ((DataW.map (m.map (ent key val q))).put (.int q (key x)) (.held (val x)))) : IMap key val q P kt w' b (putK key x m) := by
  refine ⟨?_, putK_rising key x m h.rise⟩
  rw [ent_put] at ho
  have := owns_tight ho
  simpa [Maps.size] using this
theorem Chg.map {w w' : World} (h : w.grownBy w' (some b)) : Chg (One b) w w' := (Chg.refl _ w).grown h (fun k hk _ => by cases hk; rfl)

/-- 'm[k] = v' -/
theorem IMap.store {t e : TypeId} (h : IMap key val q P kt w b m) (hk : P.underlying kt = some (.int q)) (ht : P.underlying t = some (.map kt e)) (x : α) (hw : wfK q (key x)) (hn : m.length < maxLen) :
    ∃ w', (Instr.mapUpdate t (.map (some b)) (.int q (key x)) (val x)).run P w = .ok () w' ∧ IMap key val q P kt w' b (putK key x m) ∧ Chg (One b) w w' := by
  obtain ⟨w', h1, h2, h3⟩ := h.own.update (int_keyed hk) ht hn (keyOf_int_mk hk hw) (val := val x) (d := .held (val x)) (ps := []) rfl
  exact ⟨w', h1, h.put x h2, Chg.map h3⟩

/-- 'm[k] = v' at the operation -/
theorem wpList_store {ops : Array Oper} {rest : List Oper} {o : Oper} {a : Act} {Q : Exit → Act → World → Prop} (hg : o.guard = none) (mo xo vo : Operand) (t : TypeId) (hop : o.op = Op.mapUpdate t mo xo vo)
    (e : TypeId) (hk : P.underlying kt = some (.int q)) (ht : P.underlying t = some (.map kt e)) (b : Nat) (m : List α) (x : α) (hm : a.eval mo = .map (some b)) (hown : IMap key val q P kt w b m) (hn : m.length < maxLen) (hx : a.eval xo = .int q (key x)) (hv : a.eval vo = val x) (hw : wfK q (key x))
    (hK : ∀ w', IMap key val q P kt w' b (putK key x m) → Chg (One b) w w' → wpList P ops Q rest (a.put o.dst undef) w') : wpList P ops Q (o :: rest) a w :=
  wpList_mapUpdate_own w hg mo xo vo t hop kt e (int_keyed hk) ht anyE b m.length _ hm hown.own hn _ _ (.int q (key x)) hx hv (keyOf_int_mk hk hw) (.held (val x)) [] rfl fun w' h1 h2 => hK w' (hown.put x h1) (Chg.map h2)

/-- keys that were sorted are the map's own row -/
theorem sorted_keys (hm : Rising key m) {ss : List Int} (hp : ss.Perm (intKeys (.map (m.map (ent key val q)) : DataW Value))) : ss.mergeSort (fun x y => decide (x ≤ y)) = m.map key := by
  rw [ent_keys] at hp
  have h1 : (ss.mergeSort (fun x y => decide (x ≤ y))).Perm (m.map key) := (List.mergeSort_perm ss _).trans hp
  have h2 : (ss.mergeSort (fun x y => decide (x ≤ y))).Pairwise (· ≤ ·) := by
    have := List.pairwise_mergeSort (le := fun x y : Int => decide (x ≤ y)) (fun a b c h1 h2 => by simp at *; omega) (fun a b => by simp; omega) ss
    exact this.imp (by simp)
  have h3 : (m.map key).Pairwise (· ≤ ·) := by
    rw [List.pairwise_map]
    exact hm.imp (fun h => Int.le_of_lt h)
  exact h1.eq_of_pairwise (fun a b _ _ h1 h2 => Int.le_antisymm h1 h2) h2 h3
end
end Go.Proofs.Ytfmcfcjcmmlmfaa

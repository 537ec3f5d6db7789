/- Walks over ballot: lay, Prepare, Accept. -/
import Derived.Test.YtfmcfcjcmmlmfaaBallotW
namespace Go.Proofs.Ytfmcfcjcmmlmfaa
open Go Go.RowKit Go.Maps
set_option linter.unusedVariables false

theorem WAppPost.before {w w1 w' : World} {wb d i : Nat} {F : Nat → Prop} {a s : Int} {D : DiskS} {bs : List UInt8} (h : WAppPost w1 wb d F i a s D bs w') (c : Chg No w w1) : WAppPost w wb d F i a s D bs w' := by
  obtain ⟨h1, F', h2, h3, h4⟩ := h
  refine ⟨h1, F', h2, ⟨(c.mono (fun _ _ h => h.elim)).trans h3.chg (fun _ _ h => h), fun j hj => (h3.foot j hj).imp id (fun h => Nat.le_trans c.size h)⟩, fun j hj => (h4 j hj).imp id (fun h => Nat.le_trans c.size h)⟩
theorem WAppPost.after {w w1 w' : World} {wb d i : Nat} {F : Nat → Prop} {a s : Int} {D : DiskS} {bs : List UInt8} (h : WAppPost w wb d F i a s D bs w1) (c : Chg No w1 w') : WAppPost w wb d F i a s D bs w' := by
  obtain ⟨h1, F', h2, h3, h4⟩ := h
  exact ⟨h1.kept c id, F', h2.kept c (fun _ _ h => h), ⟨h3.chg.same (c.mono (fun _ _ h => h.elim)), h3.foot⟩, h4⟩

theorem lay_ok (w : World) (ab wb mb d i : Nat) (F : Nat → Prop) (prom a s : Int) (m : List VT) (D : DiskS) (l : List UInt8 × Nat) (g off c : Nat) (x : List WV)
    (h : AccOn w ab wb mb d i prom m a s) (hD : DiskAt w d F D) (hwF : ¬ F wb) (hl : D.logs[i]? = some l) (hd : D.down = false) (ha : D.armed = 0)
    (hok : ∀ v ∈ x, v.Ok) (hn : x.length ≤ 1000) (hc : ∀ j u, (wvCells x)[j]? = some u → w.cell? ⟨g, off + j, none⟩ = some u)
    (hb : (packB x).length ≤ 65536) (hlen : l.1.length + (packB x).length + 8 ≤ 4194304) :
    Calls Try.prog 27 #[.pointer (some ⟨ab, 0, none⟩), .slice (some ⟨g, off, none⟩) x.length c] w fun e w' => e = .returned (.int .i64 0) ∧ WAppPost w wb d F i a s D (packB x) w' := by
  obtain ⟨c0, c1, c2, hf⟩ := h.head.c3
  have Hp := hid (pack_ok g off c x hok hn w hc)
  have H := hid h
  have HA := fun (W : World) (v : Value) (hw : Chg No w W) (hx : Row W 5 1 v (packB x).length (bvs (packB x))) => hid (wAppend W wb d F i a s D l v (packB x) (h.wal.kept hw id) (hD.kept hw (fun _ _ h => h)) hwF hl hd ha hx hb hlen)
  clear h hD hwF hl hd ha hok hc hb hlen hn
  go_enter Try.func27, Try.ntmps27
  go_wp2_with fail
  refine Hp.out.mono ?_
  rintro e w1 ⟨v, rfl, hr, hch, -⟩
  have hA := HA w1 v hch hr
  have e0 := hch.cellN c0
  have hf1 : ∀ o, w1.frozen? ⟨ab, o, none⟩ = false := fun o => (hch.frozen (p := ⟨ab, o, none⟩) H.out.head.lt id).trans (hf o)
  have Hch := hid hch
  clear HA hr hch
  go_wp2_with fail
  refine hA.out.mono ?_
  rintro e w2 ⟨rfl, hP⟩
  have HP := hid hP
  clear hP
  go_wp2_with fail
  go_ret
  exact ⟨rfl, HP.out.before Hch.out⟩

/-- an acceptor as a state -/
structure AccS where
  prom : Int
  votes : List VT
  a : Int
  s : Int
  D : DiskS
/-- an acceptor and its disk in memory -/
structure AccAt (w : World) (ab wb mb d i : Nat) (F : Nat → Prop) (A : AccS) : Prop where
  on : AccOn w ab wb mb d i A.prom A.votes A.a A.s
  disk : DiskAt w d F A.D
  fa : ¬ F ab
  fw : ¬ F wb
  fm : ¬ F mb
  log : i < A.D.logs.length
  up : A.D.down = false
  arm : A.D.armed = 0
  few : A.votes.length ≤ 1000000
  slots : ∀ x ∈ A.votes, i64r x.slot
def accF (F : Nat → Prop) (ab wb mb : Nat) : Nat → Prop := fun j => F j ∨ j = ab ∨ j = wb ∨ j = mb
def AccPost (w : World) (ab wb mb d i : Nat) (F : Nat → Prop) (A' : AccS) (w' : World) : Prop :=
  ∃ F', AccAt w' ab wb mb d i F' A' ∧ Upd w (accF F ab wb mb) w' (accF F' ab wb mb)

theorem AccAt.kept {w w' : World} {ab wb mb d i : Nat} {F S : Nat → Prop} {A : AccS} (h : AccAt w ab wb mb d i F A) (c : Chg S w w') (hs : ∀ j, accF F ab wb mb j → ¬ S j) : AccAt w' ab wb mb d i F A :=
  ⟨h.on.kept c (hs _ (.inr (.inl rfl))) (hs _ (.inr (.inr (.inl rfl)))) (hs _ (.inr (.inr (.inr rfl)))), h.disk.kept c (fun j hj => hs j (.inl hj)), h.fa, h.fw, h.fm, h.log, h.up, h.arm, h.few, h.slots⟩
theorem AccAt.fin {w : World} {ab wb mb d i : Nat} {F : Nat → Prop} {A : AccS} (h : AccAt w ab wb mb d i F A) : ∀ j, accF F ab wb mb j → j < w.heap.size := by
  rintro j (hj | rfl | rfl | rfl)
  · exact h.disk.fin j hj
  · exact h.on.head.lt
  · exact h.on.wal.lt
  · exact IMap.lt h.on.map
theorem AccPost.same {w w' : World} {ab wb mb d i : Nat} {F : Nat → Prop} {A : AccS} (h : AccAt w ab wb mb d i F A) (c : Chg No w w') : AccPost w ab wb mb d i F A w' :=
  ⟨F, h.kept c (fun _ _ h => h), c.mono (fun _ _ h => h.elim), fun _ h => .inl h⟩
theorem AccPost.trans {w w1 w2 : World} {ab wb mb d i : Nat} {F F1 : Nat → Prop} {A2 : AccS} (h : Upd w (accF F ab wb mb) w1 (accF F1 ab wb mb)) (k : AccPost w1 ab wb mb d i F1 A2 w2) : AccPost w ab wb mb d i F A2 w2 :=
  let ⟨F2, h1, h2⟩ := k
  ⟨F2, h1, h.trans h2⟩

/-- the record of a promise -/
def recP (b : Int) : List WV := [⟨1, 1, 0, ByteArray.empty⟩, ⟨2, 0, b, ByteArray.empty⟩]
/-- the record of a vote -/
def recA (x : VT) : List WV := [⟨1, 2, 0, ByteArray.empty⟩, ⟨2, 0, x.b, ByteArray.empty⟩, ⟨2, 0, x.slot, ByteArray.empty⟩, ⟨4, 0, 0, x.s⟩]

/-- one record more -/
def AccS.laid (A : AccS) (i : Nat) (r : List WV) : AccS := { A with a := wrap64 (A.a + 1), D := A.D.put i (sealF (packB r)) }
def AccS.prep (A : AccS) (i : Nat) (b : Int) : AccS :=
  if whyF A.prom b = 0 ∧ A.prom < b then { A.laid i (recP b) with prom := b } else A

theorem put_len (D : DiskS) (i : Nat) (ys : List UInt8) : (D.put i ys).logs.length = D.logs.length := by
  unfold DiskS.put; split <;> simp
theorem put_up (D : DiskS) (i : Nat) (ys : List UInt8) : (D.put i ys).down = D.down ∧ (D.put i ys).armed = D.armed := by
  unfold DiskS.put; split <;> simp

/-- what lay leaves, in the state's words -/
theorem AccAt.laid {w w' : World} {ab wb mb d i : Nat} {F : Nat → Prop} {A : AccS} {r : List WV} (h : AccAt w ab wb mb d i F A) (k : WAppPost w wb d F i A.a A.s A.D (packB r) w') :
    AccPost w ab wb mb d i F (A.laid i r) w' := by
  obtain ⟨h1, F', h2, h3, h4⟩ := k
  have ha := h.on.head.lt
  have hm := IMap.lt h.on.map
  have hw := h.on.wal.lt
  have n1 := h.on.n1
  have n2 := h.on.n2
  have n3 := h.on.n3
  refine ⟨F', ⟨⟨h.on.head.kept h3.chg ?_, IMap.kept h.on.map h3.chg ?_, h1, n1, n2, n3⟩, h2, ?_, ?_, ?_, ?_, ?_, ?_, h.few, h.slots⟩, ?_, ?_⟩
  · rintro (hj | hj)
    · exact h.fa hj
    · exact n1 hj
  · rintro (hj | hj)
    · exact h.fm hj
    · exact n3 hj.symm
  · intro hj; rcases h4 _ hj with hj | hj
    · exact h.fa hj
    · omega
  · intro hj; rcases h4 _ hj with hj | hj
    · exact h.fw hj
    · omega
  · intro hj; rcases h4 _ hj with hj | hj
    · exact h.fm hj
    · omega
  · show i < (A.D.put i _).logs.length
    rw [put_len]; exact h.log
  · show (A.D.put i _).down = false
    rw [(put_up _ _ _).1]; exact h.up
  · show (A.D.put i _).armed = 0
    rw [(put_up _ _ _).2]; exact h.arm
  · exact h3.chg.mono (fun j _ hj => hj.elim .inl (fun e => .inr (.inr (.inl e))))
  · rintro j (hj | hj | hj | hj)
    · exact (h4 j hj).imp .inl id
    · exact .inl (.inr (.inl hj))
    · exact .inl (.inr (.inr (.inl hj)))
    · exact .inl (.inr (.inr (.inr hj)))
end Go.Proofs.Ytfmcfcjcmmlmfaa

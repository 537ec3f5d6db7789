/- The walk over ballot.Open, at a log of records. -/
import Derived.Test.YtfmcfcjcmmlmfaaReplayW
import Derived.Test.YtfmcfcjcmmlmfaaRecP
namespace Go.Proofs.Ytfmcfcjcmmlmfaa
open Go Go.RowKit Go.Maps
set_option linter.unusedVariables false

theorem replay_r (w : World) (ab wb mb d i : Nat) (a s : Int) (st : Int × List VT) (r : RecT) (h : AccOn w ab wb mb d i st.1 st.2 a s) (hm : st.2.length ≤ 1000000) (hr : r.Ok) (la : Option Addr) (bs : List UInt8) (hbs : bs = r.load) (hB : Byt w la bs) :
    Calls Try.prog 25 #[.pointer (some ⟨ab, 0, none⟩), .slice la bs.length bs.length] w fun e w' => e = .returned (.bool true) ∧ AccOn w' ab wb mb d i (stepR st r).1 (stepR st r).2 a s ∧ Chg (fun j => j = ab ∨ j = mb) w w' := by
  cases r with
  | p b => exact replay_p w ab wb mb d i st.1 a s st.2 b h hr la bs hbs hB
  | a x => exact replay_a w ab wb mb d i st.1 a s st.2 x h hm hr.1 hr.2.1 hr.2.2 la bs hbs hB

/-- the acceptor that an Open makes of records -/
def AccS.ofRecs (rs : List RecT) (D : DiskS) (i : Nat) : AccS := ⟨(stateR rs).1, (stateR rs).2, rs.length, rs.length, D.opened i⟩

structure OpInv (W : World) (ab wb mb d i : Nat) (F' : Nat → Prop) (D' : DiskS) (rs : List RecT) (n : Int) (k : Nat) (wr : World) : Prop where
  le : k ≤ rs.length
  on : AccOn wr ab wb mb d i (stateR (rs.take k)).1 (stateR (rs.take k)).2 n n
  disk : DiskAt wr d F' D'
  chg : Chg (fun j => j = ab ∨ j = mb) W wr

set_option maxRecDepth 100000 in
set_option maxHeartbeats 2000000 in
theorem open_recs (w : World) (d : Nat) (F : Nat → Prop) (i : Nat) (D : DiskS) (l : List UInt8 × Nat) (rs : List RecT) (hD : DiskAt w d F D)
    (hl : D.logs[i]? = some l) (hd : D.down = false) (ha : D.armed = 0) (hlen : l.1.length ≤ 4194304) (hlo : D.loads i = rs.map RecT.load) (hok : ∀ r ∈ rs, r.Ok) (hn : rs.length ≤ 900000) :
    Calls Try.prog 12 #[.pointer (some ⟨d, 0, none⟩), .int .i64 i] w (AOpenPost w d i F (AccS.ofRecs rs D i)) := by
  have Ho := hid (wOpen w d F i D l hD hl hd ha hlen)
  have Hlo := hid hlo
  have hil : i < D.logs.length := (List.getElem?_eq_some_iff.1 hl).1
  have Hil := hid hil
  have Hd := hid hd
  have Ha := hid ha
  have Hok := hid hok
  have hmm := @run_makeMap Try.prog
  have hFin := hid hD.fin
  clear hD hl hd ha hlen hlo hil hok
  go_enter Try.func12, Try.ntmps12
  go_wp2_with fail
  refine Ho.out.mono ?_
  rintro e w1 ⟨wb, v, F', rfl, hB, hL, hDk, hU, hwb, hnF, hvF⟩
  rw [Hlo.out] at hL hB
  obtain ⟨vs, hr, hls, hvfr, -⟩ := hL
  have hvl : vs.length = rs.length := by rw [hls.len, List.length_map]
  rw [hvl] at hr
  obtain ⟨va, vc, rfl, -, -, hvc⟩ := hr.cells
  rw [List.length_map] at hB
  have Hr := hid hr
  have HB := hid hB
  have HDk := hid hDk
  have HU := hid hU
  have HnF := hid hnF
  have Hls := hid hls
  have Hvc := hid hvc
  have Hvl := hid hvl
  clear hr hls hB hDk hU hnF hvfr hvF hvc hvl
  obtain ⟨n, hn2⟩ : ∃ n, rs.length = n := ⟨_, rfl⟩
  rw [hn2] at HB Hr hn ⊢
  have Hn2 := hid hn2
  clear hn2
  go_wp2_with fail
  have hc1 : Chg No w1 (w1.alloc (.map #[] 0)) := (Chg.refl _ _).alloc _
  have hM : VMap (w1.alloc (.map #[] 0)) w1.heap.size [] := IMap.made w1
  have hc2 : Chg No (w1.alloc (.map #[] 0)) ((w1.alloc (.map #[] 0)).alloc (.cells #[.pointer (some ⟨wb, 0, none⟩), .int .i64 0, .map (some w1.heap.size)] 53)) := (Chg.refl _ _).alloc _
  have hH : Blk ((w1.alloc (.map #[] 0)).alloc (.cells #[.pointer (some ⟨wb, 0, none⟩), .int .i64 0, .map (some w1.heap.size)] 53)) (w1.heap.size + 1) #[.pointer (some ⟨wb, 0, none⟩), .int .i64 0, .map (some w1.heap.size)] 53 := by
    have := Blk.new (w1.alloc (.map #[] 0)) #[.pointer (some ⟨wb, 0, none⟩), .int .i64 0, .map (some w1.heap.size)] 53
    simpa using this
  have hc := hc1.same hc2
  have hwlt := HB.out.lt
  have hlt := HDk.out.fin
  have hsz : w1.heap.size < w1.heap.size + 1 := by omega
  have hInv : OpInv ((w1.alloc (.map #[] 0)).alloc (.cells #[.pointer (some ⟨wb, 0, none⟩), .int .i64 0, .map (some w1.heap.size)] 53)) (w1.heap.size + 1) wb w1.heap.size d i F' (D.opened i) rs n 0 ((w1.alloc (.map #[] 0)).alloc (.cells #[.pointer (some ⟨wb, 0, none⟩), .int .i64 0, .map (some w1.heap.size)] 53)) :=
    ⟨Nat.zero_le _, ⟨hH, IMap.kept hM hc2 id, HB.out.kept hc id, by omega, by omega, by omega⟩, HDk.out.kept hc (fun _ _ h => h), .refl _ _⟩
  have HInv := hid hInv
  have HcW := hid hc
  have Hord : Hid (¬ F' (w1.heap.size + 1) ∧ ¬ F' w1.heap.size) := hid ⟨fun h => by have := hlt _ h; omega, fun h => by have := hlt _ h; omega⟩
  have Hge : Hid (w.heap.size ≤ w1.heap.size ∧ w.heap.size ≤ wb) := hid ⟨HU.out.chg.size, hwb⟩
  clear hc hwlt hlt hH hc1 hc2 hM hInv hsz hwb
  generalize ((w1.alloc (.map #[] 0)).alloc (.cells #[.pointer (some ⟨wb, 0, none⟩), .int .i64 0, .map (some w1.heap.size)] 53)) = W at *
  obtain ⟨mb, hmb⟩ : ∃ mb, w1.heap.size = mb := ⟨_, rfl⟩
  rw [hmb] at HInv Hord Hge ⊢
  obtain ⟨ab, hab⟩ : ∃ ab, mb + 1 = ab := ⟨_, rfl⟩
  rw [hab] at HInv Hord ⊢
  have Hlts : Hid (mb = w1.heap.size ∧ ab = w1.heap.size + 1) := hid ⟨hmb.symm, by omega⟩
  clear hmb hab
  go_loopw [28] (fun v wr => ∃ k : Nat, v = .int .i64 k ∧ OpInv W ab wb mb d i F' (D.opened i) rs n k wr) (fun v _ => n - (intOf v).toNat)
  case atStart => exact ⟨0, rfl, HInv.out⟩
  case round =>
    obtain ⟨k, rfl, hinv⟩ := hrel
    have hk := hinv.le
    rw [Hn2.out] at hk
    by_cases hlt : k < n
    · obtain ⟨r, hr⟩ : ∃ r, rs[k]? = some r := ⟨_, List.getElem?_eq_getElem (by rw [Hn2.out]; exact hlt)⟩
      obtain ⟨u, hu⟩ : ∃ u, vs[k]? = some u := ⟨_, List.getElem?_eq_getElem (by rw [Hvl.out, Hn2.out]; exact hlt)⟩
      obtain ⟨g, off, rfl, hcell⟩ := Hvc.out k u hu
      obtain ⟨la, rfl, hrow, hfr⟩ := Hls.out.at_ k u r.load hu (by rw [List.getElem?_map, hr]; rfl)
      have hgl : g < w1.heap.size := lt_of_blk hcell
      have hcW : ∀ W', Chg (fun j => j = ab ∨ j = mb) W W' → ∀ q, q < w1.heap.size → W'.heap[q]? = w1.heap[q]? := by
        intro W' h q hq
        have := Hlts.out
        have h1 := h.block q (Nat.lt_of_lt_of_le hq HcW.out.size) (by omega)
        rw [h1]
        exact HcW.out.block q hq id
      have hcell2 : wr.cell? ⟨g, off + k, none⟩ = some (.slice la r.load.length r.load.length) := (World.cell?_of_block (w := w1) (hcW wr hinv.chg g hgl)).trans hcell
      have hbyt : Byt wr la r.load := by
        intro j hj
        obtain ⟨g2, off2, ha, hc⟩ := (Row.byt hrow) j hj
        exact ⟨g2, off2, ha, (World.cell?_of_block (w := w1) (hcW wr hinv.chg g2 (lt_of_blk hc))).trans hc⟩
      have hst := stateR_len (rs.take k)
      have hR := hid (replay_r wr ab wb mb d i n n (stateR (rs.take k)) r hinv.on (by rw [List.length_take] at hst; omega) (Hok.out r (List.mem_of_getElem? hr)) la r.load rfl hbyt)
      have Hinv := hid hinv
      have Hrr := hid hr
      have hwk : wrap64 ((k : Int) + 1) = (k : Int) + 1 := by unfold wrap64; omega
      have hIk : (k : Int) < (n : Int) := by omega
      clear hinv hcell hrow hfr hcW hbyt hst hu hr hgl
      go_wp2_with fail
      refine hR.out.mono ?_
      rintro e w5 ⟨rfl, hA5, hc5⟩
      have hI5 : OpInv W ab wb mb d i F' (D.opened i) rs n (k + 1) w5 := by
        refine ⟨by have := Hn2.out; omega, ?_, Hinv.out.disk.kept hc5 (fun j hj e => ?_), Hinv.out.chg.same hc5⟩
        · rw [stateR_take Hrr.out]; exact hA5
        · have := Hord.out
          rcases e with rfl | rfl
          · exact this.1 hj
          · exact this.2 hj
      have HI5 := hid hI5
      clear hI5 hA5 hc5
      go_wp2_with fail
      exact ⟨⟨k + 1, by go_num, HI5.out⟩, by first | (rw [hwk]; show n - ((k : Int) + 1).toNat < n - (k : Int).toNat; omega) | (show n - ((k : Int) + 1).toNat < n - (k : Int).toNat; omega)⟩
    · have hkk : k = n := by omega
      have hon := hinv.on
      have e : rs.take k = rs := by rw [hkk, ← Hn2.out, List.take_length]
      rw [e] at hon
      have Hon := hid hon
      have Hinv := hid hinv
      clear hon hinv e hk
      go_wp2_with fail
      go_ret2
      have hs := stateR_len rs
      have hlts := Hlts.out
      have hge := Hge.out
      refine ⟨ab, wb, mb, F', rfl, ⟨?_, Hinv.out.disk, Hord.out.1, HnF.out, Hord.out.2, ?_, ?_, ?_, ?_, ?_⟩, ?_, ?_⟩
      · have := Hon.out
        unfold AccS.ofRecs
        simp only [Hn2.out]
        exact this
      · show i < (D.opened i).logs.length; rw [opened_len]; exact Hil.out
      · show (D.opened i).down = false; rw [(opened_up _ _).1]; exact Hd.out
      · show (D.opened i).armed = 0; rw [(opened_up _ _).2]; exact Ha.out
      · have := Hn2.out
        show (stateR rs).2.length ≤ 1000000
        omega
      · intro x hx
        have := stateR_slots _ rs rfl Hok.out x hx
        exact ⟨by omega, by omega⟩
      · have h1 : Chg F w W := HU.out.chg.same (HcW.out.mono (fun _ _ h => h.elim))
        exact h1.trans Hinv.out.chg (fun j hj e => by
          have h2 := HU.out.chg.size
          omega)
      · rintro j (hj | rfl | rfl | rfl)
        · exact HU.out.foot j hj
        · exact .inr (by omega)
        · exact .inr hge.2
        · exact .inr (by omega)
end Go.Proofs.Ytfmcfcjcmmlmfaa

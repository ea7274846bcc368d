/- Package wto: Order's closure component. -/
import Derived.Test.YthaampinmelgaaaGreatDoorVisitS
import Derived.Laws.EntriesVeiled
namespace Go.Proofs.YthaampinmelgaaaGreatDoor
open Go.RowKit Go.Shelf

/-- The contract of a visit at some fuel. -/
def VisitAt (e : OEnv) (k : Nat) : Prop := ∀ (w : World) (s : VSt) (sv : Value) (lb off : Nat) (T : TypeId) (cs : List Value) (base : Nat) (P : Nat → Prop) (lv : Value) (l : List El) (us : List Value) (v : Nat) (r : VRes),
  OS e w s sv → LO e w lb off T cs base P lv l us → base ≤ w.heap.size → v < e.n → visitV e.E k s l v = some r →
  Calls Tryz.prog 20 #[.int .i64 (v : Int), .pointer (some ⟨lb, off, none⟩), .pointer (some ⟨e.sb, 0, none⟩), .pointer (some ⟨e.nb, 0, none⟩), .pointer (some ⟨e.mb, 0, none⟩), .pointer (some ⟨e.ob, 0, none⟩), .pointer (some ⟨e.gb, 0, none⟩), .pointer (some ⟨e.vb, 0, none⟩), .pointer (some ⟨e.cb, 0, none⟩)] w
    (VDone e w sv lb off T cs base lv r)

/-- The row of a point, and the edge at a place of it. -/
theorem OS.row {e : OEnv} {w : World} {s : VSt} {sv : Value} (h : OS e w s sv) {v : Nat} (hv : v < e.n) : ∃ ad u, (∃ c, e.ov = .slice (some ad) e.n c) ∧ ad.block < e.ob ∧ w.cell? (ad.add v) = some u ∧ Nats e.ob w u (idxs Prod.fst e.E v) := by
  obtain ⟨A, c, he, -, -, hat⟩ := h.rows
  obtain ⟨ad, u, rfl, hb, hc, hn⟩ := hat v (idxs Prod.fst e.E v) (by simp [hv])
  exact ⟨ad, u, ⟨c, by rw [he]; simp⟩, hb, hc, hn⟩
theorem OS.edge {e : OEnv} {w : World} {s : VSt} {sv : Value} (h : OS e w s sv) (hok : e.Ok) {k : Nat} (hk : k < e.E.length) : ∃ ad : Addr, e.A = some ad ∧ ad.block < e.gb ∧ w.cell? ⟨(ad.add (k * 21)).block, (ad.add (k * 21)).off + 1, none⟩ = some (.int .i64 (tgt e.E k : Int)) ∧ tgt e.E k < e.n := by
  obtain ⟨A, c, he, -, -, hat⟩ := h.ed
  rw [castE_length] at he
  cases he
  have hx : e.E[k]? = some e.E[k] := List.getElem?_eq_getElem hk
  obtain ⟨ad, cs, he2, hb, hl, hc, h0, h1, -⟩ := Edges.nat hat k _ hx
  have := hc 1 _ h1
  rw [addrOne] at this
  have ht : tgt e.E k = e.E[k].2 := by unfold tgt; rw [List.getD_eq_getElem?_getD, hx]; rfl
  exact ⟨ad, he2, hb, by rw [ht]; exact this, by rw [ht]; exact (hok.lt _ (List.getElem_mem hk)).2⟩

set_option maxRecDepth 100000 in
set_option maxHeartbeats 4000000 in
theorem comp_any (e : OEnv) (hok : e.Ok) (k : Nat) (ih : VisitAt e k) (w : World) (s : VSt) (sv : Value) (v : Nat) (t : VSt × List El) (hs : OS e w s sv) (hv : v < e.n) (hb : e.base ≤ w.heap.size) (h : foldO (compS (visitV e.E k) e.E) (idxs Prod.fst e.E v) (s, []) = some t) :
    Calls Tryz.prog 19 #[.int .i64 (v : Int), .pointer (some ⟨e.ob, 0, none⟩), .pointer (some ⟨e.gb, 0, none⟩), .pointer (some ⟨e.mb, 0, none⟩), .pointer (some ⟨e.vb, 0, none⟩)] w fun en w' =>
      ∃ bv sv' P us, en = .returned (.agg #[.int .i64 (v : Int), .bool true, bv]) ∧ OS e w' t.1 sv' ∧ EO 36 (w.heap.size + 2) P w' bv t.2 us ∧ Only (fun b => b = e.sb ∨ b = e.nb ∨ b = e.na ∨ sv.ownBlock = some b) w w' ∧ Same w sv sv' := by
  obtain ⟨h1, h2, h3, h4, h5, h6, h7, h8, -⟩ := id hok
  obtain ⟨w2, hw2⟩ : ∃ w2, w2 = (w.alloc (.cells #[.int .i64 0, .bool false, .slice none 0 0] 36)).alloc (.cells #[.int .i64 (v : Int), .bool true, .slice none 0 0] 36) := ⟨_, rfl⟩
  have hs2 : OS e w2 s sv := by rw [hw2]; exact (hs.alloc hok _).alloc hok _
  have hr2 : Blk w2 w.heap.size 36 [.int .i64 0, .bool false, .slice none 0 0] := by rw [hw2]; exact (Blk.newAt w 36 #[.int .i64 0, .bool false, .slice none 0 0] rfl).alloc _
  have hc2 : Blk w2 (w.heap.size + 1) 36 [.int .i64 (v : Int), .bool true, .slice none 0 0] := by rw [hw2]; exact Blk.newAt _ 36 #[.int .i64 (v : Int), .bool true, .slice none 0 0] (by simp)
  have hsz2 : w2.heap.size = w.heap.size + 2 := by rw [hw2]; simp
  have hon2 : Only (fun b => b = e.sb ∨ b = e.nb ∨ b = e.na ∨ sv.ownBlock = some b) w w2 := by rw [hw2]; exact ((Only.refl _ w).alloc _).alloc _
  have hlo2 : LO e w2 (w.heap.size + 1) 2 36 [.int .i64 (v : Int), .bool true, .slice none 0 0] (w.heap.size + 2) (fun _ => False) (.slice none 0 0) [] [] := ⟨hc2, rfl, by decide, by omega, by omega, EO.nil _ _ _⟩
  obtain ⟨ado, vr, ⟨co, hov⟩, hob, hor, hrow⟩ := hs2.row hv
  obtain ⟨Ar, cr, rfl, -, -, hmr, hcr⟩ := hrow.shape
  have hidx := idxs_lt Prod.fst e.E v
  have hs2v := hs2.o.cellAt (i := 0) rfl
  rw [hov] at hs2v
  have hvn : (v : Int) < (e.n : Int) := by omega
  revert hcr hmr h hidx
  generalize idxs Prod.fst e.E v = row at hor hrow ⊢
  intro h hmr hcr hidx
  have hsvo : ∀ b, sv.ownBlock = some b → b < w.heap.size := fun b hb => (hs.lt hb).2
  have hobr := hob
  have HS2 := Lib.hid hs2
  have HR2 := Lib.hid hr2
  have HLO2 := Lib.hid hlo2
  have HON2 := Lib.hid hon2
  have HF := Lib.hid h
  have HIDX := Lib.hid hidx
  have HCR := Lib.hid hcr
  have HSVO := Lib.hid hsvo
  have HSZ := Lib.hid hsz2
  have HOK := Lib.hid hok
  have HIH := Lib.hid ih
  clear hs hs2 hr2 hc2 hlo2 hon2 h hidx hcr hsvo hsz2 hok ih hrow hov
  go_enter Tryz.func19, Tryz.ntmps19
  go_upto_region 2 with fail
  rw [← hw2]
  clear hw2
  go_wp2
  go_loopw [9, 10, 18] (fun _ _ y wr => ∃ (m : Nat) (st : VSt × List El) (svm bv : Value) (P : Nat → Prop) (us : List Value), m ≤ row.length ∧ y = .int .i64 m ∧ foldO (compS (visitV e.E k) e.E) (row.take m) (s, []) = some st ∧ OS e wr st.1 svm ∧
    LO e wr (w.heap.size + 1) 2 36 [.int .i64 (v : Int), .bool true, bv] (w.heap.size + 2) P bv st.2 us ∧ Only (SW e sv (.slice none 0 0) (w.heap.size + 1)) w2 wr ∧ Same w2 sv svm ∧ Same w2 (.slice none 0 0) bv) (fun _ _ y _ => row.length - (intOf y).toNat)
  case atStart => exact ⟨0, (s, []), sv, _, _, _, Nat.zero_le _, rfl, rfl, HS2.out, HLO2.out, Only.refl _ _, Same.refl _ _, Same.refl _ _⟩
  case round =>
    obtain ⟨m, st, svm, bv, P, us, hm, rfl, hf, hs, hl, ho, hsm, hbm⟩ := hrel
    clear hs2v hor
    have hsw := ho.size
    have hsz2 := HSZ.out
    by_cases hlt : m < row.length
    · have hlt1 : (m : Int) < (row.length : Int) := by omega
      obtain ⟨st', hstep, hnext⟩ := foldO_at _ _ m hlt _ _ _ HF.out hf
      have hkl := HIDX.out _ (List.getElem_mem hlt)
      have hrk : row[m]? = some row[m] := List.getElem?_eq_getElem hlt
      revert hstep hkl hrk
      generalize row[m] = ke
      intro hstep hkl hrk
      obtain ⟨adr, ur, rfl, hbr, hcr, hur⟩ := HCR.out m ke hrk
      cases hur
      have d0 := (ho.block adr.block (by have := HS2.out.o.lt; omega) (by
        rintro (h | h | h | h | h | h)
        · omega
        · omega
        · omega
        · omega
        · have := (HS2.out.lt h).1; omega
        · cases h))
      have d1 : wr.cell? (adr.add m) = some (.int .i64 (ke : Int)) := (World.cell?_of_block (by rw [block_add]; exact d0)).trans hcr
      obtain ⟨ade, hA, hbe, hce, htn⟩ := hs.edge HOK.out hkl
      have g2 := hs.g.cellAt (i := 2) rfl
      rw [hA] at g2
      have e3 := hs.m.cellAt (i := 0) rfl
      have e4 := hs.num htn
      have e5 := hs.v.cellAt (i := 0) rfl
      simp only [OEnv.vfn] at e5
      have hkl1 : (ke : Int) < (e.E.length : Int) := by omega
      have hkl2 : decide ((e.E.length : Int) ≤ (ke : Int)) = false := by rw [decide_eq_false_iff_not]; omega
      have hkl3 : decide (e.E.length ≤ ke) = false := by rw [decide_eq_false_iff_not]; omega
      have htn1 : (tgt e.E ke : Int) < (e.n : Int) := by omega
      unfold compS at hstep
      have HNX := Lib.hid hnext
      have HST := Lib.hid hstep
      clear hstep hnext hf hcr hA d0 hrk
      by_cases hz : getI st.1.nums (tgt e.E ke) = 0
      · have hst := HST.out
        rw [if_pos hz] at hst
        obtain ⟨r, hr, rfl⟩ := Option.map_eq_some_iff.1 hst
        rw [hz] at e4
        have hcall := HIH.out wr st.1 svm (w.heap.size + 1) 2 36 _ _ P bv st.2 us _ r hs hl (by omega) htn hr
        have HC := Lib.hid hcall
        have HO := Lib.hid ho
        have HSM := Lib.hid hsm
        have HBM := Lib.hid hbm
        clear hst hr hcall hz hs hl ho hsm hbm HST
        go_wp2_with (go_at_call 20; refine HC.out.mono ?_; rintro en w3 ⟨rfl, svx, bvx, usx, Px, hs3, hl3, ho3, hsx, hbx⟩)
        have hsz := HO.out.size
        go_roundw
        case rel => exact ⟨m + 1, _, svx, bvx, Px, usx, by omega, by go_num, HNX.out, hs3, hl3, SW.trans HO.out ho3 HSM.out HBM.out, HSM.out.trans hsx hsz, HBM.out.trans hbx hsz⟩
        case measure => simp [intOf]; omega
      · have hst := HST.out
        rw [if_neg hz] at hst
        obtain rfl := Option.some.inj hst
        revert e4 hz
        generalize getI st.1.nums (tgt e.E ke) = x
        intro e4 hz
        have hz1 : (x == 0) = false := by rw [beq_eq_false_iff_ne]; exact hz
        have hz2 : decide (x = 0) = false := by rw [decide_eq_false_iff_not]; exact hz
        clear hst HST
        go_wp2
        go_roundw
        case rel => exact ⟨m + 1, _, svm, bv, P, us, by omega, by go_num, HNX.out, hs, hl, ho, hsm, hbm⟩
        case measure => simp [intOf]; omega
    · obtain rfl : m = row.length := by omega
      rw [List.take_length, HF.out] at hf
      obtain rfl := Option.some.inj hf
      have hr := HR2.out.only ho (by
        have h1 := HSVO.out
        rintro (h | h | h | h | h | h)
        · omega
        · omega
        · omega
        · omega
        · have := h1 _ h; omega
        · cases h)
      have r0 := hr.cellAt (i := 0) rfl
      have r1 := hr.cellAt (i := 1) rfl
      have r2 := hr.cellAt (i := 2) rfl
      have rf := fun i => hr.frozen i
      obtain ⟨Ab, cb, rfl⟩ := own_slice hl.eo.own
      have q0 := hl.b.cellAt (i := 0) rfl
      have q1 := hl.b.cellAt (i := 1) rfl
      have q2 := hl.b.cellAt (i := 2) rfl
      clear hf
      go_wp2
      have hS3 : Only (fun b => b = w.heap.size) wr (((wr.setCell ⟨w.heap.size, 0, none⟩ (.int .i64 (v : Int))).setCell ⟨w.heap.size, 1, none⟩ (.bool true)).setCell ⟨w.heap.size, 2, none⟩ (.slice Ab t.2.length cb)) :=
        (((Only.refl (fun b => b = w.heap.size) wr).set (p := ⟨w.heap.size, 0, none⟩) (fun _ => rfl) _).set (p := ⟨w.heap.size, 1, none⟩) (fun _ => rfl) _).set (p := ⟨w.heap.size, 2, none⟩) (fun _ => rfl) _
      have hr3 := ((hr.set 0 (.int .i64 (v : Int))).set 1 (.bool true)).set 2 (.slice Ab t.2.length cb)
      have k0 := hr3.cellAt (i := 0) rfl
      have k1 := hr3.cellAt (i := 1) rfl
      have k2 := hr3.cellAt (i := 2) rfl
      refine bodyPost_ret (v := .agg #[.int .i64 (v : Int), .bool true, .slice Ab t.2.length cb]) (by simp [results, Tryz.results19, go_sem, k0, k1, k2]) rfl ⟨_, svm, P, us, rfl, ?_, ?_, ?_, ?_⟩
      · refine hs.only HOK.out hS3 (fun b hb2 h => by omega) (fun b hb2 h => ?_)
        exact (Typed.of_row hs.st hb2).ne (Typed.blk hr) (by decide) h
      · refine hl.eo.only hS3 (fun b hb2 h => ?_) (fun b hb2 h => ?_)
        · have := (hl.eo.own.lt b hb2).1; omega
        · have := (hl.eo.apart b hb2).1; omega
      · refine (HON2.out.trans ho (fun b hb2 h => ?_)).trans hS3 (fun b hb2 h => by omega)
        rcases h with h | h | h | h | h | h
        · exact .inl h
        · exact .inr (.inl h)
        · exact .inr (.inr (.inl h))
        · omega
        · exact .inr (.inr (.inr h))
        · cases h
      · rcases hsm with h | ⟨b, h, hb2⟩
        · exact .inl h
        · exact .inr ⟨b, h, by omega⟩
end Go.Proofs.YthaampinmelgaaaGreatDoor

/- Package wto: faults: the reader's element, and Parse's recover. -/
import Derived.Test.YthaampinmelgaaaDoorElement
import Derived.Test.YthaampinmelgaaaDoorParse
/-! Package wto: a reader's element where the text is not right. -/
namespace Go.Proofs.YthaampinmelgaaaDoor
open Go.RowKit Go.Shelf

def ElemFault (b : ByteArray) (k : Nat) : Prop := ∀ (w : World) (g a d : Nat) (a' : Nat) (e : Int), Rdr w g b a → a ≤ b.size → d ≤ 64 → 65 ≤ k + d → elemV b k a d = .error (a', e) →
  Calls Tryd.prog 51 #[.pointer (some ⟨g, 0, none⟩), .int .i64 (d : Int)] w fun en w' => en = .panicked [{ v := .iface 101 (.agg #[.int .i64 ((a' : Nat) : Int), .int .i64 e]), recovered := false }] ∧ Only (fun c => c = g) w w'
theorem number_bad {b : ByteArray} (w : World) (g a a' : Nat) (e : Int) (h : Rdr w g b a) (hb : b.size ≤ 100000000) (ha : a ≤ b.size) (hn : numV b a (b.size + 1) a 0 = .error (a', e)) :
    Calls Tryd.prog 66 #[.pointer (some ⟨g, 0, none⟩)] w fun en w' => en = .panicked [{ v := .iface 101 (.agg #[.int .i64 ((a' : Nat) : Int), .int .i64 e]), recovered := false }] ∧ Only (fun c => c = g) w w' := by
  have := number_any w g b a h hb ha
  rw [hn] at this
  exact this
theorem need_bad' (w : World) (g : Nat) (b : ByteArray) (a : Nat) (c : Int) (h : Rdr w g b a) (ht : isV b a c = false) :
    Calls Tryd.prog 50 #[.pointer (some ⟨g, 0, none⟩), .int .u8 c] w fun en w' => en = .panicked [{ v := .iface 101 (.agg #[.int .i64 ((a : Nat) : Int), .int .i64 4]), recovered := false }] ∧ Only (fun c => c = g) w w' :=
  (need_bad w g b a c h ht).mono fun en w' ⟨h1, h2⟩ => ⟨h1, ⟨h2.os, h2.tape, h2.output, h2.size, fun i hi _ => h2.block i hi (fun f => f)⟩⟩

set_option maxRecDepth 100000 in
set_option maxHeartbeats 8000000 in
theorem element_fault {b : ByteArray} (hb : b.size ≤ 100000000) (k : Nat) (ih : ElemFault b k) : ElemFault b (k + 1) := by
  intro w g a d a' e h ha hd hkd hr
  have hg := Blk.lt h
  have h1 : Rdr (w.alloc (.cells #[.int .i64 0, .bool false, .slice none 0 0] 81)) g b a := Blk.alloc h _
  have his := is_any _ g b a 40 h1
  have hoa : Only (fun c => c = g) w (w.alloc (.cells #[.int .i64 0, .bool false, .slice none 0 0] 81)) := (Only.refl _ w).alloc _
  unfold elemV at hr
  split at hr
  · rename_i hs
    rw [hs] at his
    split at hr
    · rename_i e2 hn
      obtain ⟨a2, e2⟩ := e2
      cases hr
      have hnum := fun q => number_bad ((w.alloc (.cells #[.int .i64 0, .bool false, .slice none 0 0] 81)).drewN q) g a a' e (h1.drewN q) hb ha hn
      have HIS := Lib.hid his
      have HNU := Lib.hid hnum
      have HOA := Lib.hid hoa
      clear his hnum h h1 hs hn hoa
      go_enter Tryd.func51, Tryd.ntmps51
      go_wp2_with (first | (go_at_call 65; refine HIS.out.mono ?_; rintro en w1 ⟨rfl, q, rfl⟩) | (go_at_call 66; refine (HNU.out q).mono ?_; rintro en w2 ⟨rfl, ho2⟩))
      exact ⟨rfl, rfl, (HOA.out.drewN q).trans ho2 (fun _ _ h => h)⟩
    · cases hr
  rename_i hs
  have hs1 : isV b a 40 = true := by simpa using hs
  rw [hs1] at his
  have hlt := isV_lt hs1
  have ha63 : (a : Int) ≤ 100000000 := by omega
  have g1 : ∀ q, ((w.alloc (.cells #[.int .i64 0, .bool false, .slice none 0 0] 81)).drewN q).cell? ⟨g, 1, none⟩ = some (.int .i64 (a : Int)) := fun q => Blk.cellAt (i := 1) h1 rfl
  have e1 : ∀ q, ((w.alloc (.cells #[.int .i64 0, .bool false, .slice none 0 0] 81)).drewN q).frozen? ⟨g, 1, none⟩ = false := fun q => Blk.frozen h1 1
  split at hr
  · rename_i hd64
    cases hr
    have hd1 : ((d : Int) == 64) = true := by subst hd64; rfl
    have HIS := Lib.hid his
    have HOA := Lib.hid hoa
    subst hd64
    clear his h h1 hs hs1 hoa e1
    go_enter Tryd.func51, Tryd.ntmps51
    go_wp2_with (go_at_call 65; refine HIS.out.mono ?_; rintro en w1 ⟨rfl, q, rfl⟩; have g1q := g1 q)
    exact ⟨rfl, rfl, HOA.out.drewN q⟩
  rename_i hd64
  have hd1 : ((d : Int) == 64) = false := by rw [beq_eq_false_iff_ne]; omega
  have hd2 : decide ((d : Int) = 64) = false := by rw [decide_eq_false_iff_not]; omega
  have hd3 : ¬ (d : Int) = 64 := by omega
  have hst : ∀ q, Rdr (((w.alloc (.cells #[.int .i64 0, .bool false, .slice none 0 0] 81)).drewN q).setCell ⟨g, 1, none⟩ (.int .i64 ((a : Int) + 1))) g b (a + 1) := fun q => by simpa using (h1.drewN q).set (a + 1)
  split at hr
  · rename_i e2 hn
    obtain ⟨a2, e2⟩ := e2
    cases hr
    have hnum := fun q => number_bad _ g (a + 1) a' e (hst q) hb (by omega) hn
    have HIS := Lib.hid his
    have HNU := Lib.hid hnum
    have HOA := Lib.hid hoa
    clear his hnum h h1 hs hs1 hn hoa hst hd64
    go_enter Tryd.func51, Tryd.ntmps51
    go_wp2_with (first | (go_at_call 65; refine HIS.out.mono ?_; rintro en w1 ⟨rfl, q, rfl⟩; have g1q := g1 q; have e1q := e1 q) | (go_at_call 66; refine (HNU.out q).mono ?_; rintro en w2 ⟨rfl, ho2⟩))
    exact ⟨rfl, rfl, ((HOA.out.drewN q).set (p := ⟨g, 1, none⟩) (fun _ => rfl) _).trans ho2 (fun _ _ h => h)⟩
  rename_i n a3 hn
  obtain ⟨n1, n2, n3, n4, -⟩ := numV_ok _ _ _ hn (by omega) (by omega) (by omega)
  obtain ⟨res, hres⟩ : ∃ res, loopV (fun q => elemV b k q (d + 1)) b (b.size + 1) a3 [] = res := ⟨_, rfl⟩
  rw [hres] at hr
  have hfin : ∀ a1 e1, res = .error (a1, e1) → a' = a1 ∧ e = e1 := fun a1 e1 h => by rw [h] at hr; cases hr; exact ⟨rfl, rfl⟩
  have hfin2 : ∀ l a4, res = .ok (l, a4) → isV b a4 41 = false ∧ a' = a4 ∧ e = 4 := fun l a4 h => by
    rw [h] at hr
    simp only at hr
    split at hr
    · cases hr
    · rename_i h41
      cases hr
      exact ⟨by simpa using h41, rfl, rfl⟩
  have iho := element_all hb k
  have hbr := Blk.newAt w 81 #[.int .i64 0, .bool false, .slice none 0 0] rfl
  have hnum := fun q => number_any _ g b (a + 1) (hst q) hb (by omega)
  rw [hn] at hnum
  have HFIN := Lib.hid hfin
  have HFIN2 := Lib.hid hfin2
  have HRES := Lib.hid hres
  have HIHO := Lib.hid iho
  clear hfin hfin2 hres iho hr hoa
  have HIS := Lib.hid his
  have HNU := Lib.hid hnum
  have HH := Lib.hid h
  have HBR := Lib.hid hbr
  have HIH := Lib.hid ih
  have HST := Lib.hid hst
  clear his hnum h h1 hbr hs hs1 hn hd64 ih hst
  go_enter Tryd.func51, Tryd.ntmps51
  go_wp2_with (first | (go_at_call 65; refine HIS.out.mono ?_; rintro en w1 ⟨rfl, q, rfl⟩; have g1q := g1 q; have e1q := e1 q) | (go_at_call 66; refine (HNU.out q).mono ?_; rintro en w2 ⟨rfl, hrd2, ho2⟩))
  have hz2 : w.heap.size + 1 ≤ w2.heap.size := by
    have := ho2.size
    simpa [World.setCell] using this
  have hob : Only (fun c => c = g) w w2 := ((((Only.refl (fun c => c = g) w).alloc (.cells #[.int .i64 0, .bool false, .slice none 0 0] 81)).drewN q).set (p := ⟨g, 1, none⟩) (fun _ => rfl) _).trans ho2 (fun _ _ h => h)
  have hrb : Blk w2 w.heap.size 81 [.int .i64 0, .bool false, .slice none 0 0] := ((HBR.out.drewN q).far (p := ⟨g, 1, none⟩) (by show w.heap.size ≠ g; omega) _).only ho2 (by omega)
  have hxb := Blk.newAt w2 81 #[.int .i64 n, .bool true, .slice none 0 0] rfl
  obtain ⟨W0, hW0⟩ : ∃ W0, W0 = w2.alloc (.cells #[.int .i64 n, .bool true, .slice none 0 0] 81) := ⟨_, rfl⟩
  have hW0r : Rdr W0 g b a3 := by rw [hW0]; exact Blk.alloc hrd2 _
  have hW0x : Blk W0 w2.heap.size 81 [.int .i64 n, .bool true, .slice none 0 0] := by rw [hW0]; exact hxb
  have hW0b : Blk W0 w.heap.size 81 [.int .i64 0, .bool false, .slice none 0 0] := by rw [hW0]; exact hrb.alloc _
  have hW0o : Only (fun c => c = g) w W0 := by rw [hW0]; exact hob.alloc _
  rw [← hW0]
  have hd65 : d + 1 ≤ 64 := by omega
  have hwd : IntKind.i64.wrap ((d : Int) + 1) = (d : Int) + 1 := IntWalk.i64_in _ (by omega)
  clear g1 e1 g1q e1q hrd2 ho2 hob hrb hxb hW0
  go_loopw [30] (fun _ wr => ∃ (j q : Nat) (acc : List El) (lv : Value) (us : List Value) (P : Nat → Prop), Rdr wr g b q ∧ q ≤ b.size ∧ Hid (loopV (fun q => elemV b k q (d + 1)) b j q acc = res) ∧ b.size < q + j ∧ Blk wr w2.heap.size 81 [.int .i64 n, .bool true, lv] ∧ Blk wr w.heap.size 81 [.int .i64 0, .bool false, .slice none 0 0] ∧
    EO 81 (w2.heap.size + 1) P wr lv acc us ∧ acc.length ≤ q ∧ Only (fun c => c = g) w wr) (fun _ wr => msr g b wr)
  case atStart => exact ⟨_, a3, [], _, [], _, hW0r, n2, HRES, by omega, hW0x, hW0b, EO.nil _ _ _, Nat.zero_le _, hW0o⟩
  case round =>
    obtain ⟨j, q, acc, lv, us, P, hrd, hq, HLV, hjq, hxb, hrb, heo, hacc, how⟩ := hrel
    cases j with
    | zero => omega
    | succ j =>
      have his := is_any wr g b q 32 hrd
      obtain ⟨Al, cl, rfl⟩ := own_slice heo.own
      cases hsp : isV b q 32 with
      | true =>
        rw [hsp] at his
        have hqs := isV_lt hsp
        have hq63 : (q : Int) ≤ 100000000 := by omega
        have hgw : g < wr.heap.size := Blk.lt hrd
        have g1q : ∀ t, (wr.drewN t).cell? ⟨g, 1, none⟩ = some (.int .i64 (q : Int)) := fun t => Blk.cellAt (i := 1) hrd rfl
        have e1q : ∀ t, (wr.drewN t).frozen? ⟨g, 1, none⟩ = false := fun t => Blk.frozen hrd 1
        have hrs : ∀ t, Rdr ((wr.drewN t).setCell ⟨g, 1, none⟩ (.int .i64 ((q : Int) + 1))) g b (q + 1) := fun t => by simpa using (hrd.drewN t).set (q + 1)
        have hxb' : w2.heap.size + 1 ≤ wr.heap.size := hxb.lt
        have HIS := Lib.hid his
        have HXB := Lib.hid hxb
        have HRB := Lib.hid hrb
        have HEO := Lib.hid heo
        have HOW := Lib.hid how
        have HRS := Lib.hid hrs
        have HRD := Lib.hid hrd
        have hsp2 := hsp
        have HSP := Lib.hid hsp2
        clear his hxb hrb heo how hsp hsp2 hrd hrs
        go_upto_region 9 with (go_at_call 65; refine HIS.out.mono ?_; rintro en w5 ⟨rfl, t, rfl⟩; have g1t := g1q t; have e1t := e1q t)
        have hwrt : Only (fun c => c = g) wr ((wr.drewN t).setCell ⟨g, 1, none⟩ (.int .i64 ((q : Int) + 1))) := ((Only.refl (fun c => c = g) wr).drewN t).set (p := ⟨g, 1, none⟩) (fun _ => rfl) _
        have hxt := (HXB.out.only hwrt (by omega)).drew
        have hHeld := And.intro (hxt.cellAt (i := 2) rfl) trivial
        refine wp_region_front (S := fun w' => w'.cell? ⟨w2.heap.size, 2, none⟩ = some (.slice Al acc.length cl) ∧ True) 2 9 (by kernel_rfl) (by kernel_rfl) (by decide) rfl (by kernel_rfl) (by kernel_rfl) (fun _ _ _ h => h) (.inl ⟨by rfl, fun w' => by rfl⟩) ?_
        simp only [Act.put, List.setIfInBounds_toArray, List.set_cons_zero, List.set_cons_succ]
        have hrz : Rdr ((wr.drewN t).setCell ⟨g, 1, none⟩ (.int .i64 ((q : Int) + 1))).drew g b (q + 1) := HRS.out t
        have hoz : Only (fun c => c = g) wr ((wr.drewN t).setCell ⟨g, 1, none⟩ (.int .i64 ((q : Int) + 1))).drew := hwrt.drew
        have hbz := (HRB.out.only hwrt (by omega)).drew
        clear hwrt g1t e1t g1q e1q
        revert hrz hoz hbz hxt hHeld
        generalize ((wr.drewN t).setCell ⟨g, 1, none⟩ (.int .i64 ((q : Int) + 1))).drew = wz
        intro hxt hHeld hrz hoz hbz
        cases hf : elemV b k (q + 1) (d + 1) with
        | error er =>
          obtain ⟨a1, e1⟩ := er
          have hre : res = .error (a1, e1) := by
            have := HLV.out
            unfold loopV at this
            rw [HSP.out] at this
            simp only [if_true] at this
            rw [hf] at this
            exact this.symm
          obtain ⟨rfl, rfl⟩ := HFIN.out a1 e1 hre
          have hcall := HIH.out wz g (q + 1) (d + 1) a' e hrz (by omega) hd65 (by omega) hf
          rw [show ((d + 1 : Nat) : Int) = (d : Int) + 1 by omega] at hcall
          have HCALL := Lib.hid hcall
          have HOZ := Lib.hid hoz
          clear hoz hxt hbz hrz hcall hre hf
          refine Front.take 0 (v := ?_) rfl (by decide) (by kernel_rfl) (by kernel_rfl) (fun _ _ _ h => h) rfl hHeld ?_ ?_
          case refine_2 => intro w' hSw; obtain ⟨q1, q2⟩ := hSw; go_simp <;> with_reducible rfl
          simp only [Act.put, List.setIfInBounds_toArray, List.set_cons_zero, List.set_cons_succ]
          refine Front.take 1 (v := ?_) rfl (by decide) (by kernel_rfl) (by kernel_rfl) (fun _ _ _ h => h) rfl hHeld ?_ ?_
          case refine_2 => intro w' hSw; obtain ⟨q1, q2⟩ := hSw; go_simp <;> with_reducible rfl
          simp only [Act.put, List.setIfInBounds_toArray, List.set_cons_zero, List.set_cons_succ]
          refine Front.take 3 (v := ?_) rfl (by decide) (by kernel_rfl) (by kernel_rfl) (fun _ _ _ h => h) rfl hHeld ?_ ?_
          case refine_2 => intro w' hSw; obtain ⟨q1, q2⟩ := hSw; go_simp <;> with_reducible rfl
          simp only [Act.put, List.setIfInBounds_toArray, List.set_cons_zero, List.set_cons_succ]
          refine Front.take 4 (v := ?_) rfl (by decide) (by kernel_rfl) (by kernel_rfl) (fun _ _ _ h => h) rfl hHeld ?_ ?_
          case refine_2 => intro w' hSw; obtain ⟨q1, q2⟩ := hSw; go_simp <;> with_reducible rfl
          simp only [Act.put, List.setIfInBounds_toArray, List.set_cons_zero, List.set_cons_succ]
          refine Front.one (i := 5) (by kernel_rfl) (by decide) ?_
          refine FrontStep.of rfl (fun K hK => ?_)
          go_simp
          refine HCALL.out.mono ?_
          rintro en w6 ⟨rfl, ho6⟩
          exact ⟨rfl, rfl, ((HOW.out.trans HOZ.out (fun _ _ h => h)).trans ho6 (fun _ _ h => h))⟩
        | ok xr =>
          obtain ⟨x, a2⟩ := xr
          have hlv : loopV (fun q => elemV b k q (d + 1)) b j a2 (acc ++ [x]) = res := by
            have := HLV.out
            unfold loopV at this
            rw [HSP.out] at this
            simp only [if_true] at this
            rw [hf] at this
            exact this
          have HX := Lib.hid hf
          have HLV2 := Lib.hid hlv
          clear hf hlv
          obtain ⟨hcall, ha2, ha3⟩ := HIHO.out wz g (q + 1) (d + 1) x a2 hrz (by omega) hd65 HX.out
          rw [show ((d + 1 : Nat) : Int) = (d : Int) + 1 by omega] at hcall
          have heoz := HEO.out.only (S := fun c => c = g) hoz (fun c hc e => by have := (HEO.out.own.lt c hc).1; omega) (fun c hc e => by have := (HEO.out.apart c hc).1; omega)
          have hzs := hoz.size
          have HOZ := Lib.hid hoz
          have HXT := Lib.hid hxt
          have HBZ := Lib.hid hbz
          have HEZ := Lib.hid heoz
          clear hoz hxt hbz heoz hrz
          obtain ⟨p, c, body⟩ := x
          have hcall' : Calls Tryd.prog 51 #[.pointer (some ⟨g, 0, none⟩), .int .i64 ((d : Int) + 1)] wz fun en w' => ∃ v, en = .returned (.agg #[.int .i64 p, .bool c, v]) ∧ Els (fun c => wz.heap.size ≤ c ∧ Typed w' c 81) w' v body ∧ Rdr w' g b a2 ∧ Only (fun c => c = g) wz w' ∧ InI64 p :=
            hcall.mono (fun en w' ⟨v, h1, h2, h3, h4, h5⟩ => ⟨v, h1, h2, h3, h4, h5⟩)
          have HCALL := Lib.hid hcall'
          clear hcall hcall'
          refine Front.take 0 (v := ?_) rfl (by decide) (by kernel_rfl) (by kernel_rfl) (fun _ _ _ h => h) rfl hHeld ?_ ?_
          case refine_2 => intro w' hSw; obtain ⟨q1, q2⟩ := hSw; go_simp <;> with_reducible rfl
          simp only [Act.put, List.setIfInBounds_toArray, List.set_cons_zero, List.set_cons_succ]
          refine Front.take 1 (v := ?_) rfl (by decide) (by kernel_rfl) (by kernel_rfl) (fun _ _ _ h => h) rfl hHeld ?_ ?_
          case refine_2 => intro w' hSw; obtain ⟨q1, q2⟩ := hSw; go_simp <;> with_reducible rfl
          simp only [Act.put, List.setIfInBounds_toArray, List.set_cons_zero, List.set_cons_succ]
          refine Front.take 3 (v := ?_) rfl (by decide) (by kernel_rfl) (by kernel_rfl) (fun _ _ _ h => h) rfl hHeld ?_ ?_
          case refine_2 => intro w' hSw; obtain ⟨q1, q2⟩ := hSw; go_simp <;> with_reducible rfl
          simp only [Act.put, List.setIfInBounds_toArray, List.set_cons_zero, List.set_cons_succ]
          refine Front.take 4 (v := ?_) rfl (by decide) (by kernel_rfl) (by kernel_rfl) (fun _ _ _ h => h) rfl hHeld ?_ ?_
          case refine_2 => intro w' hSw; obtain ⟨q1, q2⟩ := hSw; go_simp <;> with_reducible rfl
          simp only [Act.put, List.setIfInBounds_toArray, List.set_cons_zero, List.set_cons_succ]
          refine Front.one (i := 5) (by kernel_rfl) (by decide) ?_
          refine FrontStep.of rfl (fun K hK => ?_)
          go_simp
          refine HCALL.out.mono ?_
          rintro en w6 ⟨v6, rfl, hels6, hrd6, ho6, hi6⟩
          obtain ⟨A6, c6, rfl, -⟩ := hels6.shape
          have hx6 := HXT.out.only ho6 (by omega)
          have hb6 := HBZ.out.only ho6 (by omega)
          have he6 := HEZ.out.only (S := fun c => c = g) ho6 (fun c hc e => by have := (HEO.out.own.lt c hc).1; omega) (fun c hc e => by have := (HEO.out.apart c hc).1; omega)
          refine hK _ w6 ⟨hx6.cellAt (i := 2) rfl, trivial⟩ ?_
          clear K hK hHeld HCALL
          refine Front.one (i := 6) (by kernel_rfl) (by decide) ?_
          refine FrontStep.of rfl (fun K hK => ?_)
          go_simp
          have hx7 := hx6.alloc (.cells #[.int .i64 p, .bool c, .slice A6 body.length c6] 81)
          have he7 := he6.alloc (.cells #[.int .i64 p, .bool c, .slice A6 body.length c6] 81)
          have hnb := Blk.newAt w6 81 #[.int .i64 p, .bool c, .slice A6 body.length c6] rfl
          refine hK _ _ ⟨hx7.cellAt (i := 2) rfl, trivial⟩ ?_
          clear K hK
          refine Front.one (i := 7) (by kernel_rfl) (by decide) ?_
          refine FrontStep.of rfl (fun K hK => ?_)
          obtain ⟨il, hil, hl0, hl1, hl2⟩ := info_parts info_el
          have hw6 : w2.heap.size + 1 ≤ w6.heap.size := by have := hxb'; have := ho6.size; omega
          have hz6 : (w6.alloc (.cells #[.int .i64 p, .bool c, .slice A6 body.length c6] 81)).heap.size = w6.heap.size + 1 := by simp
          refine step_append_lies _ rfl (.tmp 40) (.tmp 45) 27 rfl (w2.heap.size + 1) 81 il (.agg #[.int .i64 0, .bool false, .slice none 0 0]) 3 40 Tryd.underlying27 hil hl0 hl1 hl2 rfl (by decide) (.slice Al acc.length cl) acc.length (elCells acc us) rfl he7.own ⟨w6.heap.size, 0, none⟩ 1 1 [.int .i64 p, .bool c, .slice A6 body.length c6] rfl rfl (fun j u' hj => by rw [add_none]; exact hnb.cellAt hj) (fun u' hu => by simp at hu; rcases hu with rfl | rfl | rfl <;> rfl) (by decide) (by unfold maxLen; omega) (by omega) (by rw [hz6]; omega) _ rfl ?_
          intro g7 c7 w7 hown7 hgr7 hat7 _
          have hrow : ∀ r, (Value.slice Al acc.length cl).ownBlock = some r → w2.heap.size + 1 ≤ r := fun r hr => (he7.own.lt r hr).1
          have hx8 := hx7.same (hgr7.block _ (by rw [hz6]; omega) (fun e => by have := hrow _ e.symm; omega))
          have hHeld := And.intro (hx8.cellAt (i := 2) rfl) trivial
          refine hK _ w7 hHeld ?_
          clear K hK
          refine Front.take 8 (v := ?_) rfl (by decide) (by kernel_rfl) (by kernel_rfl) (fun _ _ _ h => h) rfl hHeld ?_ ?_
          case refine_2 => intro w' hSw; obtain ⟨q1, q2⟩ := hSw; go_simp <;> with_reducible rfl
          simp only [Act.put, List.setIfInBounds_toArray, List.set_cons_zero, List.set_cons_succ]
          clear hHeld
          refine Front.done (by kernel_rfl) ?_
          simp only [List.drop_succ_cons, List.drop_zero]
          have hels7 := (hels6.only ((Only.refl (fun _ => False) w6).alloc (.cells #[.int .i64 p, .bool c, .slice A6 body.length c6] 81)) (fun b hb => ⟨hb.2.lt, fun f => f⟩)).mono (Q := fun b => wz.heap.size ≤ b ∧ Typed (w6.alloc (.cells #[.int .i64 p, .bool c, .slice A6 body.length c6] 81)) b 81) (fun b hb => ⟨hb.1, hb.2.only ((Only.refl (fun _ => False) w6).alloc _) (fun f => f)⟩)
          have hput := he7.put (Q := fun b => wz.heap.size ≤ b ∧ Typed (w6.alloc (.cells #[.int .i64 p, .bool c, .slice A6 body.length c6] 81)) b 81) (u := .slice A6 body.length c6) (x := El.mk p c body) (pre := acc) (post := []) (ups := us) (uqs := []) (v' := .slice (some ⟨g7, 0, none⟩) (acc.length + 1) c7) (by simp) (by simp) he7.len hels7
            (fun b hb => ⟨by have := hb.1; omega, hb.2, fun h => by have := (HEZ.out.own.lt b h).2; have := hb.1; omega⟩) hi6 hgr7 (by rw [elCells_append _ _ _ _ he7.len]; simpa [elCells, El.p, El.c] using hown7) (by
              rcases hat7 with h | h
              · exact .inl (by rw [h]; rfl)
              · exact .inr ⟨g7, rfl, by rw [h]; exact Nat.le_refl _⟩)
          have hrd7 : Rdr w7 g b a2 := Blk.same (Blk.alloc hrd6 _) (hgr7.block _ (by rw [hz6]; have := Blk.lt hrd6; omega) (fun e => by have := hrow _ e.symm; omega))
          have hb7 := (hb6.alloc (.cells #[.int .i64 p, .bool c, .slice A6 body.length c6] 81)).same (hgr7.block _ (by rw [hz6]; have := hb6.lt; omega) (fun e => by have := hrow _ e.symm; omega))
          have c7c := hx8.cellAt (i := 2) rfl
          have f7c := hx8.frozen 2
          have ho8 : Only (fun c => c = g) w w7 := by
            have h1 := ((HOW.out.trans HOZ.out (fun _ _ h => h)).trans ho6 (fun _ _ h => h)).alloc (.cells #[.int .i64 p, .bool c, .slice A6 body.length c6] 81)
            exact h1.trans (Only.of_grown (S := fun b => (Value.slice Al acc.length cl).ownBlock = some b) hgr7 (fun b e => e)) (fun b hb hs => by have := hrow b hs; omega)
          have HPUT := Lib.hid hput
          have HX8 := Lib.hid hx8
          have HB7 := Lib.hid hb7
          have HR7 := Lib.hid hrd7
          have HO8 := Lib.hid ho8
          clear hels7 hput hx8 hb7 hrd7 ho8 hown7 hgr7 hat7 hnb he7 hx7 hx6 he6 hels6 hrd6 ho6 hb6 hz6
          go_wp2
          go_roundw
          case rel =>
            have hput' := HPUT.out.only (S := fun c => c = w2.heap.size) ((Only.refl (fun c => c = w2.heap.size) w7).set (p := ⟨w2.heap.size, 2, none⟩) (fun _ => rfl) (.slice (some ⟨g7, 0, none⟩) (acc.length + 1) c7)) (fun c hc e => by have := (HPUT.out.own.lt c hc).1; omega) (fun c hc e => by have := (HPUT.out.apart c hc).1; omega)
            refine ⟨j, a2, acc ++ [El.mk p c body], _, _, _, HR7.out.far' (by omega), ha3, HLV2, by omega, by simpa using HX8.out.set 2 (.slice (some ⟨g7, 0, none⟩) (acc.length + 1) c7), HB7.out.far (p := ⟨w2.heap.size, 2, none⟩) (by show w.heap.size ≠ w2.heap.size; omega) _, hput', by simp; omega, HO8.out.set (p := ⟨w2.heap.size, 2, none⟩) (fun h => by simp at h; omega) _⟩
          case measure =>
            refine Nat.lt_of_le_of_lt ?_ (Nat.lt_of_lt_of_le (show b.size + 1 - a2 < b.size + 1 - q by omega) ?_)
            · rw [msr_of (HR7.out.far' (c := w2.heap.size) (i := 2) (u := .slice (some ⟨g7, 0, none⟩) (acc.length + 1) c7) (by omega))]; exact Nat.le_refl _
            · rw [msr_of HRD.out]; exact Nat.le_refl _
      | false =>
        rw [hsp] at his
        have hre : res = .ok (acc, q) := by
          have := HLV.out
          unfold loopV at this
          rw [hsp] at this
          simpa using this.symm
        obtain ⟨h41, rfl, rfl⟩ := HFIN2.out acc q hre
        have hneed := fun t => need_bad' (wr.drewN t) g b a' 41 (hrd.drewN t) h41
        have HIS := Lib.hid his
        have HND := Lib.hid hneed
        have HOW := Lib.hid how
        clear his hneed hxb hrb heo how hsp hrd h41 hre
        go_wp2_with (first | (go_at_call 65; refine HIS.out.mono ?_; rintro en w5 ⟨rfl, t, rfl⟩) | (go_at_call 50; refine (HND.out t).mono ?_; rintro en w6 ⟨rfl, ho6⟩))
        exact ⟨rfl, rfl, (HOW.out.drewN t).trans ho6 (fun _ _ h => h)⟩

theorem element_bad {b : ByteArray} (hb : b.size ≤ 100000000) : ∀ k, ElemFault b k
  | 0 => fun w g a d a' e _ _ _ _ _ => by omega
  | k + 1 => element_fault hb k (element_bad hb k)
end Go.Proofs.YthaampinmelgaaaDoor

/-! Package wto: Parse where a fault is caught. -/
namespace Go.Proofs.YthaampinmelgaaaDoor
open Go.RowKit Go.Shelf

set_option maxRecDepth 100000 in
set_option maxHeartbeats 4000000 in
theorem parse_caught (p0 p1 p2 : Nat) (a e x1 x2 : Int) (A0 : Option Addr) (m0 k0 : Nat) (older : List PanicEntry) (w : World) (hp01 : p0 ≠ p1) (hp02 : p0 ≠ p2) (hp12 : p1 ≠ p2) (h0 : Blk w p0 27 [.slice A0 m0 k0]) (h1 : Blk w p1 3 [.int .i64 x1]) (h2 : Blk w p2 28 [.int .i64 x2]) :
    CallsD Tryd.prog 49 #[.pointer (some ⟨p0, 0, none⟩), .pointer (some ⟨p1, 0, none⟩), .pointer (some ⟨p2, 0, none⟩)] (.panicking ({ v := .iface 101 (.agg #[.int .i64 a, .int .i64 e]), recovered := false } :: older)) w fun en u' w' =>
      en = .returned (.tuple #[]) ∧ u' = .panicking ({ v := .iface 101 (.agg #[.int .i64 a, .int .i64 e]), recovered := true } :: older) ∧ Blk w' p0 27 [.slice none 0 0] ∧ Blk w' p1 3 [.int .i64 a] ∧ Blk w' p2 28 [.int .i64 e] ∧ Only (fun b => b = p0 ∨ b = p1 ∨ b = p2) w w' := by
  refine callsD_of_wpS Tryd.func49 rfl fun c₀ cs hu => ?_
  apply wpS_seq
  apply wpS_region
  simp [wpOpsS, go_sem, recoverD, hu, Tryd.ntmps49, Exit.thenS]
  apply wpS_seq
  apply wpS_region
  simp [wpOpsS, go_sem, Exit.thenS]
  refine wpS_cond (t := true) (by simp [Act.eval, Array.replicate]) ?_
  simp only [if_true]
  refine wpS_of_wp ?_
  have c0 := h0.cellAt (i := 0) rfl
  have c1 := h1.cellAt (i := 0) rfl
  have c2 := h2.cellAt (i := 0) rfl
  have f0 := h0.frozen 0
  have f1 := h1.frozen 0
  have f2 := h2.frozen 0
  simp only [Array.replicate_succ, Array.replicate_zero, List.push_toArray, List.nil_append, List.cons_append, List.append_toArray, List.setIfInBounds_toArray, List.set_cons_zero, List.set_cons_succ]
  have hbx := Blk.newAt w 101 #[.int .i64 a, .int .i64 e] rfl
  have l0 := h0.lt
  have l1 := h1.lt
  have l2 := h2.lt
  have z0 := (h0.alloc (.cells #[.int .i64 a, .int .i64 e] 101)).drew
  have z1 := (h1.alloc (.cells #[.int .i64 a, .int .i64 e] 101)).drew
  have z2 := (h2.alloc (.cells #[.int .i64 a, .int .i64 e] 101)).drew
  have zx := hbx.drew
  have zo : Only (fun b => b = p0 ∨ b = p1 ∨ b = p2) w (w.alloc (.cells #[.int .i64 a, .int .i64 e] 101)).drew := ((Only.refl _ w).alloc _).drew
  have hta : ∀ w : World, (Instr.typeAssert (.iface 101 (.agg #[.int .i64 a, .int .i64 e])) 20 101 false).run Tryd.prog w = .ok (.agg #[.int .i64 a, .int .i64 e]) w := fun w => by kernel_rfl
  go_upto_region 3 with fail
  clear c0 c1 c2 f0 f1 f2 h0 h1 h2 hbx
  have hHeld := And.intro (zx.cellAt (i := 0) rfl) (zx.cellAt (i := 1) rfl)
  refine wp_region_front (S := fun w' => w'.cell? ⟨w.heap.size, 0, none⟩ = some (.int .i64 a) ∧ w'.cell? ⟨w.heap.size, 1, none⟩ = some (.int .i64 e)) 0 6 (by kernel_rfl) (by kernel_rfl) (by decide) rfl (by kernel_rfl) (by kernel_rfl) (fun _ _ _ h => h) (.inl ⟨by rfl, fun w' => by rfl⟩) ?_
  simp only [Act.put, List.setIfInBounds_toArray, List.set_cons_zero, List.set_cons_succ]
  revert z0 z1 z2 zx zo hHeld
  generalize (w.alloc (.cells #[.int .i64 a, .int .i64 e] 101)).drew = wz
  intro z0 z1 z2 zx zo hHeld
  generalize hg : w.heap.size = g at *
  have n0 : g ≠ p0 := by omega
  have n1 : g ≠ p1 := by omega
  have Z0 := Lib.hid z0
  have Z1 := Lib.hid z1
  have Z2 := Lib.hid z2
  have ZX := Lib.hid zx
  have ZO := Lib.hid zo
  have c0 := z0.cellAt (i := 0) rfl
  have f0 := z0.frozen 0
  clear z0 z1 z2 zx zo
  refine Front.take 1 (v := ?_) rfl (by decide) (by kernel_rfl) (by kernel_rfl) (fun _ _ _ h => h) rfl hHeld ?_ ?_
  case refine_2 => intro w' hSw; obtain ⟨q0, q1⟩ := hSw; go_simp <;> with_reducible rfl
  simp only [Act.put, List.setIfInBounds_toArray, List.set_cons_zero, List.set_cons_succ]
  refine Front.take 2 (v := ?_) rfl (by decide) (by kernel_rfl) (by kernel_rfl) (fun _ _ _ h => h) rfl hHeld ?_ ?_
  case refine_2 => intro w' hSw; obtain ⟨q0, q1⟩ := hSw; go_simp <;> with_reducible rfl
  simp only [Act.put, List.setIfInBounds_toArray, List.set_cons_zero, List.set_cons_succ]
  refine Front.take 3 (v := ?_) rfl (by decide) (by kernel_rfl) (by kernel_rfl) (fun _ _ _ h => h) rfl hHeld ?_ ?_
  case refine_2 => intro w' hSw; obtain ⟨q0, q1⟩ := hSw; go_simp <;> with_reducible rfl
  simp only [Act.put, List.setIfInBounds_toArray, List.set_cons_zero, List.set_cons_succ]
  refine Front.one (i := 4) (by kernel_rfl) (by decide) ?_
  refine FrontStep.of rfl (fun K hK => ?_)
  go_simp
  have y0 : Blk (wz.setCell ⟨p0, 0, none⟩ (.slice none 0 0)) p0 27 [.slice none 0 0] := by simpa using Z0.out.set 0 (.slice none 0 0)
  have y1 := Z1.out.far (p := ⟨p0, 0, none⟩) (fun h => hp01 h.symm) (.slice none 0 0)
  have y2 := Z2.out.far (p := ⟨p0, 0, none⟩) (fun h => hp02 h.symm) (.slice none 0 0)
  have yx := ZX.out.far (p := ⟨p0, 0, none⟩) n0 (.slice none 0 0)
  have yo := ZO.out.set (p := ⟨p0, 0, none⟩) (fun _ => .inl rfl) (.slice none 0 0)
  refine hK _ _ ⟨yx.cellAt (i := 0) rfl, yx.cellAt (i := 1) rfl⟩ ?_
  clear K hK c0 f0 hHeld
  revert y0 y1 y2 yx yo
  generalize wz.setCell ⟨p0, 0, none⟩ (.slice none 0 0) = w4
  intro y0 y1 y2 yx yo
  have Y0 := Lib.hid y0
  have Y1 := Lib.hid y1
  have Y2 := Lib.hid y2
  have YX := Lib.hid yx
  have YO := Lib.hid yo
  have c1 := y1.cellAt (i := 0) rfl
  have f1 := y1.frozen 0
  clear y0 y1 y2 yx yo
  refine Front.one (i := 5) (by kernel_rfl) (by decide) ?_
  refine FrontStep.of rfl (fun K hK => ?_)
  go_simp
  have v0 := Y0.out.far (p := ⟨p1, 0, none⟩) (fun h => hp01 h) (.int .i64 a)
  have v1 : Blk (w4.setCell ⟨p1, 0, none⟩ (.int .i64 a)) p1 3 [.int .i64 a] := by simpa using Y1.out.set 0 (.int .i64 a)
  have v2 := Y2.out.far (p := ⟨p1, 0, none⟩) (fun h => hp12 h.symm) (.int .i64 a)
  have vx := YX.out.far (p := ⟨p1, 0, none⟩) n1 (.int .i64 a)
  have vo := YO.out.set (p := ⟨p1, 0, none⟩) (fun _ => .inr (.inl rfl)) (.int .i64 a)
  refine hK _ _ ⟨vx.cellAt (i := 0) rfl, vx.cellAt (i := 1) rfl⟩ ?_
  clear K hK c1 f1
  revert v0 v1 v2 vo
  clear vx
  generalize w4.setCell ⟨p1, 0, none⟩ (.int .i64 a) = w5
  intro v0 v1 v2 vo
  have V0 := Lib.hid v0
  have V1 := Lib.hid v1
  have V2 := Lib.hid v2
  have VO := Lib.hid vo
  have c2 := v2.cellAt (i := 0) rfl
  have f2 := v2.frozen 0
  clear v0 v1 v2 vo
  refine Front.done (by kernel_rfl) ?_
  simp only [List.drop_succ_cons, List.drop_zero]
  go_wp2
  have u0 := V0.out.far (p := ⟨p2, 0, none⟩) (fun h => hp02 h) (.int .i64 e)
  have u1 := V1.out.far (p := ⟨p2, 0, none⟩) (fun h => hp12 h) (.int .i64 e)
  have u2 : Blk (w5.setCell ⟨p2, 0, none⟩ (.int .i64 e)) p2 28 [.int .i64 e] := by simpa using V2.out.set 0 (.int .i64 e)
  have uo := VO.out.set (p := ⟨p2, 0, none⟩) (fun _ => .inr (.inr rfl)) (.int .i64 e)
  cases c₀
  simp_all [bodyPostS, results, Tryd.results49]
end Go.Proofs.YthaampinmelgaaaDoor

/- The reference's order: inside. -/
import Derived.Test.YthaampinmelgaaaDoorREnterS
import Derived.Test.YthaampinmelgaaaDoorFront2
import Derived.BigQuiet
namespace Go.Proofs.YthaampinmelgaaaDoor
open Go.RowKit Go.Shelf

theorem Blk.cast {w : World} {g : Nat} {t : TypeId} {cs cs' : List Value} (h : Blk w g t cs) (e : cs = cs') : Blk w g t cs' := e ▸ h
theorem range_at {n m : Nat} (h : m < n) : (List.range n)[m]'(by simpa using h) = m := List.getElem_range _

set_option maxRecDepth 100000 in
set_option maxHeartbeats 8000000 in
theorem inside_any (e : REnv) (hok : e.Ok) (k : Nat) (ih : EnterAt e k) (w : World) (s : RSt) (skv lkv : Value) (v : Nat) (t : RSt) (hs : RS e w s skv lkv) (h : foldO (insR (enterR e.E k) e.E v) (List.range e.E.length) s = some t) :
    Calls Tryd.prog 75 #[e.val s.next skv lkv, .int .i64 (v : Int)] w fun en w' => ∃ skv' lkv', en = .returned (e.val t.next skv' lkv') ∧ RS e w' t skv' lkv' ∧ Only (fun b => b = e.na) w w' := by
  have hna := hs.a.lt
  have hlE := hok.lE
  obtain ⟨w2, hw2⟩ : ∃ w2, w2 = (w.alloc (.cells #[.int .i64 (e.n : Int), .int .i64 e.exit, .slice e.A e.E.length e.c, .slice (some ⟨e.na, 0, none⟩) e.n e.n, .int .i64 (s.next : Int), skv, lkv] 124)).alloc (.cells #[.int .i64 0, .int .i64 0, .slice none 0 0, .slice none 0 0, .int .i64 0, .slice none 0 0, .slice none 0 0] 124) := ⟨_, rfl⟩
  have hs2 : RS e w2 s skv lkv := by rw [hw2]; exact (hs.alloc _).alloc _
  have hb2 : Blk w2 w.heap.size 124 (e.cells s.next skv lkv) := by rw [hw2]; exact (Blk.newAt w 124 #[.int .i64 (e.n : Int), .int .i64 e.exit, .slice e.A e.E.length e.c, .slice (some ⟨e.na, 0, none⟩) e.n e.n, .int .i64 (s.next : Int), skv, lkv] rfl).alloc _
  have hr2 : Blk w2 (w.heap.size + 1) 124 [.int .i64 0, .int .i64 0, .slice none 0 0, .slice none 0 0, .int .i64 0, .slice none 0 0, .slice none 0 0] := by rw [hw2]; exact Blk.newAt _ 124 #[.int .i64 0, .int .i64 0, .slice none 0 0, .slice none 0 0, .int .i64 0, .slice none 0 0, .slice none 0 0] (by simp)
  have ho2 : Only (fun b => b = e.na) w w2 := by rw [hw2]; exact ((Only.refl _ w).alloc _).alloc _
  have HS2 := Lib.hid hs2
  have HB2 := Lib.hid hb2
  have HR2 := Lib.hid hr2
  have HO2 := Lib.hid ho2
  have HF := Lib.hid h
  have HOK := Lib.hid hok
  have HIH := Lib.hid ih
  clear hs hs2 hb2 hr2 ho2 h hok ih
  unfold REnv.val
  go_enter Tryd.func75, Tryd.ntmps75
  go_upto_region 1 with fail
  rw [← hw2]
  clear hw2
  go_wp2
  go_loopw [5] (fun y wr => ∃ (m : Nat) (st : RSt) (skm lkm : Value), m ≤ e.E.length ∧ y = .int .i64 m ∧ foldO (insR (enterR e.E k) e.E v) ((List.range e.E.length).take m) s = some st ∧ RS e wr st skm lkm ∧
    Blk wr w.heap.size 124 (e.cells st.next skm lkm) ∧ Blk wr (w.heap.size + 1) 124 [.int .i64 0, .int .i64 0, .slice none 0 0, .slice none 0 0, .int .i64 0, .slice none 0 0, .slice none 0 0] ∧ Only (fun b => b = e.na) w wr) (fun y _ => e.E.length - (intOf y).toNat)
  case atStart => exact ⟨0, s, skv, lkv, Nat.zero_le _, rfl, rfl, HS2.out, HB2.out, HR2.out, HO2.out⟩
  case round =>
    obtain ⟨m, st, skm, lkm, hm, rfl, hf, hs, hb, hr, ho⟩ := hrel
    unfold REnv.cells at hb
    have q0 := hb.cellAt (i := 0) rfl
    have q1 := hb.cellAt (i := 1) rfl
    have q2 := hb.cellAt (i := 2) rfl
    have q3 := hb.cellAt (i := 3) rfl
    have q4 := hb.cellAt (i := 4) rfl
    have q5 := hb.cellAt (i := 5) rfl
    have q6 := hb.cellAt (i := 6) rfl
    have hsz := ho.size
    by_cases hlt : m < e.E.length
    · have hlt1 : (m : Int) < (e.E.length : Int) := by omega
      obtain ⟨st', hstep, hnext⟩ := foldO_at _ _ m (by simpa using hlt) _ _ _ HF.out hf
      rw [range_at hlt] at hstep
      obtain ⟨ade, hA, hbe, hsr, htg, htn⟩ := hs.edge HOK.out hlt
      have hnum := hs.num htn
      rw [hA] at q2
      have hlt2 : decide ((e.E.length : Int) ≤ (m : Int)) = false := by rw [decide_eq_false_iff_not]; omega
      have hlt3 : decide (e.E.length ≤ m) = false := by rw [decide_eq_false_iff_not]; omega
      have htn1 : (tgt e.E m : Int) < (e.n : Int) := by omega
      unfold insR at hstep
      have HNX := Lib.hid hnext
      have HB := Lib.hid hb
      have HR := Lib.hid hr
      have HO := Lib.hid ho
      have HA := Lib.hid hA
      clear hnext hf hb hr ho hA
      by_cases hsv : src e.E m = v
      · by_cases hz : getI st.nums (tgt e.E m) = 0
        · rw [if_pos ⟨hsv, hz⟩] at hstep
          rw [hz] at hnum
          rw [hsv] at hsr
          have hg1 : ((v : Int) == (v : Int)) = true := by simp
          have hg2 : decide ((v : Int) = (v : Int)) = true := by simp
          have HST := Lib.hid hstep
          have HS := Lib.hid hs
          clear hstep hs hz hsv
          go_upto_region 4 with fail
          go_quiet (fail)
          go_wp2
          obtain ⟨r, hr1, hr2⟩ := Option.map_eq_some_iff.1 HST.out
          obtain ⟨r1, rh⟩ := r
          obtain rfl : r1 = st' := hr2
          have hHeld : (wr.drewN nq).drew.cell? ⟨w.heap.size, 0, none⟩ = some (.int .i64 (e.n : Int)) ∧ (wr.drewN nq).drew.cell? ⟨w.heap.size, 1, none⟩ = some (.int .i64 e.exit) ∧ (wr.drewN nq).drew.cell? ⟨w.heap.size, 2, none⟩ = some (.slice (some ade) e.E.length e.c) ∧ (wr.drewN nq).drew.cell? ⟨w.heap.size, 3, none⟩ = some (.slice (some ⟨e.na, 0, none⟩) e.n e.n) ∧ (wr.drewN nq).drew.cell? ⟨w.heap.size, 4, none⟩ = some (.int .i64 (st.next : Int)) ∧ (wr.drewN nq).drew.cell? ⟨w.heap.size, 5, none⟩ = some skm ∧ (wr.drewN nq).drew.cell? ⟨w.heap.size, 6, none⟩ = some lkm ∧ (wr.drewN nq).drew.cell? ⟨(ade.add (m * 21)).block, (ade.add (m * 21)).off + 1, none⟩ = some (.int .i64 (tgt e.E m : Int)) := ⟨q0, q1, q2, q3, q4, q5, q6, htg⟩
          have hsd := HS.out.still (((Only.refl (fun _ => False) wr).drewN nq).drew)
          have hbd : Blk (wr.drewN nq).drew w.heap.size 124 _ := HB.out
          have hrd : Blk (wr.drewN nq).drew (w.heap.size + 1) 124 _ := HR.out
          have hod := (HO.out.drewN nq).drew
          have HSD := Lib.hid hsd
          have HBD := Lib.hid hbd
          have HRD := Lib.hid hrd
          have HOD := Lib.hid hod
          have HR1 := Lib.hid hr1
          clear q0 q1 q2 q3 q4 q5 q6 htg hsr hnum hsd hbd hrd hod hr1 HST HS HB HR HO
          refine F2.wp_region_front (S := (fun w' => w'.cell? ⟨w.heap.size, 0, none⟩ = some (.int .i64 (e.n : Int)) ∧ w'.cell? ⟨w.heap.size, 1, none⟩ = some (.int .i64 e.exit) ∧ w'.cell? ⟨w.heap.size, 2, none⟩ = some (.slice (some ade) e.E.length e.c) ∧ w'.cell? ⟨w.heap.size, 3, none⟩ = some (.slice (some ⟨e.na, 0, none⟩) e.n e.n) ∧ w'.cell? ⟨w.heap.size, 4, none⟩ = some (.int .i64 (st.next : Int)) ∧ w'.cell? ⟨w.heap.size, 5, none⟩ = some skm ∧ w'.cell? ⟨w.heap.size, 6, none⟩ = some lkm ∧ w'.cell? ⟨(ade.add (m * 21)).block, (ade.add (m * 21)).off + 1, none⟩ = some (.int .i64 (tgt e.E m : Int)))) 4 10 (by kernel_rfl) (by kernel_rfl) (by decide) rfl (by kernel_rfl) (by kernel_rfl) (fun _ _ _ h => h) (.inl ⟨by rfl, fun w' => by rfl⟩) ?_
          simp only [Act.put, List.setIfInBounds_toArray, List.set_cons_zero, List.set_cons_succ]
          revert hHeld HSD HBD HRD HOD
          generalize (wr.drewN nq).drew = wz
          intro hHeld HSD HBD HRD HOD
          refine F2.Front.take 0 (v := ?_) rfl (by decide) (by kernel_rfl) (by kernel_rfl) (fun _ _ _ h => h) rfl hHeld ?_ ?_
          case refine_2 => intro w' hSw; obtain ⟨k0, k1, k2, k3, k4, k5, k6, k7⟩ := hSw; go_simp <;> with_reducible rfl
          simp only [Act.put, List.setIfInBounds_toArray, List.set_cons_zero, List.set_cons_succ]
          refine F2.Front.take 1 (v := ?_) rfl (by decide) (by kernel_rfl) (by kernel_rfl) (fun _ _ _ h => h) rfl hHeld ?_ ?_
          case refine_2 => intro w' hSw; obtain ⟨k0, k1, k2, k3, k4, k5, k6, k7⟩ := hSw; go_simp <;> with_reducible rfl
          simp only [Act.put, List.setIfInBounds_toArray, List.set_cons_zero, List.set_cons_succ]
          refine F2.Front.take 2 (v := ?_) rfl (by decide) (by kernel_rfl) (by kernel_rfl) (fun _ _ _ h => h) rfl hHeld ?_ ?_
          case refine_2 => intro w' hSw; obtain ⟨k0, k1, k2, k3, k4, k5, k6, k7⟩ := hSw; go_simp <;> with_reducible rfl
          simp only [Act.put, List.setIfInBounds_toArray, List.set_cons_zero, List.set_cons_succ]
          refine F2.Front.take 3 (v := ?_) rfl (by decide) (by kernel_rfl) (by kernel_rfl) (fun _ _ _ h => h) rfl hHeld ?_ ?_
          case refine_2 => intro w' hSw; obtain ⟨k0, k1, k2, k3, k4, k5, k6, k7⟩ := hSw; go_simp <;> with_reducible rfl
          simp only [Act.put, List.setIfInBounds_toArray, List.set_cons_zero, List.set_cons_succ]
          refine F2.Front.take 5 (v := ?_) rfl (by decide) (by kernel_rfl) (by kernel_rfl) (fun _ _ _ h => h) rfl hHeld ?_ ?_
          case refine_2 => intro w' hSw; obtain ⟨k0, k1, k2, k3, k4, k5, k6, k7⟩ := hSw; go_simp <;> with_reducible rfl
          simp only [Act.put, List.setIfInBounds_toArray, List.set_cons_zero, List.set_cons_succ]
          refine F2.Front.take 6 (v := ?_) rfl (by decide) (by kernel_rfl) (by kernel_rfl) (fun _ _ _ h => h) rfl hHeld ?_ ?_
          case refine_2 => intro w' hSw; obtain ⟨k0, k1, k2, k3, k4, k5, k6, k7⟩ := hSw; go_simp <;> with_reducible rfl
          simp only [Act.put, List.setIfInBounds_toArray, List.set_cons_zero, List.set_cons_succ]
          refine F2.Front.take 7 (v := ?_) rfl (by decide) (by kernel_rfl) (by kernel_rfl) (fun _ _ _ h => h) rfl hHeld ?_ ?_
          case refine_2 => intro w' hSw; obtain ⟨k0, k1, k2, k3, k4, k5, k6, k7⟩ := hSw; go_simp <;> with_reducible rfl
          simp only [Act.put, List.setIfInBounds_toArray, List.set_cons_zero, List.set_cons_succ]
          have hcall := HIH.out wz st skm lkm _ _ HSD.out htn HR1.out
          unfold REnv.val at hcall
          rw [HA.out] at hcall
          have HC := Lib.hid hcall
          clear hcall
          refine F2.Front.one (i := 8) (by kernel_rfl) (by decide) ?_
          refine F2.FrontStep.of rfl (fun K hK => ?_)
          go_simp
          refine HC.out.mono ?_
          rintro en w5 ⟨skx, lkx, rfl, hs5, ho5⟩
          have hb5 := HBD.out.only ho5 (by omega)
          have hr5 := HRD.out.only ho5 (by omega)
          have he5 := World.cell?_of_block (a := ⟨(ade.add (m * 21)).block, (ade.add (m * 21)).off + 1, none⟩) (ho5.block (ade.add (m * 21)).block (by rw [block_add]; have := HSD.out.a.lt; omega) (by rw [block_add]; omega))
          refine hK _ w5 ⟨hb5.cellAt (i := 0) rfl, hb5.cellAt (i := 1) rfl, (hb5.cellAt (i := 2) rfl).trans (by rw [HA.out]), hb5.cellAt (i := 3) rfl, hb5.cellAt (i := 4) rfl, hb5.cellAt (i := 5) rfl, hb5.cellAt (i := 6) rfl, he5.trans hHeld.2.2.2.2.2.2.2⟩ ?_
          have hH5 := he5.trans hHeld.2.2.2.2.2.2.2
          clear K hK he5
          obtain ⟨As, cks, rfl⟩ := own_slice hs5.st
          obtain ⟨Al, ckl, rfl, -⟩ := hs5.ls.shape
          have HS5 := Lib.hid hs5
          have HB5 := Lib.hid hb5
          have HR5 := Lib.hid hr5
          have HO5 := Lib.hid ho5
          have hHeld5 : w5.cell? ⟨w.heap.size, 0, none⟩ = some (.int .i64 (e.n : Int)) ∧ w5.cell? ⟨w.heap.size, 1, none⟩ = some (.int .i64 e.exit) ∧ w5.cell? ⟨w.heap.size, 2, none⟩ = some (.slice (some ade) e.E.length e.c) ∧ w5.cell? ⟨w.heap.size, 3, none⟩ = some (.slice (some ⟨e.na, 0, none⟩) e.n e.n) ∧ w5.cell? ⟨w.heap.size, 4, none⟩ = some (.int .i64 (st.next : Int)) ∧ w5.cell? ⟨w.heap.size, 5, none⟩ = some skm ∧ w5.cell? ⟨w.heap.size, 6, none⟩ = some lkm ∧ w5.cell? ⟨(ade.add (m * 21)).block, (ade.add (m * 21)).off + 1, none⟩ = some (.int .i64 (tgt e.E m : Int)) :=
            ⟨hb5.cellAt (i := 0) rfl, hb5.cellAt (i := 1) rfl, (hb5.cellAt (i := 2) rfl).trans (by rw [HA.out]), hb5.cellAt (i := 3) rfl, hb5.cellAt (i := 4) rfl, hb5.cellAt (i := 5) rfl, hb5.cellAt (i := 6) rfl, hH5⟩
          clear hs5 hb5 hr5 ho5 hHeld HSD HBD HRD hH5 HC
          refine F2.Front.take 9 (v := ?_) rfl (by decide) (by kernel_rfl) (by kernel_rfl) (fun _ _ _ h => h) rfl hHeld5 ?_ ?_
          case refine_2 => intro w' hSw; obtain ⟨k0, k1, k2, k3, k4, k5, k6, k7⟩ := hSw; go_simp <;> with_reducible rfl
          simp only [Act.put, List.setIfInBounds_toArray, List.set_cons_zero, List.set_cons_succ]
          refine F2.Front.done (by kernel_rfl) ?_
          refine wpAny_take (i := 11) (v := .int .i64 rh) rfl (by kernel_rfl) (by kernel_rfl) (by kernel_rfl) (fun _ _ _ h => h) (.inl ⟨by rfl, fun w' => by rfl⟩) ?_
          refine wpAny_take (i := 10) (v := .agg #[.int .i64 (e.n : Int), .int .i64 e.exit, .slice (some ade) e.E.length e.c, .slice (some ⟨e.na, 0, none⟩) e.n e.n, .int .i64 (r1.next : Int), .slice As r1.stack.length cks, .slice Al r1.list.length ckl]) rfl (by kernel_rfl) (by kernel_rfl) (by kernel_rfl) (fun _ _ _ h => h) (.inl ⟨by rfl, fun w' => by rfl⟩) ?_
          obtain ⟨k0, k1, k2, k3, k4, k5, k6, -⟩ := hHeld5
          have kf := fun i => HB5.out.frozen i
          refine F2.any_one (i := 12) (by kernel_rfl) rfl ?_
          intro K hK
          go_simp
          refine hK _ _ ⟨by kernel_rfl, ?_⟩
          clear K hK
          have hb6 := ((((((HB5.out.set 0 (.int .i64 (e.n : Int))).set 1 (.int .i64 e.exit)).set 2 (.slice (some ade) e.E.length e.c)).set 3 (.slice (some ⟨e.na, 0, none⟩) e.n e.n)).set 4 (.int .i64 (r1.next : Int))).set 5 (.slice As r1.stack.length cks)).set 6 (.slice Al r1.list.length ckl)
          have ho6 : Only (fun b => b = w.heap.size) w5 _ := (((((((Only.refl (fun b => b = w.heap.size) w5).set (p := ⟨w.heap.size, 0, none⟩) (fun _ => rfl) (.int .i64 (e.n : Int))).set (p := ⟨w.heap.size, 1, none⟩) (fun _ => rfl) (.int .i64 e.exit)).set (p := ⟨w.heap.size, 2, none⟩) (fun _ => rfl) (.slice (some ade) e.E.length e.c)).set (p := ⟨w.heap.size, 3, none⟩) (fun _ => rfl) (.slice (some ⟨e.na, 0, none⟩) e.n e.n)).set (p := ⟨w.heap.size, 4, none⟩) (fun _ => rfl) (.int .i64 (r1.next : Int))).set (p := ⟨w.heap.size, 5, none⟩) (fun _ => rfl) (.slice As r1.stack.length cks)).set (p := ⟨w.heap.size, 6, none⟩) (fun _ => rfl) (.slice Al r1.list.length ckl)
          have hsz5 := HO5.out.size
          have hodz := HOD.out.size
          have hs6 := HS5.out.only ho6 (fun b hb h => by omega) (fun b hb ht h => by
            subst h
            rcases ht with ht | ht
            · exact (Typed.blk HB5.out).ne ht (by decide) rfl
            · exact (Typed.blk HB5.out).ne ht (by decide) rfl)
          have hr6 := HR5.out.only ho6 (by omega)
          have ho7 := (HOD.out.trans HO5.out (fun _ _ h => h)).trans ho6 (fun b hb h => by omega)
          have hb7 := hb6.cast (cs' := e.cells r1.next (.slice As r1.stack.length cks) (.slice Al r1.list.length ckl)) (by unfold REnv.cells; rw [HA.out]; rfl)
          have HS6 := Lib.hid hs6
          have HR6 := Lib.hid hr6
          have HO7 := Lib.hid ho7
          have HB7 := Lib.hid hb7
          clear hs6 hr6 ho7 hb7 hb6 ho6 kf k0 k1 k2 k3 k4 k5 k6 hsz5 hodz
          go_wp2
          go_roundw
          case rel => exact ⟨m + 1, r1, _, _, by omega, by go_num, HNX.out, HS6.out, HB7.out, HR6.out, HO7.out⟩
          case measure => simp [intOf]; omega
        · rw [if_neg (fun h => hz h.2)] at hstep
          obtain rfl := Option.some.inj hstep
          rw [hsv] at hsr
          revert hnum hz
          generalize getI st.nums (tgt e.E m) = x
          intro hnum hz
          have hg1 : ((v : Int) == (v : Int)) = true := by simp
          have hg2 : decide ((v : Int) = (v : Int)) = true := by simp
          have hz1 : (x == 0) = false := by rw [beq_eq_false_iff_ne]; exact hz
          have hz2 : decide (x = 0) = false := by rw [decide_eq_false_iff_not]; exact hz
          have HS := Lib.hid hs
          clear hstep hs hsv
          go_upto_region 4 with fail
          go_quiet (fail)
          have hsd := HS.out.still ((Only.refl (fun _ => False) wr).drewN nq)
          have hod := HO.out.drewN nq
          clear q0 q1 q2 q3 q4 q5 q6 htg hsr hnum
          go_wp2
          go_roundw
          case rel => exact ⟨m + 1, st, _, _, by omega, by go_num, HNX.out, hsd, HB.out, HR.out, hod⟩
          case measure => simp [intOf]; omega
      · rw [if_neg (fun h => hsv h.1)] at hstep
        obtain rfl := Option.some.inj hstep
        have hg1 : ((src e.E m : Int) == (v : Int)) = false := by rw [beq_eq_false_iff_ne]; omega
        have hg2 : decide ((src e.E m : Int) = (v : Int)) = false := by rw [decide_eq_false_iff_not]; omega
        have hg3 : (src e.E m == v) = false := by rw [beq_eq_false_iff_ne]; exact hsv
        have hg4 : decide (src e.E m = v) = false := by rw [decide_eq_false_iff_not]; exact hsv
        have HS := Lib.hid hs
        clear hstep hs hsv
        go_upto_region 4 with fail
        go_quiet (fail)
        have hsd := HS.out.still ((Only.refl (fun _ => False) wr).drewN nq)
        have hod := HO.out.drewN nq
        clear q0 q1 q2 q3 q4 q5 q6 htg hsr hnum
        go_wp2
        go_roundw
        case rel => exact ⟨m + 1, st, _, _, by omega, by go_num, HNX.out, hsd, HB.out, HR.out, hod⟩
        case measure => simp [intOf]; omega
    · obtain rfl : m = e.E.length := by omega
      rw [List.take_of_length_le (by simp), HF.out] at hf
      obtain rfl := Option.some.inj hf
      have r0 := hr.cellAt (i := 0) rfl
      have r1 := hr.cellAt (i := 1) rfl
      have r2 := hr.cellAt (i := 2) rfl
      have r3 := hr.cellAt (i := 3) rfl
      have r4 := hr.cellAt (i := 4) rfl
      have r5 := hr.cellAt (i := 5) rfl
      have r6 := hr.cellAt (i := 6) rfl
      have rf := fun i => hr.frozen i
      obtain ⟨As, cks, rfl⟩ := own_slice hs.st
      obtain ⟨Al, ckl, rfl, -⟩ := hs.ls.shape
      clear hf
      go_wp2
      have hb6 := ((((((hr.set 0 (.int .i64 (e.n : Int))).set 1 (.int .i64 e.exit)).set 2 (.slice e.A e.E.length e.c)).set 3 (.slice (some ⟨e.na, 0, none⟩) e.n e.n)).set 4 (.int .i64 (t.next : Int))).set 5 (.slice As t.stack.length cks)).set 6 (.slice Al t.list.length ckl)
      have ho6 : Only (fun b => b = w.heap.size + 1) wr _ := (((((((Only.refl (fun b => b = w.heap.size + 1) wr).set (p := ⟨w.heap.size + 1, 0, none⟩) (fun _ => rfl) (.int .i64 (e.n : Int))).set (p := ⟨w.heap.size + 1, 1, none⟩) (fun _ => rfl) (.int .i64 e.exit)).set (p := ⟨w.heap.size + 1, 2, none⟩) (fun _ => rfl) (.slice e.A e.E.length e.c)).set (p := ⟨w.heap.size + 1, 3, none⟩) (fun _ => rfl) (.slice (some ⟨e.na, 0, none⟩) e.n e.n)).set (p := ⟨w.heap.size + 1, 4, none⟩) (fun _ => rfl) (.int .i64 (t.next : Int))).set (p := ⟨w.heap.size + 1, 5, none⟩) (fun _ => rfl) (.slice As t.stack.length cks)).set (p := ⟨w.heap.size + 1, 6, none⟩) (fun _ => rfl) (.slice Al t.list.length ckl)
      have k0 := hb6.cellAt (i := 0) rfl
      have k1 := hb6.cellAt (i := 1) rfl
      have k2 := hb6.cellAt (i := 2) rfl
      have k3 := hb6.cellAt (i := 3) rfl
      have k4 := hb6.cellAt (i := 4) rfl
      have k5 := hb6.cellAt (i := 5) rfl
      have k6 := hb6.cellAt (i := 6) rfl
      refine bodyPost_ret (v := .agg #[.int .i64 (e.n : Int), .int .i64 e.exit, .slice e.A e.E.length e.c, .slice (some ⟨e.na, 0, none⟩) e.n e.n, .int .i64 (t.next : Int), .slice As t.stack.length cks, .slice Al t.list.length ckl]) (by simp [results, Tryd.results75, go_sem, k0, k1, k2, k3, k4, k5, k6]) rfl ⟨_, _, rfl, ?_, ?_⟩
      · refine hs.only ho6 (fun b hb h => by omega) (fun b hb ht h => ?_)
        subst h
        rcases ht with ht | ht
        · exact (Typed.blk hr).ne ht (by decide) rfl
        · exact (Typed.blk hr).ne ht (by decide) rfl
      · exact ho.trans ho6 (fun b hb h => by omega)
end Go.Proofs.YthaampinmelgaaaDoor

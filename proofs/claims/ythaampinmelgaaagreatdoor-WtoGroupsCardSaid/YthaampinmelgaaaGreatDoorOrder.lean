/- Package wto: Order. -/
import Derived.Test.YthaampinmelgaaaGreatDoorVisit
namespace Go.Proofs.YthaampinmelgaaaGreatDoor
open Go.RowKit Go.Shelf

theorem visit_all (e : OEnv) (hok : e.Ok) : ∀ k, VisitAt e k
  | 0 => fun w s sv lb off T cs base P lv l us v r _ _ _ _ h => by unfold visitV at h; cases h
  | k + 1 => visit_succ e hok k (visit_all e hok k)

set_option maxRecDepth 100000 in
set_option maxHeartbeats 4000000 in
theorem order_bad (B : Nat) (w : World) (v : Value) (n exit : Int) (es : List (Int × Int)) (hv : Edges B w v es) (hB : B ≤ w.heap.size) (hc : chk n exit es ≠ 0) :
    Calls Tryz.prog 6 #[.agg #[.int .i64 n, .int .i64 exit, v]] w fun en w' => en = .returned (.tuple #[.slice none 0 0, .int .i64 (chk n exit es)]) ∧ Below w.heap.size w w' := by
  obtain ⟨A, c, rfl, hlc, -, hm, hes⟩ := id hv.shape
  have hout := fun w1 (h1 : Below w.heap.size w w1) => out_bad B w1 _ n exit es (hv.below (h1.mono hB)) (by have := h1.size; omega) hc
  have HC := Lib.hid hout
  have hne1 : (chk n exit es != 0) = true := by rw [bne_iff_ne]; exact hc
  have hne2 : decide (chk n exit es = 0) = false := by rw [decide_eq_false_iff_not]; exact hc
  clear hout hes hv
  go_enter Tryz.func6, Tryz.ntmps6
  go_wp2_with (go_at_call 18; refine (HC.out _ ((Below.refl _ _).alloc (Nat.le_refl _) _)).mono ?_; rintro en w1 ⟨rfl, hb1⟩)
  go_ret2
  have hb2 := ((Below.refl w.heap.size w).alloc (Nat.le_refl _) _).trans (hb1.mono (by simp))
  exact ⟨rfl, hb2.alloc hb2.size _⟩

set_option maxRecDepth 100000 in
set_option maxHeartbeats 4000000 in
theorem order_ok (B : Nat) (w : World) (v : Value) (n : Nat) (exit : Int) (E : List (Nat × Nat)) (hv : Edges B w v (castE E)) (hB : B ≤ w.heap.size) (hg : GOk n exit E) (k : Nat) (r : VRes)
    (hr : visitV E k ⟨List.replicate n 0, [], 0⟩ [] 0 = some r) (hr2 : r.2.1.length < 1000000) :
    Calls Tryz.prog 6 #[.agg #[.int .i64 (n : Int), .int .i64 exit, v]] w fun en w' => ∃ vo, en = .returned (.tuple #[vo, .int .i64 0]) ∧ Els (fun b => w.heap.size ≤ b ∧ b < w'.heap.size) w' vo r.2.1 ∧ Below w.heap.size w w' := by
  obtain ⟨A, c, rfl, hlc, -, hm, hes⟩ := id hv.shape
  have hlen0 : (castE E).length = E.length := castE_length E
  have hout := fun w1 (h1 : Below w.heap.size w w1) => out_ok B w1 _ n exit E (hv.below (h1.mono hB)) (by have := h1.size; omega) hg
  have hmk := make_one (P := Tryz.prog) 31 3 (.int .i64 0) 8 Tryz.underlying31 info_int rfl n (by have := hg.n512; omega) (by have := hg.n512; omega)
  have hg0 := Blk.newAt w 24 #[.int .i64 (n : Int), .int .i64 exit, .slice A (castE E).length c] rfl
  have hb0 := (Below.refl w.heap.size w).alloc (Nat.le_refl _) (.cells #[.int .i64 (n : Int), .int .i64 exit, .slice A (castE E).length c] 24)
  rw [hlen0] at *
  have HO := Lib.hid hout
  have HG := Lib.hid hg
  have HV := Lib.hid hv
  have HR := Lib.hid hr
  clear hout hes hlen0 hg hv hr
  go_enter Tryz.func6, Tryz.ntmps6
  go_upto_region 4 with (go_at_call 18; refine (HO.out _ hb0).mono ?_; rintro en w1 ⟨vo, rfl, hrows, hw1⟩; obtain ⟨Ao, co, rfl, -, -, -, -⟩ := id hrows.shape)
  have hb1 := hb0.trans (hw1.mono hb0.size)
  have hg1 := hg0.below hw1 hg0.lt
  have hgs := hg1.lt
  have c0 := hg1.cellAt (i := 0) rfl
  have c0a := (hg1.alloc (.cells #[.slice Ao (shapeOf n E).out.length co] 47)).cellAt (i := 0) rfl
  go_upto_region 11 with fail
  obtain ⟨W, hW⟩ : ∃ W, W = ((((((((w1).alloc (.cells #[.slice Ao (shapeOf n E).out.length co] 47)).alloc (.cells (Array.replicate n (.int .i64 0)) 3)).alloc (.cells #[.slice (some ⟨w1.heap.size + 1, 0, none⟩) n n] 31)).alloc (.cells #[.slice none 0 0] 31)).alloc (.cells #[.int .i64 0] 3)).alloc (.cells #[.func (.func 20) #[] #[.pointer (some ⟨w1.heap.size + 1 + 1 + 1, 0, none⟩), .pointer (some ⟨w1.heap.size + 1 + 1 + 1 + 1, 0, none⟩), .pointer (some ⟨w1.heap.size + 1 + 1, 0, none⟩), .pointer (some ⟨w1.heap.size, 0, none⟩), .pointer (some ⟨w.heap.size, 0, none⟩), .pointer (some ⟨w1.heap.size + 1 + 1 + 1 + 1 + 1, 0, none⟩), .pointer (some ⟨w1.heap.size + 1 + 1 + 1 + 1 + 1 + 1, 0, none⟩)]] 50)).alloc (.cells #[.func (.func 19) #[] #[.pointer (some ⟨w1.heap.size, 0, none⟩), .pointer (some ⟨w.heap.size, 0, none⟩), .pointer (some ⟨w1.heap.size + 1 + 1, 0, none⟩), .pointer (some ⟨w1.heap.size + 1 + 1 + 1 + 1 + 1, 0, none⟩)]] 63)).alloc (.cells #[.slice none 0 0] 27) := ⟨_, rfl⟩
  rw [← hW]
  have hN : w.heap.size < w1.heap.size := by have := hw1.size; rw [World.size_alloc] at this; omega
  obtain ⟨e, he⟩ : ∃ e : OEnv, e = { n := n, exit := exit, E := E, A := A, c := c, ov := .slice Ao (shapeOf n E).out.length co, gb := w.heap.size, ob := w1.heap.size, na := w1.heap.size + 1, mb := w1.heap.size + 1 + 1, sb := w1.heap.size + 1 + 1 + 1, nb := w1.heap.size + 1 + 1 + 1 + 1, vb := w1.heap.size + 1 + 1 + 1 + 1 + 1, cb := w1.heap.size + 1 + 1 + 1 + 1 + 1 + 1, base := w1.heap.size + 1 + 1 + 1 + 1 + 1 + 1 + 1 } := ⟨_, rfl⟩
  have hok : e.Ok := by subst he; exact ⟨hN, Nat.lt_succ_self _, Nat.lt_succ_self _, Nat.lt_succ_self _, Nat.lt_succ_self _, Nat.lt_succ_self _, Nat.lt_succ_self _, Nat.lt_succ_self _, HG.out.n512, HG.out.len, HG.out.lt⟩
  have hkp : Below w1.heap.size w1 W := by
    rw [hW]
    exact (((((((((Below.refl _ w1).alloc (by simp) _).alloc (by simp <;> omega) _).alloc (by simp <;> omega) _).alloc (by simp <;> omega) _).alloc (by simp <;> omega) _).alloc (by simp <;> omega) _).alloc (by simp <;> omega) _).alloc (by simp <;> omega) _)
  have hWs : W.heap.size = w1.heap.size + 1 + 1 + 1 + 1 + 1 + 1 + 1 + 1 := by rw [hW]; simp
  have bo : Blk W (w1.heap.size) 47 [.slice Ao (shapeOf n E).out.length co] := by
    rw [hW]
    exact ((((((((Blk.newAt (N := w1.heap.size) (w1) 47 #[.slice Ao (shapeOf n E).out.length co] (by simp))).alloc _).alloc _).alloc _).alloc _).alloc _).alloc _).alloc _
  have ba : Blk W (w1.heap.size + 1) 3 ((List.replicate n (0 : Int)).map intV) := by
    rw [hW]
    have h := Blk.newAt (N := w1.heap.size + 1) ((w1).alloc (.cells #[.slice Ao (shapeOf n E).out.length co] 47)) 3 (Array.replicate n (.int .i64 0)) (by simp)
    rw [Array.toList_replicate] at h
    rw [List.map_replicate]
    exact (((((h.alloc _).alloc _).alloc _).alloc _).alloc _).alloc _
  have bm : Blk W (w1.heap.size + 1 + 1) 31 [.slice (some ⟨w1.heap.size + 1, 0, none⟩) n n] := by
    rw [hW]
    exact ((((((Blk.newAt (N := w1.heap.size + 1 + 1) (((w1).alloc (.cells #[.slice Ao (shapeOf n E).out.length co] 47)).alloc (.cells (Array.replicate n (.int .i64 0)) 3)) 31 #[.slice (some ⟨w1.heap.size + 1, 0, none⟩) n n] (by simp))).alloc _).alloc _).alloc _).alloc _).alloc _
  have bs : Blk W (w1.heap.size + 1 + 1 + 1) 31 [.slice none 0 0] := by
    rw [hW]
    exact (((((Blk.newAt (N := w1.heap.size + 1 + 1 + 1) ((((w1).alloc (.cells #[.slice Ao (shapeOf n E).out.length co] 47)).alloc (.cells (Array.replicate n (.int .i64 0)) 3)).alloc (.cells #[.slice (some ⟨w1.heap.size + 1, 0, none⟩) n n] 31)) 31 #[.slice none 0 0] (by simp))).alloc _).alloc _).alloc _).alloc _
  have bn : Blk W (w1.heap.size + 1 + 1 + 1 + 1) 3 [.int .i64 0] := by
    rw [hW]
    exact ((((Blk.newAt (N := w1.heap.size + 1 + 1 + 1 + 1) (((((w1).alloc (.cells #[.slice Ao (shapeOf n E).out.length co] 47)).alloc (.cells (Array.replicate n (.int .i64 0)) 3)).alloc (.cells #[.slice (some ⟨w1.heap.size + 1, 0, none⟩) n n] 31)).alloc (.cells #[.slice none 0 0] 31)) 3 #[.int .i64 0] (by simp))).alloc _).alloc _).alloc _
  have bv : Blk W (w1.heap.size + 1 + 1 + 1 + 1 + 1) 50 [.func (.func 20) #[] #[.pointer (some ⟨w1.heap.size + 1 + 1 + 1, 0, none⟩), .pointer (some ⟨w1.heap.size + 1 + 1 + 1 + 1, 0, none⟩), .pointer (some ⟨w1.heap.size + 1 + 1, 0, none⟩), .pointer (some ⟨w1.heap.size, 0, none⟩), .pointer (some ⟨w.heap.size, 0, none⟩), .pointer (some ⟨w1.heap.size + 1 + 1 + 1 + 1 + 1, 0, none⟩), .pointer (some ⟨w1.heap.size + 1 + 1 + 1 + 1 + 1 + 1, 0, none⟩)]] := by
    rw [hW]
    exact (((Blk.newAt (N := w1.heap.size + 1 + 1 + 1 + 1 + 1) ((((((w1).alloc (.cells #[.slice Ao (shapeOf n E).out.length co] 47)).alloc (.cells (Array.replicate n (.int .i64 0)) 3)).alloc (.cells #[.slice (some ⟨w1.heap.size + 1, 0, none⟩) n n] 31)).alloc (.cells #[.slice none 0 0] 31)).alloc (.cells #[.int .i64 0] 3)) 50 #[.func (.func 20) #[] #[.pointer (some ⟨w1.heap.size + 1 + 1 + 1, 0, none⟩), .pointer (some ⟨w1.heap.size + 1 + 1 + 1 + 1, 0, none⟩), .pointer (some ⟨w1.heap.size + 1 + 1, 0, none⟩), .pointer (some ⟨w1.heap.size, 0, none⟩), .pointer (some ⟨w.heap.size, 0, none⟩), .pointer (some ⟨w1.heap.size + 1 + 1 + 1 + 1 + 1, 0, none⟩), .pointer (some ⟨w1.heap.size + 1 + 1 + 1 + 1 + 1 + 1, 0, none⟩)]] (by simp))).alloc _).alloc _
  have bc : Blk W (w1.heap.size + 1 + 1 + 1 + 1 + 1 + 1) 63 [.func (.func 19) #[] #[.pointer (some ⟨w1.heap.size, 0, none⟩), .pointer (some ⟨w.heap.size, 0, none⟩), .pointer (some ⟨w1.heap.size + 1 + 1, 0, none⟩), .pointer (some ⟨w1.heap.size + 1 + 1 + 1 + 1 + 1, 0, none⟩)]] := by
    rw [hW]
    exact ((Blk.newAt (N := w1.heap.size + 1 + 1 + 1 + 1 + 1 + 1) (((((((w1).alloc (.cells #[.slice Ao (shapeOf n E).out.length co] 47)).alloc (.cells (Array.replicate n (.int .i64 0)) 3)).alloc (.cells #[.slice (some ⟨w1.heap.size + 1, 0, none⟩) n n] 31)).alloc (.cells #[.slice none 0 0] 31)).alloc (.cells #[.int .i64 0] 3)).alloc (.cells #[.func (.func 20) #[] #[.pointer (some ⟨w1.heap.size + 1 + 1 + 1, 0, none⟩), .pointer (some ⟨w1.heap.size + 1 + 1 + 1 + 1, 0, none⟩), .pointer (some ⟨w1.heap.size + 1 + 1, 0, none⟩), .pointer (some ⟨w1.heap.size, 0, none⟩), .pointer (some ⟨w.heap.size, 0, none⟩), .pointer (some ⟨w1.heap.size + 1 + 1 + 1 + 1 + 1, 0, none⟩), .pointer (some ⟨w1.heap.size + 1 + 1 + 1 + 1 + 1 + 1, 0, none⟩)]] 50)) 63 #[.func (.func 19) #[] #[.pointer (some ⟨w1.heap.size, 0, none⟩), .pointer (some ⟨w.heap.size, 0, none⟩), .pointer (some ⟨w1.heap.size + 1 + 1, 0, none⟩), .pointer (some ⟨w1.heap.size + 1 + 1 + 1 + 1 + 1, 0, none⟩)]] (by simp))).alloc _
  have bl : Blk W (w1.heap.size + 1 + 1 + 1 + 1 + 1 + 1 + 1) 27 [.slice none 0 0] := by
    rw [hW]
    exact (Blk.newAt (N := w1.heap.size + 1 + 1 + 1 + 1 + 1 + 1 + 1) ((((((((w1).alloc (.cells #[.slice Ao (shapeOf n E).out.length co] 47)).alloc (.cells (Array.replicate n (.int .i64 0)) 3)).alloc (.cells #[.slice (some ⟨w1.heap.size + 1, 0, none⟩) n n] 31)).alloc (.cells #[.slice none 0 0] 31)).alloc (.cells #[.int .i64 0] 3)).alloc (.cells #[.func (.func 20) #[] #[.pointer (some ⟨w1.heap.size + 1 + 1 + 1, 0, none⟩), .pointer (some ⟨w1.heap.size + 1 + 1 + 1 + 1, 0, none⟩), .pointer (some ⟨w1.heap.size + 1 + 1, 0, none⟩), .pointer (some ⟨w1.heap.size, 0, none⟩), .pointer (some ⟨w.heap.size, 0, none⟩), .pointer (some ⟨w1.heap.size + 1 + 1 + 1 + 1 + 1, 0, none⟩), .pointer (some ⟨w1.heap.size + 1 + 1 + 1 + 1 + 1 + 1, 0, none⟩)]] 50)).alloc (.cells #[.func (.func 19) #[] #[.pointer (some ⟨w1.heap.size, 0, none⟩), .pointer (some ⟨w.heap.size, 0, none⟩), .pointer (some ⟨w1.heap.size + 1 + 1, 0, none⟩), .pointer (some ⟨w1.heap.size + 1 + 1 + 1 + 1 + 1, 0, none⟩)]] 63)) 27 #[.slice none 0 0] (by simp))
  have hs : OS e W ⟨List.replicate n 0, [], 0⟩ (.slice none 0 0) := by
    subst he
    refine ⟨(hg1.below hkp hN), (by have h := (HV.out.below ((hb1.mono hB).trans (hkp.mono (by omega)))).more hB; rw [castE_length] at h; exact h), bo, (hrows.below hkp), bm, ba, by simp, bs, World.ownsRow_nil _ _ _ _, bn, bv, bc, fun x hx => by simp at hx⟩
  have hl : LO e W (w1.heap.size + 1 + 1 + 1 + 1 + 1 + 1 + 1) 0 27 [.slice none 0 0] (w1.heap.size + 1 + 1 + 1 + 1 + 1 + 1 + 1 + 1) (fun _ => False) (.slice none 0 0) [] [] := ⟨bl, rfl, by decide, by subst he; exact Nat.le_refl _, by omega, EO.nil _ _ _⟩
  have hcall := visit_all e hok k W _ _ _ 0 _ _ _ _ _ _ _ 0 r hs hl (by omega) (by subst he; exact HG.out.n1) (by rw [show e.E = E by rw [he]]; exact HR.out)
  have cv := bv.cellAt (i := 0) rfl
  subst he
  have HC := Lib.hid hcall
  have HKP := Lib.hid hkp
  clear hW hcall hs hl bo ba bm bs bn bv bc bl hkp c0 c0a hmk
  go_wp2_with (go_at_call 20; refine HC.out.mono ?_; rintro en w3 ⟨rfl, sv', lv', us', P', hs3, hl3, ho3, hsv, hlv⟩; have c3 := hl3.b.cellAt hl3.at_; obtain ⟨Al, cl, rfl⟩ := own_slice hl3.eo.own)
  go_ret2
  refine ⟨_, rfl, (hl3.eo.els (by omega)).mono (fun b hb => ⟨by have := hb.1; omega, hb.2.lt⟩), hb1.trans ((HKP.out.mono (by omega)).trans (ho3.below (by omega) (fun b hb h => ?_)))⟩
  rcases h with h | h | h | h | h | h
  · have h' : b = w1.heap.size + 1 + 1 + 1 := h; omega
  · have h' : b = w1.heap.size + 1 + 1 + 1 + 1 := h; omega
  · have h' : b = w1.heap.size + 1 := h; omega
  · omega
  · cases h
  · cases h
end Go.Proofs.YthaampinmelgaaaGreatDoor

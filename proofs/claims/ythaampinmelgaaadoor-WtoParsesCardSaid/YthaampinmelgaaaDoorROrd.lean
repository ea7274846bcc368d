/- The reference's Order: the recursion, Ordered, Order. -/
import Derived.Test.YthaampinmelgaaaDoorREnter
import Derived.Test.YthaampinmelgaaaDoorOrder
import Derived.Test.YthaampinmelgaaaDoorFront2
/-! The reference's order: Ordered, Order. -/
namespace Go.Proofs.YthaampinmelgaaaDoor
open Go.RowKit Go.Shelf

theorem enter_all : ∀ (k : Nat) (e : REnv), e.Ok → EnterAt e k
  | 0 => fun e _ w s skv lkv v r _ _ h => by unfold enterR at h; cases h
  | k + 1 => enter_succ k (enter_all k)

set_option maxRecDepth 100000 in
set_option maxHeartbeats 4000000 in
theorem rorder_bad (B : Nat) (w : World) (v : Value) (n exit : Int) (es : List (Int × Int)) (hv : Edges B w v es) (hB : B ≤ w.heap.size) (hc : chk n exit es ≠ 0) :
    Calls Tryd.prog 13 #[.agg #[.int .i64 n, .int .i64 exit, v]] w fun en w' => en = .returned (.tuple #[.slice none 0 0, .int .i64 (chk n exit es)]) ∧ Below w.heap.size w w' := by
  obtain ⟨A, c, rfl, hlc, -, hm, hes⟩ := id hv.shape
  have hcheck := fun w1 (h1 : Below w.heap.size w w1) => rcheck_any B w1 n exit _ es (hv.below (h1.mono hB)) (by have := h1.size; omega)
  have HC := Lib.hid hcheck
  clear hcheck hes hv
  go_enter Tryd.func13, Tryd.ntmps13
  go_wp2_with (go_at_call 41; refine (HC.out _ ((Below.refl _ _).alloc (Nat.le_refl _) _)).mono ?_; rintro en w1 ⟨rfl, hb1⟩)
  go_ret2
  exact ⟨rfl, ((Below.refl _ _).alloc (Nat.le_refl _) _).trans (hb1.mono (by simp))⟩
end Go.Proofs.YthaampinmelgaaaDoor

/-! The reference's Ordered and Order at a right graph. -/
namespace Go.Proofs.YthaampinmelgaaaDoor
open Go.RowKit Go.Shelf

theorem rs_start {B : Nat} {w W : World} {n : Nat} {exit : Int} {E : List (Nat × Nat)} {A : Option Addr} {c na : Nat} (hv : Edges B w (.slice A E.length c) (castE E)) (hB : B ≤ w.heap.size) (hb : Below w.heap.size w W) (hn : w.heap.size ≤ na) (ha : Blk W na 3 (List.replicate n (.int .i64 0))) :
    RS ⟨n, exit, E, A, c, na, na⟩ W ⟨List.replicate n 0, 0, [], []⟩ (.slice none 0 0) (.slice none 0 0) :=
  ⟨(hv.below (hb.mono hB)).more (Nat.le_trans hB hn), by simpa [intV] using ha, by simp, World.ownsRow_nil _ _ _ _, fun x hx => by simp at hx, Els.nil, Nat.le_refl _, ha.lt⟩
def walk0 : List Value := [.int .i64 0, .int .i64 0, .slice none 0 0, .slice none 0 0, .int .i64 0, .slice none 0 0, .slice none 0 0]

set_option maxRecDepth 100000 in
set_option maxHeartbeats 4000000 in
theorem ordered_ok (B : Nat) (w : World) (v : Value) (n : Nat) (exit : Int) (E : List (Nat × Nat)) (hv : Edges B w v (castE E)) (hB : B ≤ w.heap.size) (hg : GOk n exit E) (k : Nat) (r : RRes)
    (hr : enterR E k ⟨List.replicate n 0, 0, [], []⟩ 0 = some r) :
    Calls Tryd.prog 42 #[.agg #[.int .i64 (n : Int), .int .i64 exit, v]] w fun en w' => ∃ vo, en = .returned vo ∧ Els (fun b => w.heap.size ≤ b ∧ b < w'.heap.size) w' vo r.1.list ∧ Below w.heap.size w w' := by
  obtain ⟨A, c, rfl, hlc, -, hm, hes⟩ := id hv.shape
  have hlen0 : (castE E).length = E.length := castE_length E
  have hmk := make_one (P := Tryd.prog) 51 3 (.int .i64 0) 8 Tryd.underlying51 info_int rfl n (by have := hg.n512; omega) (by have := hg.n512; omega)
  have hg0 := Blk.newAt w 24 #[.int .i64 (n : Int), .int .i64 exit, .slice A (castE E).length c] rfl
  have hb0 := (Below.refl w.heap.size w).alloc (Nat.le_refl _) (.cells #[.int .i64 (n : Int), .int .i64 exit, .slice A (castE E).length c] 24)
  rw [hlen0] at hv hg0 hb0 ⊢
  have HG := Lib.hid hg
  have HV := Lib.hid hv
  have HB := Lib.hid hB
  have HV := Lib.hid hv
  have HB := Lib.hid hB
  have HR := Lib.hid hr
  have c0 := hg0.cellAt (i := 0) rfl
  have c1 := hg0.cellAt (i := 1) rfl
  have c2 := hg0.cellAt (i := 2) rfl
  clear hes hlen0 hg hv hr hB
  go_enter Tryd.func42, Tryd.ntmps42
  go_upto_region 1 with fail
  have hHeld := And.intro c0 (And.intro c1 c2)
  have hbA : Below w.heap.size w (w.alloc (.cells #[.int .i64 (n : Int), .int .i64 exit, .slice A E.length c] 24)).drew := hb0.drew
  have hsA : (w.alloc (.cells #[.int .i64 (n : Int), .int .i64 exit, .slice A E.length c] 24)).drew.heap.size = w.heap.size + 1 := by show (w.alloc _).heap.size = _; rw [World.size_alloc]
  have hgA : Blk (w.alloc (.cells #[.int .i64 (n : Int), .int .i64 exit, .slice A E.length c] 24)).drew w.heap.size 24 [.int .i64 (n : Int), .int .i64 exit, .slice A E.length c] := hg0
  refine wp_region_front (S := fun w' => w'.cell? ⟨w.heap.size, 0, none⟩ = some (.int .i64 (n : Int)) ∧ w'.cell? ⟨w.heap.size, 1, none⟩ = some (.int .i64 exit) ∧ w'.cell? ⟨w.heap.size, 2, none⟩ = some (.slice A E.length c)) 1 11 (v := .pointer (some ⟨w.heap.size, 0, none⟩)) (by kernel_rfl) (by kernel_rfl) (by decide) rfl (by kernel_rfl) (by kernel_rfl) (fun _ _ _ h => h) (.inl ⟨by rfl, fun w' => by rfl⟩) ?_
  simp only [Act.put, List.setIfInBounds_toArray, List.set_cons_zero, List.set_cons_succ]
  replace hHeld : (w.alloc (.cells #[.int .i64 (n : Int), .int .i64 exit, .slice A E.length c] 24)).drew.cell? ⟨w.heap.size, 0, none⟩ = some (.int .i64 (n : Int)) ∧ (w.alloc (.cells #[.int .i64 (n : Int), .int .i64 exit, .slice A E.length c] 24)).drew.cell? ⟨w.heap.size, 1, none⟩ = some (.int .i64 exit) ∧ (w.alloc (.cells #[.int .i64 (n : Int), .int .i64 exit, .slice A E.length c] 24)).drew.cell? ⟨w.heap.size, 2, none⟩ = some (.slice A E.length c) := hHeld
  clear c0 c1 c2 hg0 hb0
  revert hHeld hbA hsA hgA
  generalize (w.alloc (.cells #[.int .i64 (n : Int), .int .i64 exit, .slice A E.length c] 24)).drew = wz
  intro hbA hsA hgA hHeld
  have HGA := Lib.hid hgA
  have HBA := Lib.hid hbA
  have HSA := Lib.hid hsA
  clear hgA hbA hsA
  refine Front.take 0 (v := ?_) rfl (by decide) (by kernel_rfl) (by kernel_rfl) (fun _ _ _ h => h) rfl hHeld ?_ ?_
  case refine_2 => intro w' hSw; obtain ⟨k0, k1, k2⟩ := hSw; go_simp <;> with_reducible rfl
  simp only [Act.put, List.setIfInBounds_toArray, List.set_cons_zero, List.set_cons_succ]
  refine Front.take 2 (v := ?_) rfl (by decide) (by kernel_rfl) (by kernel_rfl) (fun _ _ _ h => h) rfl hHeld ?_ ?_
  case refine_2 => intro w' hSw; obtain ⟨k0, k1, k2⟩ := hSw; go_simp <;> with_reducible rfl
  simp only [Act.put, List.setIfInBounds_toArray, List.set_cons_zero, List.set_cons_succ]
  refine Front.two (i := 3) (j := 9) (by kernel_rfl) (by decide) (by decide) ?_ ?_
  case' refine_2 =>
    have g5 := HGA.out.alloc (.cells #[.int .i64 0, .int .i64 0, .slice none 0 0, .slice none 0 0, .int .i64 0, .slice none 0 0, .slice none 0 0] 124)
    have b5 := HBA.out.alloc (by have := HSA.out; omega) (.cells #[.int .i64 0, .int .i64 0, .slice none 0 0, .slice none 0 0, .int .i64 0, .slice none 0 0, .slice none 0 0] 124)
    have z5 : Blk (wz.alloc (.cells #[.int .i64 0, .int .i64 0, .slice none 0 0, .slice none 0 0, .int .i64 0, .slice none 0 0, .slice none 0 0] 124)) wz.heap.size 124 walk0 := Blk.newAt wz 124 #[.int .i64 0, .int .i64 0, .slice none 0 0, .slice none 0 0, .int .i64 0, .slice none 0 0, .slice none 0 0] rfl
    have s5 : (wz.alloc (.cells #[.int .i64 0, .int .i64 0, .slice none 0 0, .slice none 0 0, .int .i64 0, .slice none 0 0, .slice none 0 0] 124)).heap.size = wz.heap.size + 1 := by simp
    refine FrontStep.of rfl (fun K hK => ?_)
    go_simp
    refine hK _ _ ⟨g5.cellAt (i := 0) rfl, g5.cellAt (i := 1) rfl, g5.cellAt (i := 2) rfl⟩ ?_
    clear K hK hHeld
    revert g5 b5 z5 s5
    generalize wz.alloc (.cells #[.int .i64 0, .int .i64 0, .slice none 0 0, .slice none 0 0, .int .i64 0, .slice none 0 0, .slice none 0 0] 124) = wa
    intro g5 b5 z5 s5
    have G5 := Lib.hid g5
    have B5 := Lib.hid b5
    have Z5 := Lib.hid z5
    have SA := Lib.hid s5
    clear g5 b5 z5 s5
    refine Front.one (i := 3) (by kernel_rfl) (by decide) ?_
    have g6 := G5.out.alloc (.cells (Array.replicate n (.int .i64 0)) 3)
    have b6 := B5.out.alloc (by have := SA.out; have := HSA.out; omega) (.cells (Array.replicate n (.int .i64 0)) 3)
    have z6 := Z5.out.alloc (.cells (Array.replicate n (.int .i64 0)) 3)
    have h6 : Blk (wa.alloc (.cells (Array.replicate n (.int .i64 0)) 3)) wa.heap.size 3 (List.replicate n (.int .i64 0)) := by have := Blk.newAt wa 3 (Array.replicate n (.int .i64 0)) rfl; simpa using this
    have s6 : (wa.alloc (.cells (Array.replicate n (.int .i64 0)) 3)).heap.size = wa.heap.size + 1 := by simp
    have hHb := And.intro (g6.cellAt (i := 0) rfl) (And.intro (g6.cellAt (i := 1) rfl) (g6.cellAt (i := 2) rfl))
    refine FrontStep.of rfl (fun K hK => ?_)
    go_simp
    refine hK _ _ hHb ?_
    clear K hK
    revert g6 b6 h6 z6 s6 hHb
    generalize wa.alloc (.cells (Array.replicate n (.int .i64 0)) 3) = wb
    intro g6 b6 z6 h6 s6 hHb
    have G6 := Lib.hid g6
    have B6 := Lib.hid b6
    have H6 := Lib.hid h6
    have Z6 := Lib.hid z6
    have S6 := Lib.hid s6
    clear g6 b6 h6 z6 s6
    refine Front.take 4 (v := ?_) rfl (by decide) (by kernel_rfl) (by kernel_rfl) (fun _ _ _ h => h) rfl hHb ?_ ?_
    case refine_2 => intro w' hSw; obtain ⟨k0, k1, k2⟩ := hSw; go_simp <;> with_reducible rfl
    simp only [Act.put, List.setIfInBounds_toArray, List.set_cons_zero, List.set_cons_succ]
    clear hHb
    have hcall := enter_all k ⟨n, exit, E, A, c, wa.heap.size, wa.heap.size⟩ ⟨HG.out.n512, HG.out.len, HG.out.lt⟩ wb _ _ _ 0 r (rs_start (exit := exit) HV.out HB.out B6.out (by have := SA.out; have := HSA.out; omega) H6.out) HG.out.n1 HR.out
    unfold REnv.val at hcall
    have HCALL := Lib.hid hcall
    clear hcall
    refine Front.one (i := 5) (by kernel_rfl) (by decide) ?_
    refine FrontStep.of rfl (fun K hK => ?_)
    go_simp
    refine HCALL.out.mono ?_
    rintro en w7 ⟨skv, lkv, rfl, hrs7, ho7⟩
    have g7 := G6.out.only ho7 (by have := SA.out; have := HSA.out; show w.heap.size ≠ wa.heap.size; omega)
    have hH7 := And.intro (g7.cellAt (i := 0) rfl) (And.intro (g7.cellAt (i := 1) rfl) (g7.cellAt (i := 2) rfl))
    have hW : Below w.heap.size w w7 := B6.out.trans (ho7.below (B := w.heap.size) (by have := SA.out; have := S6.out; have := HSA.out; omega) (fun b hb e => by have := SA.out; have := HSA.out; change b = wa.heap.size at e; omega))
    have hZ := Z6.out.only ho7 (by have := SA.out; show wz.heap.size ≠ wa.heap.size; omega)
    have R7 := Lib.hid hrs7
    refine hK _ w7 hH7 ?_
    have HG7 := Lib.hid g7
    clear K hK HCALL g7
    have HW7 := Lib.hid hW
    have HZ7 := Lib.hid hZ
    clear hW hZ hrs7 ho7
    refine Front.take 6 (v := ?_) rfl (by decide) (by kernel_rfl) (by kernel_rfl) (fun _ _ _ h => h) rfl hH7 ?_ ?_
    case refine_2 => intro w' hSw; obtain ⟨k0, k1, k2⟩ := hSw; go_simp <;> with_reducible rfl
    simp only [Act.put, List.setIfInBounds_toArray, List.set_cons_zero, List.set_cons_succ]
    refine Front.take 7 (v := ?_) rfl (by decide) (by kernel_rfl) (by kernel_rfl) (fun _ _ _ h => h) rfl hH7 ?_ ?_
    case refine_2 => intro w' hSw; obtain ⟨k0, k1, k2⟩ := hSw; go_simp <;> with_reducible rfl
    simp only [Act.put, List.setIfInBounds_toArray, List.set_cons_zero, List.set_cons_succ]
    refine Front.take 8 (v := ?_) rfl (by decide) (by kernel_rfl) (by kernel_rfl) (fun _ _ _ h => h) rfl hH7 ?_ ?_
    case refine_2 => intro w' hSw; obtain ⟨k0, k1, k2⟩ := hSw; go_simp <;> with_reducible rfl
    simp only [Act.put, List.setIfInBounds_toArray, List.set_cons_zero, List.set_cons_succ]
    have hG := HG7.out
    have hW := HW7.out
    have hR := R7.out
    have hZ := HZ7.out
    clear HW7 HZ7 HG7 hH7
    have hns : w.heap.size ≤ wa.heap.size := by have := SA.out; have := HSA.out; omega
    have hss : w.heap.size < wz.heap.size := by have := HSA.out; omega
    clear HBA HGA B6 R7 G6 HV HB H6 Z6 S6 G5 B5 Z5
    clear SA HSA
    revert hG hW hR hZ hns hss
    generalize w7 = W
    generalize wz.heap.size = sb
    generalize wa.heap.size = na
    intro hG hW hR hZ hns hss
  case' refine_1 =>
    have ga := HGA.out.alloc (.cells (Array.replicate n (.int .i64 0)) 3)
    have ba := HBA.out.alloc (by have := HSA.out; omega) (.cells (Array.replicate n (.int .i64 0)) 3)
    have ha : Blk (wz.alloc (.cells (Array.replicate n (.int .i64 0)) 3)) wz.heap.size 3 (List.replicate n (.int .i64 0)) := by have := Blk.newAt wz 3 (Array.replicate n (.int .i64 0)) rfl; simpa using this
    have sa : (wz.alloc (.cells (Array.replicate n (.int .i64 0)) 3)).heap.size = wz.heap.size + 1 := by simp
    have hHa := And.intro (ga.cellAt (i := 0) rfl) (And.intro (ga.cellAt (i := 1) rfl) (ga.cellAt (i := 2) rfl))
    refine FrontStep.of rfl (fun K hK => ?_)
    go_simp
    refine hK _ _ hHa ?_
    clear K hK hHeld
    revert ga ba ha sa hHa
    generalize wz.alloc (.cells (Array.replicate n (.int .i64 0)) 3) = wa
    intro ga ba ha sa hHa
    have GA := Lib.hid ga
    have BA := Lib.hid ba
    have HA := Lib.hid ha
    have SA := Lib.hid sa
    clear ga ba ha sa
    refine Front.take 4 (v := ?_) rfl (by decide) (by kernel_rfl) (by kernel_rfl) (fun _ _ _ h => h) rfl hHa ?_ ?_
    case refine_2 => intro w' hSw; obtain ⟨k0, k1, k2⟩ := hSw; go_simp <;> with_reducible rfl
    simp only [Act.put, List.setIfInBounds_toArray, List.set_cons_zero, List.set_cons_succ]
    refine Front.two (i := 5) (j := 9) (by kernel_rfl) (by decide) (by decide) ?_ ?_
    case' refine_1 =>
      have hcall := enter_all k ⟨n, exit, E, A, c, wz.heap.size, wz.heap.size⟩ ⟨HG.out.n512, HG.out.len, HG.out.lt⟩ wa _ _ _ 0 r (rs_start (exit := exit) HV.out HB.out BA.out (by have := HSA.out; omega) HA.out) HG.out.n1 HR.out
      unfold REnv.val at hcall
      have HCALL := Lib.hid hcall
      clear hcall
      refine FrontStep.of rfl (fun K hK => ?_)
      go_simp
      refine HCALL.out.mono ?_
      rintro en w6 ⟨skv, lkv, rfl, hrs6, ho6⟩
      have g6 := GA.out.only ho6 (by have := HSA.out; show w.heap.size ≠ wz.heap.size; omega)
      have hH6 := And.intro (g6.cellAt (i := 0) rfl) (And.intro (g6.cellAt (i := 1) rfl) (g6.cellAt (i := 2) rfl))
      have b6 : Below w.heap.size w w6 := BA.out.trans (ho6.below (B := w.heap.size) (by have := SA.out; have := HSA.out; omega) (fun b hb e => by have := HSA.out; change b = wz.heap.size at e; omega))
      refine hK _ w6 hH6 ?_
      clear K hK HCALL hHa
      have G6 := Lib.hid g6
      have B6 := Lib.hid b6
      have R6 := Lib.hid hrs6
      clear g6 b6 hrs6 ho6
      refine Front.take 6 (v := ?_) rfl (by decide) (by kernel_rfl) (by kernel_rfl) (fun _ _ _ h => h) rfl hH6 ?_ ?_
      case refine_2 => intro w' hSw; obtain ⟨k0, k1, k2⟩ := hSw; go_simp <;> with_reducible rfl
      simp only [Act.put, List.setIfInBounds_toArray, List.set_cons_zero, List.set_cons_succ]
      refine Front.take 7 (v := ?_) rfl (by decide) (by kernel_rfl) (by kernel_rfl) (fun _ _ _ h => h) rfl hH6 ?_ ?_
      case refine_2 => intro w' hSw; obtain ⟨k0, k1, k2⟩ := hSw; go_simp <;> with_reducible rfl
      simp only [Act.put, List.setIfInBounds_toArray, List.set_cons_zero, List.set_cons_succ]
      refine Front.take 8 (v := ?_) rfl (by decide) (by kernel_rfl) (by kernel_rfl) (fun _ _ _ h => h) rfl hH6 ?_ ?_
      case refine_2 => intro w' hSw; obtain ⟨k0, k1, k2⟩ := hSw; go_simp <;> with_reducible rfl
      simp only [Act.put, List.setIfInBounds_toArray, List.set_cons_zero, List.set_cons_succ]
      refine Front.one (i := 9) (by kernel_rfl) (by decide) ?_
      refine FrontStep.of rfl (fun K hK => ?_)
      go_simp
      have g7 := G6.out.alloc (.cells #[.int .i64 0, .int .i64 0, .slice none 0 0, .slice none 0 0, .int .i64 0, .slice none 0 0, .slice none 0 0] 124)
      refine hK _ _ ⟨g7.cellAt (i := 0) rfl, g7.cellAt (i := 1) rfl, g7.cellAt (i := 2) rfl⟩ ?_
      clear K hK hH6
      have hW : Below w.heap.size w (w6.alloc (.cells #[.int .i64 0, .int .i64 0, .slice none 0 0, .slice none 0 0, .int .i64 0, .slice none 0 0, .slice none 0 0] 124)) := B6.out.alloc (by have := B6.out.size; omega) _
      have hR := R6.out.alloc (.cells #[.int .i64 0, .int .i64 0, .slice none 0 0, .slice none 0 0, .int .i64 0, .slice none 0 0, .slice none 0 0] 124)
      have hZ : Blk (w6.alloc (.cells #[.int .i64 0, .int .i64 0, .slice none 0 0, .slice none 0 0, .int .i64 0, .slice none 0 0, .slice none 0 0] 124)) w6.heap.size 124 walk0 := Blk.newAt w6 124 #[.int .i64 0, .int .i64 0, .slice none 0 0, .slice none 0 0, .int .i64 0, .slice none 0 0, .slice none 0 0] rfl
      have hns : w.heap.size ≤ wz.heap.size := by have := HSA.out; omega
      have hss : w.heap.size < w6.heap.size := G6.out.lt
      have hG := g7
      have hW := hW
      have hR := hR
      have hZ := hZ
      have hns := hns
      have hss := hss
      clear GA BA HA SA HBA HGA HSA B6 R6 G6 HV HB g7
      revert hG hW hR hZ hns hss
      generalize w6.alloc (.cells #[.int .i64 0, .int .i64 0, .slice none 0 0, .slice none 0 0, .int .i64 0, .slice none 0 0, .slice none 0 0] 124) = W
      generalize w6.heap.size = sb
      generalize wz.heap.size = na
      intro hG hW hR hZ hns hss
    case' refine_2 =>
      have g6 := GA.out.alloc (.cells #[.int .i64 0, .int .i64 0, .slice none 0 0, .slice none 0 0, .int .i64 0, .slice none 0 0, .slice none 0 0] 124)
      have b6 := BA.out.alloc (by have := SA.out; have := HSA.out; omega) (.cells #[.int .i64 0, .int .i64 0, .slice none 0 0, .slice none 0 0, .int .i64 0, .slice none 0 0, .slice none 0 0] 124)
      have h6 := HA.out.alloc (.cells #[.int .i64 0, .int .i64 0, .slice none 0 0, .slice none 0 0, .int .i64 0, .slice none 0 0, .slice none 0 0] 124)
      have z6 : Blk (wa.alloc (.cells #[.int .i64 0, .int .i64 0, .slice none 0 0, .slice none 0 0, .int .i64 0, .slice none 0 0, .slice none 0 0] 124)) wa.heap.size 124 walk0 := Blk.newAt wa 124 #[.int .i64 0, .int .i64 0, .slice none 0 0, .slice none 0 0, .int .i64 0, .slice none 0 0, .slice none 0 0] rfl
      have s6 : (wa.alloc (.cells #[.int .i64 0, .int .i64 0, .slice none 0 0, .slice none 0 0, .int .i64 0, .slice none 0 0, .slice none 0 0] 124)).heap.size = wa.heap.size + 1 := by simp
      refine FrontStep.of rfl (fun K hK => ?_)
      go_simp
      refine hK _ _ ⟨g6.cellAt (i := 0) rfl, g6.cellAt (i := 1) rfl, g6.cellAt (i := 2) rfl⟩ ?_
      clear K hK hHa
      revert g6 b6 h6 z6 s6
      generalize wa.alloc (.cells #[.int .i64 0, .int .i64 0, .slice none 0 0, .slice none 0 0, .int .i64 0, .slice none 0 0, .slice none 0 0] 124) = wb
      intro g6 b6 h6 z6 s6
      have G6 := Lib.hid g6
      have B6 := Lib.hid b6
      have H6 := Lib.hid h6
      have Z6 := Lib.hid z6
      have S6 := Lib.hid s6
      clear g6 b6 h6 z6 s6
      have hcall := enter_all k ⟨n, exit, E, A, c, wz.heap.size, wz.heap.size⟩ ⟨HG.out.n512, HG.out.len, HG.out.lt⟩ wb _ _ _ 0 r (rs_start (exit := exit) HV.out HB.out B6.out (by have := SA.out; have := HSA.out; omega) H6.out) HG.out.n1 HR.out
      unfold REnv.val at hcall
      have HCALL := Lib.hid hcall
      clear hcall
      refine Front.one (i := 5) (by kernel_rfl) (by decide) ?_
      refine FrontStep.of rfl (fun K hK => ?_)
      go_simp
      refine HCALL.out.mono ?_
      rintro en w7 ⟨skv, lkv, rfl, hrs7, ho7⟩
      have g7 := G6.out.only ho7 (by have := SA.out; have := HSA.out; show w.heap.size ≠ wz.heap.size; omega)
      have hH7 := And.intro (g7.cellAt (i := 0) rfl) (And.intro (g7.cellAt (i := 1) rfl) (g7.cellAt (i := 2) rfl))
      have hW : Below w.heap.size w w7 := B6.out.trans (ho7.below (B := w.heap.size) (by have := SA.out; have := S6.out; have := HSA.out; omega) (fun b hb e => by have := SA.out; have := HSA.out; change b = wz.heap.size at e; omega))
      have hZ := Z6.out.only ho7 (by have := SA.out; show wa.heap.size ≠ wz.heap.size; omega)
      have R7 := Lib.hid hrs7
      refine hK _ w7 hH7 ?_
      have HG7 := Lib.hid g7
      clear K hK HCALL g7
      have HW7 := Lib.hid hW
      have HZ7 := Lib.hid hZ
      clear hW hZ hrs7 ho7
      refine Front.take 6 (v := ?_) rfl (by decide) (by kernel_rfl) (by kernel_rfl) (fun _ _ _ h => h) rfl hH7 ?_ ?_
      case refine_2 => intro w' hSw; obtain ⟨k0, k1, k2⟩ := hSw; go_simp <;> with_reducible rfl
      simp only [Act.put, List.setIfInBounds_toArray, List.set_cons_zero, List.set_cons_succ]
      refine Front.take 7 (v := ?_) rfl (by decide) (by kernel_rfl) (by kernel_rfl) (fun _ _ _ h => h) rfl hH7 ?_ ?_
      case refine_2 => intro w' hSw; obtain ⟨k0, k1, k2⟩ := hSw; go_simp <;> with_reducible rfl
      simp only [Act.put, List.setIfInBounds_toArray, List.set_cons_zero, List.set_cons_succ]
      refine Front.take 8 (v := ?_) rfl (by decide) (by kernel_rfl) (by kernel_rfl) (fun _ _ _ h => h) rfl hH7 ?_ ?_
      case refine_2 => intro w' hSw; obtain ⟨k0, k1, k2⟩ := hSw; go_simp <;> with_reducible rfl
      simp only [Act.put, List.setIfInBounds_toArray, List.set_cons_zero, List.set_cons_succ]
      have hG := HG7.out
      have hW := HW7.out
      have hR := R7.out
      have hZ := HZ7.out
      clear HW7 HZ7 HG7 hH7
      have hns : w.heap.size ≤ wz.heap.size := by have := HSA.out; omega
      have hss : w.heap.size < wa.heap.size := by have := SA.out; have := HSA.out; omega
      clear GA BA HA SA HBA HGA HSA B6 R7 G6 HV HB H6 Z6 S6
      revert hG hW hR hZ hns hss
      generalize w7 = W
      generalize wa.heap.size = sb
      generalize wz.heap.size = na
      intro hG hW hR hZ hns hss
  all_goals
    obtain ⟨As, cks, rfl⟩ := own_slice hR.st
    obtain ⟨Al, ckl, rfl, -⟩ := hR.ls.shape
    have z0 := hZ.cellAt (i := 0) rfl
    have z1 := hZ.cellAt (i := 1) rfl
    have z2 := hZ.cellAt (i := 2) rfl
    have z3 := hZ.cellAt (i := 3) rfl
    have z4 := hZ.cellAt (i := 4) rfl
    have z5 := hZ.cellAt (i := 5) rfl
    have z6 := hZ.cellAt (i := 6) rfl
    have f0 := hZ.frozen 0
    have f1 := hZ.frozen 1
    have f2 := hZ.frozen 2
    have f3 := hZ.frozen 3
    have f4 := hZ.frozen 4
    have f5 := hZ.frozen 5
    have f6 := hZ.frozen 6
    have hSB := (((((((hZ.set 0 (.int .i64 (n : Int))).set 1 (.int .i64 exit)).set 2 (.slice A E.length c)).set 3 (.slice (some ⟨na, 0, none⟩) n n)).set 4 (.int .i64 (r.1.next : Int))).set 5 (.slice As r.1.stack.length cks)).set 6 (.slice Al r.1.list.length ckl))
    have hoS := ((((((((Only.refl (fun c => c = sb) W).set (p := ⟨sb, 0, none⟩) (fun _ => rfl) (.int .i64 (n : Int))).set (p := ⟨sb, 1, none⟩) (fun _ => rfl) (.int .i64 exit)).set (p := ⟨sb, 2, none⟩) (fun _ => rfl) (.slice A E.length c)).set (p := ⟨sb, 3, none⟩) (fun _ => rfl) (.slice (some ⟨na, 0, none⟩) n n)).set (p := ⟨sb, 4, none⟩) (fun _ => rfl) (.int .i64 (r.1.next : Int))).set (p := ⟨sb, 5, none⟩) (fun _ => rfl) (.slice As r.1.stack.length cks)).set (p := ⟨sb, 6, none⟩) (fun _ => rfl) (.slice Al r.1.list.length ckl))
    have hG9 := hG.only hoS (by show w.heap.size ≠ sb; omega)
    have hls9 := (hR.ls.only hoS (fun b hb => ⟨hb.2.lt, Typed.ne hb.2 (Typed.blk hZ) (by decide)⟩)).mono (Q := fun b => w.heap.size ≤ b ∧ b < W.heap.size) (fun b hb => ⟨by have := hb.1; change na < b at this; omega, hb.2.lt⟩)
    have hW9 := hW.trans (hoS.below (B := w.heap.size) (by have := hW.size; omega) (fun b hb e => by change b = sb at e; omega))
    have HSB := Lib.hid hSB
    have HG9 := Lib.hid hG9
    have HLS := Lib.hid hls9
    have HW9 := Lib.hid hW9
    have hsz9 := hoS.size
    clear hSB hoS hG9 hls9 hW9 hZ hG hW hR
    refine Front.one (i := 10) (by kernel_rfl) (by decide) ?_
    refine FrontStep.of rfl (fun K hK => ?_)
    go_simp
    refine hK _ _ ⟨HG9.out.cellAt (i := 0) rfl, HG9.out.cellAt (i := 1) rfl, HG9.out.cellAt (i := 2) rfl⟩ ?_
    clear K hK z0 z1 z2 z3 z4 z5 z6 f0 f1 f2 f3 f4 f5 f6
    refine Front.done (by kernel_rfl) ?_
    simp only [List.drop_succ_cons, List.drop_zero]
    have k6 := HSB.out.cellAt (i := 6) rfl
    go_wp2
    go_ret
    exact ⟨_, rfl, HLS.out.mono (fun b hb => ⟨hb.1, Nat.lt_of_lt_of_le hb.2 hsz9⟩), HW9.out⟩

set_option maxRecDepth 100000 in
set_option maxHeartbeats 4000000 in
theorem rorder_ok (B : Nat) (w : World) (v : Value) (n : Nat) (exit : Int) (E : List (Nat × Nat)) (hv : Edges B w v (castE E)) (hB : B ≤ w.heap.size) (hg : GOk n exit E) (hc : chk (n : Int) exit (castE E) = 0) (k : Nat) (r : RRes)
    (hr : enterR E k ⟨List.replicate n 0, 0, [], []⟩ 0 = some r) :
    Calls Tryd.prog 13 #[.agg #[.int .i64 (n : Int), .int .i64 exit, v]] w fun en w' => ∃ vo, en = .returned (.tuple #[vo, .int .i64 0]) ∧ Els (fun b => w.heap.size ≤ b ∧ b < w'.heap.size) w' vo r.1.list ∧ Below w.heap.size w w' := by
  obtain ⟨A, c, rfl, hlc, -, hm, hes⟩ := id hv.shape
  have hlen0 : (castE E).length = E.length := castE_length E
  rw [hlen0] at hv ⊢
  have hcheck := fun w1 (h1 : Below w.heap.size w w1) => rcheck_any B w1 n exit _ _ (hv.below (h1.mono hB)) (by have := h1.size; omega)
  have hord := fun w1 (h1 : Below w.heap.size w w1) => ordered_ok B w1 _ n exit E (hv.below (h1.mono hB)) (by have := h1.size; omega) hg k r hr
  rw [hc] at hcheck
  have hg0 := Blk.newAt w 24 #[.int .i64 (n : Int), .int .i64 exit, .slice A E.length c] rfl
  have hb0 := (Below.refl w.heap.size w).alloc (Nat.le_refl _) (.cells #[.int .i64 (n : Int), .int .i64 exit, .slice A E.length c] 24)
  have HC := Lib.hid hcheck
  have HO := Lib.hid hord
  have HG0 := Lib.hid hg0
  have HB0 := Lib.hid hb0
  clear hcheck hord hes hv hg hr hc hg0 hb0 hlen0 hlc hm
  go_enter Tryd.func13, Tryd.ntmps13
  go_wp2_with (first | (go_at_call 41; refine (HC.out _ HB0.out).mono ?_; rintro en w1 ⟨rfl, hb1⟩; have hg1 := HG0.out.below hb1 HG0.out.lt; have c0 := hg1.cellAt (i := 0) rfl; have c1 := hg1.cellAt (i := 1) rfl; have c2 := hg1.cellAt (i := 2) rfl) | (go_at_call 42; refine (HO.out _ (HB0.out.trans (hb1.mono HB0.out.size))).mono ?_; rintro en w2 ⟨vo, rfl, hels, hb2⟩))
  go_ret2
  have hb1' : Below w.heap.size w w1 := HB0.out.trans (hb1.mono HB0.out.size)
  exact ⟨_, rfl, hels.mono (fun b hb => ⟨Nat.le_trans hb1'.size hb.1, hb.2⟩), hb1'.trans (hb2.mono hb1'.size)⟩
end Go.Proofs.YthaampinmelgaaaDoor

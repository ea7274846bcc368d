/- The reference's Same at lists that are read alike. -/
import Derived.Test.YthaampinmelgaaaDoorOf
import Derived.Deep.QuietTactic
import Derived.BigQuiet
namespace Go.Proofs.YthaampinmelgaaaDoor
open Go.RowKit Go.Shelf

theorem quiet_more {P : Program} {f : FuncId} {args : Array Value} {W : World} {nq x : Nat} {v : Value} (h : Calls P f args (W.drewN (nq + x)) fun e w' => e = .returned v ∧ ∃ n, w' = (W.drewN (nq + x)).drewN n) :
    Calls P f args (W.drewN (nq + x)) fun e w' => e = .returned v ∧ ∃ n, w' = W.drewN (nq + n) := by
  refine h.mono ?_
  rintro e w' ⟨he, n, rfl⟩
  exact ⟨he, x + n, by rw [World.drewN_drewN, Nat.add_assoc]⟩

set_option maxRecDepth 100000 in
set_option maxHeartbeats 4000000 in
theorem same_true {P : Nat → Prop} {w : World} {v : Value} {l : List El} (h : Els P w v l) : ∀ {Q : Nat → Prop} {v2 : Value}, Els Q w v2 l → ∀ W : World, (∀ p : Addr, W.cell? p = w.cell? p) →
    Calls Tryd.prog 14 #[v, v2] W fun en w' => en = .returned (.bool true) ∧ ∃ n, w' = W.drewN n := by
  induction h with
  | mk A c l us hlc hm hz hc hr ih =>
    intro Q v2 h2 W hW
    have HW := Lib.hid hW
    obtain ⟨A2, c2, rfl, -, -, -, hc2⟩ := h2.shape
    have HC := Lib.hid hc
    have HC2 := Lib.hid hc2
    have HIH := Lib.hid ih
    have HR := Lib.hid hr
    have hl63 : l.length ≤ 9223372036854775807 := by unfold maxLen at hm; omega
    clear hc hr ih hc2 hm h2 hW
    go_enter Tryd.func14, Tryd.ntmps14
    go_wp2
    go_loopw [5] (fun y wr => ∃ (m : Nat), m ≤ l.length ∧ y = .int .i64 m ∧ ∃ n, wr = W.drewN n) (fun y _ => l.length - (intOf y).toNat)
    case atStart => exact ⟨0, Nat.zero_le _, rfl, 0, rfl⟩
    case round =>
      obtain ⟨m, hm, rfl, nq, rfl⟩ := hrel
      by_cases hlt : m < l.length
      · obtain ⟨x, hx⟩ : ∃ x, l[m]? = some x := ⟨_, List.getElem?_eq_getElem hlt⟩
        obtain ⟨ad, hA, hPad, e0, e1, e2, hI⟩ := HC.out m x hx
        obtain ⟨ad2, u2, hA2, hQ2, b0, b1, b2, -, hb2⟩ := HC2.out m x hx
        subst hA
        subst hA2
        have hih := HIH.out m x hx hb2
        obtain ⟨Au, cu, hu, -⟩ := (HR.out m x hx).shape
        obtain ⟨Au2, cu2, hu2, -⟩ := hb2.shape
        rw [hu] at e2 hih
        rw [hu2] at b2 hih
        rw [← add_add', addrOne] at e1 b1
        rw [← add_add', addrTwo] at e2 b2
        clear hu hu2
        obtain ⟨p, c, body⟩ := x
        simp only [El.p, El.c, El.body] at e0 e1 e2 b0 b1 b2 hih hI
        have c0 : ∀ t, (W.drewN t).cell? (ad.add (m * 3)) = some (.int .i64 p) := fun t => (HW.out _).trans e0
        have c1 : ∀ t, (W.drewN t).cell? ⟨(ad.add (m * 3)).block, (ad.add (m * 3)).off + 1, none⟩ = some (.bool c) := fun t => (HW.out _).trans e1
        have c2' : ∀ t, (W.drewN t).cell? ⟨(ad.add (m * 3)).block, (ad.add (m * 3)).off + 2, none⟩ = some (.slice Au body.length cu) := fun t => (HW.out _).trans e2
        have d0 : ∀ t, (W.drewN t).cell? (ad2.add (m * 3)) = some (.int .i64 p) := fun t => (HW.out _).trans b0
        have d1 : ∀ t, (W.drewN t).cell? ⟨(ad2.add (m * 3)).block, (ad2.add (m * 3)).off + 1, none⟩ = some (.bool c) := fun t => (HW.out _).trans b1
        have d2 : ∀ t, (W.drewN t).cell? ⟨(ad2.add (m * 3)).block, (ad2.add (m * 3)).off + 2, none⟩ = some (.slice Au2 body.length cu2) := fun t => (HW.out _).trans b2
        have hlt1 : (m : Int) < (l.length : Int) := by omega
        have HI := Lib.hid hih
        clear hih e0 e1 e2 b0 b1 b2 hI hb2 hx hPad hQ2
        go_upto_region 6 with fail
        go_quiet ((go_at_call 14; exact quiet_more (HI.out _ (fun q => HW.out q))))
        rw [World.drewN_drewN]
        go_wp2
        go_roundw
        case rel => exact ⟨m + 1, by omega, by go_num, _, rfl⟩
        case measure => simp [intOf]; omega
      · obtain rfl : m = l.length := by omega
        go_wp2
        go_ret
        exact ⟨rfl, nq, rfl⟩
end Go.Proofs.YthaampinmelgaaaDoor

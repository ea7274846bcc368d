/- The law GraphDominators, walked. -/
import Derived.Test.YtngfoinceakgdaaRefDom
import Derived.Test.YtngfoinceakgdaaImmT
import Derived.Test.YtngfoinceakgdaaAwake
import Derived.Test.YtngfoinceakgdaaGV
namespace Go.Proofs.Ytngfoinceakgdaa
open Go.RowKit Go.Shelf

/-- What the program and the reference return, the same. -/
theorem dom_pair (n exit : Int) (es : List (Int × Int)) : ∃ (R : List Int) (e : Int),
    (∀ (B : Nat) (w : World) (v : Value), Edges B w v es → B ≤ w.heap.size → Calls Try.prog 18 #[.agg #[.int .i64 n, .int .i64 exit, v]] w fun en w' => ∃ vo, en = .returned (.tuple #[vo, .int .i64 e]) ∧ Ints w'.heap.size w' vo R ∧ Below w.heap.size w w') ∧
    (∀ (B : Nat) (w : World) (v : Value), Edges B w v es → B ≤ w.heap.size → Calls Try.prog 19 #[.agg #[.int .i64 n, .int .i64 exit, v]] w fun en w' => ∃ vo, en = .returned (.tuple #[vo, .int .i64 e]) ∧ Ints w'.heap.size w' vo R ∧ Below w.heap.size w w') := by
  by_cases hc : chk n exit es = 0
  · obtain ⟨N, E, rfl, rfl, hg⟩ := chk_ok hc
    refine ⟨_, 0, fun B w v hv hB => ?_, fun B w v hv hB => rdom_ok B w v N exit E hv hB hg⟩
    refine (dom_sem B w v hv hB hg).mono ?_
    rintro en w' ⟨vo, res, he, hi, hd, hw⟩
    exact ⟨vo, he, by rw [imm_dom hg hd]; exact hi, hw⟩
  · exact ⟨[], chk n exit es, fun B w v hv hB => (dominatorsG_bad B w v n exit es hv hB hc).mono fun en w' h => ⟨_, h.1, Sl.nil _ _ _, h.2⟩, fun B w v hv hB => (rdom_bad B w v n exit es hv hB hc).mono fun en w' h => ⟨_, h.1, Sl.nil _ _ _, h.2⟩⟩
theorem pdom_pair (n exit : Int) (es : List (Int × Int)) : ∃ (R : List Int) (e : Int),
    (∀ (B : Nat) (w : World) (v : Value), Edges B w v es → B ≤ w.heap.size → Calls Try.prog 20 #[.agg #[.int .i64 n, .int .i64 exit, v]] w fun en w' => ∃ vo, en = .returned (.tuple #[vo, .int .i64 e]) ∧ Ints w'.heap.size w' vo R ∧ Below w.heap.size w w') ∧
    (∀ (B : Nat) (w : World) (v : Value), Edges B w v es → B ≤ w.heap.size → Calls Try.prog 21 #[.agg #[.int .i64 n, .int .i64 exit, v]] w fun en w' => ∃ vo, en = .returned (.tuple #[vo, .int .i64 e]) ∧ Ints w'.heap.size w' vo R ∧ Below w.heap.size w w') := by
  by_cases hc : chk n exit es = 0
  · obtain ⟨N, E, rfl, rfl, hg⟩ := chk_ok hc
    have hx0 := hg.x0
    have hxn := hg.xn
    have hx : exit = (exit.toNat : Int) := by omega
    refine ⟨_, 0, fun B w v hv hB => ?_, fun B w v hv hB => rpdom_ok B w v N exit.toNat exit hx E hv hB hg⟩
    refine (pdom_sem B w v hv hB hg exit.toNat hx).mono ?_
    rintro en w' ⟨vo, res, he, hi, hd, hw⟩
    exact ⟨vo, he, by rw [imm_pdom hg (by omega) hd]; exact hi, hw⟩
  · exact ⟨[], chk n exit es, fun B w v hv hB => (postdominatorsG_bad B w v n exit es hv hB hc).mono fun en w' h => ⟨_, h.1, Sl.nil _ _ _, h.2⟩, fun B w v hv hB => (rpdom_bad B w v n exit es hv hB hc).mono fun en w' h => ⟨_, h.1, Sl.nil _ _ _, h.2⟩⟩

set_option maxRecDepth 100000 in
set_option maxHeartbeats 1000000 in
theorem dominatorsL_any (w : World) (v : Value) (n exit : Int) (es : List (Int × Int)) (hv : Edges w.heap.size w v es) :
    Calls Try.prog 4 #[.agg #[.int .i64 n, .int .i64 exit, v]] w fun en w' => en = .returned (.bool true) ∧ Below w.heap.size w w' := by
  obtain ⟨R, e, hp1, hp2⟩ := dom_pair n exit es
  obtain ⟨R2, e2, hp3, hp4⟩ := pdom_pair n exit es
  have hfw := fun (W : World) (h : GV w W n exit v) => few_any W.heap.size W n exit v es (h.edges hv)
  have h1 := fun (W : World) (h : GV w W n exit v) => hp1 W.heap.size W v (h.edges hv) (Nat.le_refl _)
  have h2 := fun (W : World) (h : GV w W n exit v) => hp2 W.heap.size W v (h.edges hv) (Nat.le_refl _)
  have h3 := fun (W : World) (h : GV w W n exit v) => hp3 W.heap.size W v (h.edges hv) (Nat.le_refl _)
  have h4 := fun (W : World) (h : GV w W n exit v) => hp4 W.heap.size W v (h.edges hv) (Nat.le_refl _)
  have hg0 := GV.start w n exit v
  have HF := Lib.hid hfw
  have H1 := Lib.hid h1
  have H2 := Lib.hid h2
  have H3 := Lib.hid h3
  have H4 := Lib.hid h4
  obtain ⟨A, c, rfl, hlc, -, hm, -⟩ := hv.shape
  clear hp1 hp2 hp3 hp4 hfw h1 h2 h3 h4 hv
  cases hb : few n es with
  | false =>
    rw [hb] at HF
    clear hb
    go_enter Try.func4, Try.ntmps4
    go_wp2_with (first
      | (go_at_call 13; refine (HF.out _ hg0).mono ?_; rintro en w1 ⟨rfl, hw1⟩; have hg1 := hg0.step hw1)
      | (go_at_call 14; refine (awake_any w1).mono ?_; rintro en w2 ⟨rfl, hw2⟩; have hg2 := hg1.step hw2))
    go_ret
    exact ⟨rfl, hg2.bel⟩
  | true =>
    rw [hb] at HF
    clear hb
    go_enter Try.func4, Try.ntmps4
    go_wp2_with (first
      | (go_at_call 13; refine (HF.out _ hg0).mono ?_; rintro en w1 ⟨rfl, hw1⟩; have hg1 := hg0.step hw1; obtain ⟨c0, c1, c2⟩ := hg1.cells)
      | (go_at_call 18; refine (H1.out _ hg1).mono ?_; rintro en w2 ⟨va, rfl, hva, hw2⟩; have hg2 := hg1.step hw2; clear c0 c1 c2; obtain ⟨c0, c1, c2⟩ := hg2.cells)
      | (go_at_call 19; refine (H2.out _ hg2).mono ?_; rintro en w3 ⟨vb, rfl, hvb, hw3⟩; have hg3 := hg2.step hw3; have hva3 := (Ints.below hva hw3).more hw3.size; clear c0 c1 c2; obtain ⟨c0, c1, c2⟩ := hg3.cells)
      | (go_at_call 20; refine (H3.out _ hg3).mono ?_; rintro en w4 ⟨vc, rfl, hvc, hw4⟩; have hg4 := hg3.step hw4; have hva4 := (Ints.below hva3 hw4).more hw4.size; have hvb4 := (Ints.below hvb hw4).more hw4.size; clear c0 c1 c2; obtain ⟨c0, c1, c2⟩ := hg4.cells)
      | (go_at_call 21; refine (H4.out _ hg4).mono ?_; rintro en w5 ⟨vd, rfl, hvd, hw5⟩; have hg5 := hg4.step hw5; have hva5 := (Ints.below hva4 hw5).more hw5.size; have hvb5 := (Ints.below hvb4 hw5).more hw5.size; have hvc5 := (Ints.below hvc hw5).more hw5.size)
      | (go_at_call 14; refine (awake_any w5).mono ?_; rintro en w6 ⟨rfl, hw6⟩; have hg6 := hg5.step hw6; have hva6 := (Ints.below hva5 hw6).more hw6.size; have hvb6 := (Ints.below hvb5 hw6).more hw6.size; have hvc6 := (Ints.below hvc5 hw6).more hw6.size; have hvd6 := (Ints.below hvd hw6).more hw6.size)
      | (go_at_call 17; (with_reducible refine (equalI_any w6.heap.size w6 va vb R R hva6 hvb6).mono ?_); rintro en w7 ⟨rfl, hw7⟩; have hg7 := hg6.only hw7)
      | (go_at_call 17; (with_reducible refine (equalI_any w6.heap.size w7 vc vd R2 R2 (Ints.only hvc6 hw7 (Nat.le_refl _)) (Ints.only hvd6 hw7 (Nat.le_refl _))).mono ?_); rintro en w8 ⟨rfl, hw8⟩; have hg8 := hg7.only hw8))
    go_ret
    exact ⟨rfl, hg8.bel⟩
end Go.Proofs.Ytngfoinceakgdaa

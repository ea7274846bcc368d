/- The law GraphComponents, walked. -/
import Derived.Test.YtngfoinceakgdaaNumbered
import Derived.Test.YtngfoinceakgdaaNumT
import Derived.Test.YtngfoinceakgdaaAwake
import Derived.Test.YtngfoinceakgdaaGV
namespace Go.Proofs.Ytngfoinceakgdaa
open Go.RowKit Go.Shelf

/-- What the program and the reference return, the same. -/
theorem comp_pair (n exit : Int) (es : List (Int × Int)) : ∃ (R : List Int) (e : Int),
    (∀ (B : Nat) (w : World) (v : Value), Edges B w v es → B ≤ w.heap.size → Calls Try.prog 15 #[.agg #[.int .i64 n, .int .i64 exit, v]] w fun en w' => ∃ vo, en = .returned (.tuple #[vo, .int .i64 e]) ∧ Ints w'.heap.size w' vo R ∧ Below w.heap.size w w') ∧
    (∀ (B : Nat) (w : World) (v : Value), Edges B w v es → B ≤ w.heap.size → Calls Try.prog 16 #[.agg #[.int .i64 n, .int .i64 exit, v]] w fun en w' => ∃ vo, en = .returned (.tuple #[vo, .int .i64 e]) ∧ Ints w'.heap.size w' vo R ∧ Below w.heap.size w w') := by
  by_cases hc : chk n exit es = 0
  · obtain ⟨N, E, rfl, rfl, hg⟩ := chk_ok hc
    have hxs : ∀ x ∈ List.range N, x < N := fun x hx => List.mem_range.1 hx
    have hn1 := hg.n1
    obtain ⟨t, ht, h1, h2, h3, h4⟩ := hg.dfs0 (List.range N) hxs (2 * N + 1) (by omega)
    obtain ⟨r, hr, hgs, -, -⟩ := groups_total hg.next_lt (hg.next_rev_lt 0) (fun p q hp hq => (mem_next hp).trans (mem_next_rev hq).symm) (k := 2 * N + 1) (by omega) ht (by omega)
    refine ⟨compF (shapeOf N E) (sortG r.2), 0, fun B w v hv hB => ?_, fun B w v hv hB => rcomp_ok B w v N exit E hv hB hg _ (comp_same hg hgs)⟩
    refine (comp_sem B w v hv hB hg).mono ?_
    rintro en w' ⟨vo, gs, he, hi, hgs2, hw⟩
    refine ⟨vo, he, ?_, hw⟩
    have e1 := comp_same hg hgs
    rw [comp_same hg hgs2] at e1
    rw [← Option.some.inj e1]
    exact hi
  · exact ⟨[], chk n exit es, fun B w v hv hB => (components_bad B w v n exit es hv hB hc).mono fun en w' h => ⟨_, h.1, Sl.nil _ _ _, h.2⟩, fun B w v hv hB => (rcomp_bad B w v n exit es hv hB hc).mono fun en w' h => ⟨_, h.1, Sl.nil _ _ _, h.2⟩⟩

set_option maxRecDepth 100000 in
set_option maxHeartbeats 1000000 in
theorem componentsL_any (w : World) (v : Value) (n exit : Int) (es : List (Int × Int)) (hv : Edges w.heap.size w v es) :
    Calls Try.prog 3 #[.agg #[.int .i64 n, .int .i64 exit, v]] w fun en w' => en = .returned (.bool true) ∧ Below w.heap.size w w' := by
  obtain ⟨R, e, hp1, hp2⟩ := comp_pair n exit es
  have hfw := fun (W : World) (h : GV w W n exit v) => few_any W.heap.size W n exit v es (h.edges hv)
  have h1 := fun (W : World) (h : GV w W n exit v) => hp1 W.heap.size W v (h.edges hv) (Nat.le_refl _)
  have h2 := fun (W : World) (h : GV w W n exit v) => hp2 W.heap.size W v (h.edges hv) (Nat.le_refl _)
  have hg0 := GV.start w n exit v
  have HF := Lib.hid hfw
  have H1 := Lib.hid h1
  have H2 := Lib.hid h2
  obtain ⟨A, c, rfl, hlc, -, hm, -⟩ := hv.shape
  clear hp1 hp2 hfw h1 h2 hv
  cases hb : few n es with
  | false =>
    rw [hb] at HF
    clear hb
    go_enter Try.func3, Try.ntmps3
    go_wp2_with (first
      | (go_at_call 13; refine (HF.out _ hg0).mono ?_; rintro en w1 ⟨rfl, hw1⟩; have hg1 := hg0.step hw1)
      | (go_at_call 14; refine (awake_any w1).mono ?_; rintro en w2 ⟨rfl, hw2⟩; have hg2 := hg1.step hw2))
    go_ret
    exact ⟨rfl, hg2.bel⟩
  | true =>
    rw [hb] at HF
    clear hb
    go_enter Try.func3, Try.ntmps3
    go_wp2_with (first
      | (go_at_call 13; refine (HF.out _ hg0).mono ?_; rintro en w1 ⟨rfl, hw1⟩; have hg1 := hg0.step hw1; obtain ⟨c0, c1, c2⟩ := hg1.cells)
      | (go_at_call 15; refine (H1.out _ hg1).mono ?_; rintro en w2 ⟨va, rfl, hva, hw2⟩; have hg2 := hg1.step hw2; clear c0 c1 c2; obtain ⟨c0, c1, c2⟩ := hg2.cells)
      | (go_at_call 16; refine (H2.out _ hg2).mono ?_; rintro en w3 ⟨vb, rfl, hvb, hw3⟩; have hg3 := hg2.step hw3; have hva3 := (Ints.below hva hw3).more hw3.size)
      | (go_at_call 14; refine (awake_any w3).mono ?_; rintro en w4 ⟨rfl, hw4⟩; have hg4 := hg3.step hw4; have hva4 := (Ints.below hva3 hw4).more hw4.size; have hvb4 := (Ints.below hvb hw4).more hw4.size)
      | (go_at_call 17; refine (equalI_any w4.heap.size w4 va vb R R hva4 hvb4).mono ?_; rintro en w5 ⟨rfl, hw5⟩; have hg5 := hg4.only hw5))
    go_ret
    exact ⟨rfl, hg5.bel⟩
end Go.Proofs.Ytngfoinceakgdaa

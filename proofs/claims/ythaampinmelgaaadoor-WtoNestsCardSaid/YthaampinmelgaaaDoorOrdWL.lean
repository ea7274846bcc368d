/- The law WtoOrders, walked. -/
import Derived.Test.YthaampinmelgaaaDoorAwk
import Derived.Test.YthaampinmelgaaaDoorSame
import Derived.Test.YthaampinmelgaaaDoorROrd
import Derived.Test.YthaampinmelgaaaDoorGV
namespace Go.Proofs.YthaampinmelgaaaDoor
open Go.RowKit Go.Shelf

/-- What the program and the reference return, the same. -/
theorem order_pair (n exit : Int) (es : List (Int × Int)) : ∃ (L : List El) (e : Int),
    (∀ (B : Nat) (w : World) (v : Value), Edges B w v es → B ≤ w.heap.size → Calls Tryd.prog 12 #[.agg #[.int .i64 n, .int .i64 exit, v]] w fun en w' => ∃ vo, en = .returned (.tuple #[vo, .int .i64 e]) ∧ EL w' vo L ∧ Below w.heap.size w w') ∧
    (∀ (B : Nat) (w : World) (v : Value), Edges B w v es → B ≤ w.heap.size → Calls Tryd.prog 13 #[.agg #[.int .i64 n, .int .i64 exit, v]] w fun en w' => ∃ vo, en = .returned (.tuple #[vo, .int .i64 e]) ∧ EL w' vo L ∧ Below w.heap.size w w') := by
  by_cases hc : chk n exit es = 0
  · obtain ⟨N, E, rfl, rfl, hg⟩ := chk_ok hc
    obtain ⟨k, r, hr, ⟨t, ht, htl⟩, -, hlen, -⟩ := order_plain hg.lt hg.n1 hg.n512
    refine ⟨r.2.1, 0, fun B w v hv hB => ?_, fun B w v hv hB => ?_⟩
    · refine (order_ok B w v N exit E hv hB hg k r hr (by omega)).mono ?_
      rintro en w' ⟨vo, he, h1, h2⟩
      exact ⟨vo, he, h1.mono (fun b hb => hb.2), h2⟩
    · refine (rorder_ok B w v N exit E hv hB hg hc k t ht).mono ?_
      rintro en w' ⟨vo, he, h1, h2⟩
      rw [htl] at h1
      exact ⟨vo, he, h1.mono (fun b hb => hb.2), h2⟩
  · exact ⟨[], chk n exit es, fun B w v hv hB => (order_bad B w v n exit es hv hB hc).mono fun en w' h => ⟨_, h.1, Els.nil, h.2⟩, fun B w v hv hB => (rorder_bad B w v n exit es hv hB hc).mono fun en w' h => ⟨_, h.1, Els.nil, h.2⟩⟩

set_option maxRecDepth 100000 in
set_option maxHeartbeats 2000000 in
theorem ordersL_any (w : World) (v : Value) (n exit : Int) (es : List (Int × Int)) (hv : Edges w.heap.size w v es) :
    Calls Tryd.prog 3 #[.agg #[.int .i64 n, .int .i64 exit, v]] w fun en w' => en = .returned (.bool true) ∧ Below w.heap.size w w' := by
  obtain ⟨L, e, hp1, hp2⟩ := order_pair n exit es
  have hfw := fun (W : World) (h : GV w W n exit v) => few_any W.heap.size W n exit v es (h.edges hv)
  have h1 := fun (W : World) (h : GV w W n exit v) => hp1 W.heap.size W v (h.edges hv) (Nat.le_refl _)
  have h2 := fun (W : World) (h : GV w W n exit v) => hp2 W.heap.size W v (h.edges hv) (Nat.le_refl _)
  have hg0 := GV.start w n exit v
  have HF := Lib.hid hfw
  have H1 := Lib.hid h1
  have H2 := Lib.hid h2
  obtain ⟨A, c, rfl, hlc, -, hm, -⟩ := hv.shape
  clear hp1 hp2 hfw h1 h2 hv
  cases hb : few n es with
  | false =>
    rw [hb] at HF
    clear hb
    go_enter Tryd.func3, Tryd.ntmps3
    go_wp2_with (first
      | (go_at_call 10; refine (HF.out _ hg0).mono ?_; rintro en w1 ⟨rfl, hw1⟩; have hg1 := hg0.step hw1)
      | (go_at_call 11; refine (awake_any w1).mono ?_; rintro en w2 ⟨rfl, hw2⟩; have hg2 := hg1.step hw2))
    go_ret
    exact ⟨rfl, hg2.bel⟩
  | true =>
    rw [hb] at HF
    clear hb
    go_enter Tryd.func3, Tryd.ntmps3
    go_wp2_with (first
      | (go_at_call 10; refine (HF.out _ hg0).mono ?_; rintro en w1 ⟨rfl, hw1⟩; have hg1 := hg0.step hw1; obtain ⟨c0, c1, c2⟩ := hg1.cells)
      | (go_at_call 12; refine (H1.out _ hg1).mono ?_; rintro en w2 ⟨va, rfl, hva, hw2⟩; have hg2 := hg1.step hw2; clear c0 c1 c2; obtain ⟨c0, c1, c2⟩ := hg2.cells)
      | (go_at_call 13; refine (H2.out _ hg2).mono ?_; rintro en w3 ⟨vb, rfl, hvb, hw3⟩; have hg3 := hg2.step hw3; have hva3 := EL.step hva hw3)
      | (go_at_call 15; refine (of_any hva3 w3 (fun _ _ => rfl) (fun _ h => h)).mono ?_; rintro en w4 ⟨vc, rfl, hvc, hw4⟩; have hg4 := hg3.step hw4; have hvb4 := EL.step hvb hw4)
      | (go_at_call 14; refine (same_true hvc hvb4 w4 (fun _ => rfl)).mono ?_; rintro en w5 ⟨rfl, t, rfl⟩; have hg5 := hg4.drewN t)
      | (go_at_call 11; refine (awake_any _).mono ?_; rintro en w6 ⟨rfl, hw6⟩; have hg6 := hg5.step hw6))
    go_ret
    exact ⟨rfl, hg6.bel⟩
end Go.Proofs.YthaampinmelgaaaDoor

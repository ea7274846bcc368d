/- The reference: Dominators, Postdominators. -/
import Derived.Test.YtngfoinceakgdaaImm
import Derived.Deep.RegionHeld3
namespace Go.Proofs.Ytngfoinceakgdaa
open Go.RowKit Go.Shelf

section
variable (B : Nat) (w : World) (v : Value)
set_option maxRecDepth 100000
set_option maxHeartbeats 1000000
theorem rdom_bad (n exit : Int) (es : List (Int × Int)) (hv : Edges B w v es) (hB : B ≤ w.heap.size) (hc : chk n exit es ≠ 0) :
    Calls Try.prog 19 #[.agg #[.int .i64 n, .int .i64 exit, v]] w fun en w' => en = .returned (.tuple #[.slice none 0 0, .int .i64 (chk n exit es)]) ∧ Below w.heap.size w w' := by
  obtain ⟨A, c, rfl, hlc, -, hm, hes⟩ := id hv.shape
  have hcheck := fun w1 (h1 : Below w.heap.size w w1) => rcheck_any B w1 n exit _ es (hv.below (h1.mono hB)) (by have := h1.size; omega)
  have HC := Lib.hid hcheck
  clear hcheck hes hv
  go_enter Try.func19, Try.ntmps19
  go_wp2_with (go_at_call 32; refine (HC.out _ ((Below.refl _ _).alloc (Nat.le_refl _) _)).mono ?_; rintro en w1 ⟨rfl, hb1⟩)
  go_ret2
  exact ⟨rfl, ((Below.refl _ _).alloc (Nat.le_refl _) _).trans (hb1.mono (by simp))⟩
theorem rpdom_bad (n exit : Int) (es : List (Int × Int)) (hv : Edges B w v es) (hB : B ≤ w.heap.size) (hc : chk n exit es ≠ 0) :
    Calls Try.prog 21 #[.agg #[.int .i64 n, .int .i64 exit, v]] w fun en w' => en = .returned (.tuple #[.slice none 0 0, .int .i64 (chk n exit es)]) ∧ Below w.heap.size w w' := by
  obtain ⟨A, c, rfl, hlc, -, hm, hes⟩ := id hv.shape
  have hcheck := fun w1 (h1 : Below w.heap.size w w1) => rcheck_any B w1 n exit _ es (hv.below (h1.mono hB)) (by have := h1.size; omega)
  have HC := Lib.hid hcheck
  clear hcheck hes hv
  go_enter Try.func21, Try.ntmps21
  go_wp2_with (go_at_call 32; refine (HC.out _ ((Below.refl _ _).alloc (Nat.le_refl _) _)).mono ?_; rintro en w1 ⟨rfl, hb1⟩)
  go_ret2
  exact ⟨rfl, ((Below.refl _ _).alloc (Nat.le_refl _) _).trans (hb1.mono (by simp))⟩
theorem rdom_ok (n : Nat) (exit : Int) (E : List (Nat × Nat)) (hv : Edges B w v (castE E)) (hB : B ≤ w.heap.size) (hg : GOk n exit E) :
    Calls Try.prog 19 #[.agg #[.int .i64 (n : Int), .int .i64 exit, v]] w fun en w' => ∃ vo, en = .returned (.tuple #[vo, .int .i64 0]) ∧ Ints w'.heap.size w' vo ((List.range n).map (immF n (domB n E 0))) ∧ Below w.heap.size w w' := by
  obtain ⟨A, c, rfl, hlc, -, hm, hes⟩ := id hv.shape
  have hcheck := fun w1 (h1 : Below w.heap.size w w1) => rcheck_any B w1 n exit _ _ (hv.below (h1.mono hB)) (by have := h1.size; omega)
  have himm := fun w1 (h1 : Below w.heap.size w w1) => immediate_any B w1 _ n exit E (hv.below (h1.mono hB)) (by have := h1.size; omega) hg.n512 hg.lt hg.len 0 hg.n1
  rw [hg.chk] at hcheck
  have HC := Lib.hid hcheck
  have HN := Lib.hid himm
  have hb0 := (Below.refl w.heap.size w).alloc (Nat.le_refl _) (.cells #[.int .i64 (n : Int), .int .i64 exit, .slice A (castE E).length c] 24)
  have hg0 := Blk.newAt w 24 #[.int .i64 (n : Int), .int .i64 exit, .slice A (castE E).length c] rfl
  clear hcheck himm hes hv
  go_enter Try.func19, Try.ntmps19
  go_wp2_with (first | (go_at_call 32; refine (HC.out _ hb0).mono ?_; rintro en w1 ⟨rfl, hb1⟩; have hg1 := hg0.below hb1 (by rw [World.size_alloc]; omega); have hb2 := hb0.trans (hb1.mono (by rw [World.size_alloc]; omega)); have c0 := hg1.cellAt (i := 0) rfl; have c1 := hg1.cellAt (i := 1) rfl; have c2 := hg1.cellAt (i := 2) rfl) | (go_at_call 53; refine (HN.out _ hb2).mono ?_; rintro en w2 ⟨vo, rfl, hvo, hb3⟩))
  go_ret2
  exact ⟨_, rfl, hvo, hb2.trans (hb3.mono hb2.size)⟩
theorem rpdom_ok (n x : Nat) (exit : Int) (hx : exit = (x : Int)) (E : List (Nat × Nat)) (hv : Edges B w v (castE E)) (hB : B ≤ w.heap.size) (hg : GOk n exit E) :
    Calls Try.prog 21 #[.agg #[.int .i64 (n : Int), .int .i64 exit, v]] w fun en w' => ∃ vo, en = .returned (.tuple #[vo, .int .i64 0]) ∧ Ints w'.heap.size w' vo ((List.range n).map (immF n (domB n (swapE E) x))) ∧ Below w.heap.size w w' := by
  subst hx
  obtain ⟨A, c, rfl, hlc, -, hm, hes⟩ := id hv.shape
  have hxn : x < n := by have := hg.xn; omega
  have hle := hg.len
  have hcheck := fun w1 (h1 : Below w.heap.size w w1) => rcheck_any B w1 n (x : Int) _ _ (hv.below (h1.mono hB)) (by have := h1.size; omega)
  have hturn := fun w1 (h1 : Below w.heap.size w w1) => turned_any B w1 _ n (x : Int) E (hv.below (h1.mono hB)) (by have := h1.size; omega) hle
  have himm := fun (w1 : World) (v1 : Value) (h1 : Edges w1.heap.size w1 v1 (castE (swapE E))) => immediate_any w1.heap.size w1 v1 n (x : Int) (swapE E) h1 (Nat.le_refl _) hg.n512 hg.swap.lt hg.swap.len x hxn
  rw [hg.chk] at hcheck
  have HC := Lib.hid hcheck
  have HT := Lib.hid hturn
  have HN := Lib.hid himm
  have hb0 := (Below.refl w.heap.size w).alloc (Nat.le_refl _) (.cells #[.int .i64 (n : Int), .int .i64 (x : Int), .slice A (castE E).length c] 24)
  have hg0 := Blk.newAt w 24 #[.int .i64 (n : Int), .int .i64 (x : Int), .slice A (castE E).length c] rfl
  clear hcheck hturn himm hes hv
  go_enter Try.func21, Try.ntmps21
  go_upto_region 4 with (go_at_call 32; refine (HC.out _ hb0).mono ?_; rintro en w1 ⟨rfl, hb1⟩; have hg1 := hg0.below hb1 (by rw [World.size_alloc]; omega); have hb2 := hb0.trans (hb1.mono (by rw [World.size_alloc]; omega)); have c0 := hg1.cellAt (i := 0) rfl; have c1 := hg1.cellAt (i := 1) rfl; have c2 := hg1.cellAt (i := 2) rfl)
  have hb2d := hb2.drew
  have hg1d := hg1.drew
  go_region_held3 (fun w' => w'.cell? ⟨w.heap.size, 0, none⟩ = some (.int .i64 (n : Int)) ∧ w'.cell? ⟨w.heap.size, 1, none⟩ = some (.int .i64 (x : Int)) ∧ w'.cell? ⟨w.heap.size, 2, none⟩ = some (.slice A (castE E).length c))
    (first | exact ⟨hg3.cellAt rfl, hg3.cellAt rfl, hg3.cellAt rfl⟩ | exact ⟨hg2.cellAt rfl, hg2.cellAt rfl, hg2.cellAt rfl⟩ | exact ⟨c0, c1, c2⟩)
    (first
      | (go_at_call 55; refine (HT.out _ hb2d).mono ?_; rintro en w2 ⟨v2, rfl, hv2, hb3⟩; have hb4 := hb2d.trans (hb3.mono hb2d.size); have hg2 := hg1d.below hb3 hg1d.lt)
      | (go_at_call 53; refine (HN.out _ v2 hv2).mono ?_; rintro en w3 ⟨vo, rfl, hvo, hb5⟩; have hg3 := hg2.below hb5 hg2.lt))
  go_wp2
  go_ret2
  exact ⟨_, rfl, hvo, hb4.trans (hb5.mono hb4.size)⟩
end
end Go.Proofs.Ytngfoinceakgdaa

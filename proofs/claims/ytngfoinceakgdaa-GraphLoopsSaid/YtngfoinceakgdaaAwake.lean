/- The laws' helper 'awake': the chapter's examples. -/
import Derived.Test.YtngfoinceakgdaaPlain2
import Derived.Test.YtngfoinceakgdaaEdges
import Derived.Test.YtngfoinceakgdaaEq
import Derived.Test.YtngfoinceakgdaaComp
import Derived.Test.YtngfoinceakgdaaRed2
import Derived.Test.YtngfoinceakgdaaLoops
namespace Go.Proofs.Ytngfoinceakgdaa
open Go.RowKit Go.Shelf

theorem getI_lt_of {l : List Int} {n : Nat} (hn : 0 < n) (h : ∀ x ∈ l, x < (n : Int)) (p : Nat) : getI l p < (n : Int) := by
  unfold getI
  rw [List.getD_eq_getElem?_getD]
  cases hp : l[p]? with
  | none => simp; omega
  | some x => exact h x (List.mem_of_getElem? hp)
theorem add_one' (a : Addr) : a.add 1 = ⟨a.block, a.off + 1, none⟩ := by unfold Addr.add; simp
theorem equal_true {B : Nat} {w : World} {v1 v2 : Value} {xs : List Int} (h1 : Ints B w v1 xs) (h2 : Ints B w v2 xs) :
    Calls Try.prog 17 #[v1, v2] w fun en w' => en = .returned (.bool true) ∧ Below w.heap.size w w' := by
  refine (equalI_any B w v1 v2 xs xs h1 h2).mono ?_
  rintro en w' ⟨rfl, ho⟩
  exact ⟨by simp, ho.below (Nat.le_refl _) (fun _ _ h => h)⟩
theorem ints_new (w : World) (l : List Int) (hl : l.length ≤ 1000) : Ints (w.alloc (.cells (l.map intV).toArray 3)).heap.size (w.alloc (.cells (l.map intV).toArray 3)) (.slice (some ⟨w.heap.size, 0, none⟩) l.length l.length) l :=
  Sl.of_blk (R := RInt) intV (fun _ _ => rfl) (Blk.new w 3 (l.map intV)) (Nat.le_refl _) (by unfold maxLen; omega) (by simp)

section
variable {B : Nat} {w : World} {v : Value}
theorem comp5 (hv : Edges B w v (castE ex5)) (hB : B ≤ w.heap.size) : Calls Try.prog 15 #[.agg #[.int .i64 5, .int .i64 4, v]] w fun en w' => ∃ vo, en = .returned (.tuple #[vo, .int .i64 0]) ∧ Ints w'.heap.size w' vo [3, 2, 2, 1, 0] ∧ Below w.heap.size w w' := by
  have h := components_ok B w v 5 4 ex5 hv hB ex5_ok 20 _ _ ex5_all (by decide) (by decide) ex5_ok.grp_short ex5_groups (by decide) (by decide) (by rw [ex5_sorted]; decide) (by rw [ex5_sorted]; decide)
  rw [ex5_sorted, ex5_comp] at h
  exact h
theorem dom5 (hv : Edges B w v (castE ex5)) (hB : B ≤ w.heap.size) : Calls Try.prog 18 #[.agg #[.int .i64 5, .int .i64 4, v]] w fun en w' => ∃ vo, en = .returned (.tuple #[vo, .int .i64 0]) ∧ Ints w'.heap.size w' vo [-1, 0, 1, 1, 3] ∧ Below w.heap.size w w' :=
  dominatorsG_ok B w v 5 4 ex5 hv hB ex5_ok 20 20 _ _ ex5_dfs (by decide) (by decide) ex5_dom
theorem pdom5 (hv : Edges B w v (castE ex5)) (hB : B ≤ w.heap.size) : Calls Try.prog 20 #[.agg #[.int .i64 5, .int .i64 4, v]] w fun en w' => ∃ vo, en = .returned (.tuple #[vo, .int .i64 0]) ∧ Ints w'.heap.size w' vo [1, 3, 1, 4, -1] ∧ Below w.heap.size w w' :=
  postdominatorsG_ok B w v 5 4 4 rfl ex5 hv hB ex5_ok 20 20 _ _ ex5_rdfs (by decide) (by decide) ex5_pdom
theorem back5 (hv : Edges B w v (castE ex5)) (hB : B ≤ w.heap.size) : Calls Try.prog 22 #[.agg #[.int .i64 5, .int .i64 4, v]] w fun en w' => ∃ vo, en = .returned (.tuple #[vo, .int .i64 0]) ∧ Ints w'.heap.size w' vo [2] ∧ Below w.heap.size w w' := by
  refine (backG_ok B w v 5 4 ex5 hv hB ex5_ok 20 20 _ _ [2] ex5_dfs (by decide) (by decide) ex5_dom (by decide) (fun p => ?_) ex5_back).mono ?_
  · exact getI_lt_of (l := [-1, 0, 1, 1, 3]) (n := 5) (by decide) (by decide) p
  · rintro en w' ⟨vo, rfl, h1, h2⟩
    exact ⟨vo, rfl, Nats.ints h1, h2⟩
theorem loops5 (hv : Edges B w v (castE ex5)) (hB : B ≤ w.heap.size) : Calls Try.prog 24 #[.agg #[.int .i64 5, .int .i64 4, v]] w fun en w' => ∃ vo, en = .returned (.tuple #[vo, .int .i64 0]) ∧ LV w'.heap.size w' vo [(1, [1, 2])] ∧ Below w.heap.size w w' :=
  loops_ok B w v 5 4 ex5 hv hB ex5_ok ex5_ok.okIn ex5_ok.okTo 20 20 _ _ [2] _ ex5_dfs (by decide) (by decide) ex5_dom (by decide) (getI_lt_of (by decide) (by decide)) ex5_back (by decide) (by decide) (by rw [ex5_tails]; decide) (by decide) ex5_ok.dfs_short ex5_loops
theorem red5 (hv : Edges B w v (castE ex5)) (hB : B ≤ w.heap.size) : Calls Try.prog 26 #[.agg #[.int .i64 5, .int .i64 4, v]] w fun en w' => en = .returned (.tuple #[.bool true, .int .i64 0]) ∧ Below w.heap.size w w' :=
  reducible_ok B w v 5 4 ex5 hv hB ex5_ok 20 20 _ _ [2] _ ex5_dfs (by decide) (by decide) ex5_dom (by decide) (getI_lt_of (by decide) (by decide)) ex5_back (by decide) (by decide) ex5_acy
theorem red6 (hv : Edges B w v (castE ex6)) (hB : B ≤ w.heap.size) : Calls Try.prog 26 #[.agg #[.int .i64 5, .int .i64 4, v]] w fun en w' => en = .returned (.tuple #[.bool false, .int .i64 0]) ∧ Below w.heap.size w w' :=
  reducible_ok B w v 5 4 ex6 hv hB ex6_ok 20 20 _ _ [] _ ex6_dfs (by decide) (by decide) ex6_dom (by decide) (getI_lt_of (by decide) (by decide)) ex6_back (by decide) (by decide) ex6_acy
end

theorem check0 (w : World) : Calls Try.prog 30 #[.agg #[.int .i64 0, .int .i64 0, .slice none 0 0]] w fun en w' => en = .returned (.int .i64 2) ∧ Below w.heap.size w w' :=
  check_any w.heap.size w 0 0 (.slice none 0 0) [] ⟨none, 0, rfl, by simp, by simp [maxLen], fun j x hx => by simp at hx⟩ (Nat.le_refl _)

theorem rows5 {w : World} {base : Nat} {v : Value} (h : w.ownsRow base 58 21 v ex5.length (ex5.map edgeRow).flatten) : ∃ g c, v = .slice (some ⟨g, 0, none⟩) 5 c ∧ base ≤ w.heap.size := by
  rcases h.2 with ⟨_, h0⟩ | ⟨g, cap, cur, rfl, hb, hh, -⟩
  · exact absurd h0 (by decide)
  · exact ⟨g, cap, rfl, by have := lt_of_block hh; omega⟩
theorem own_setBlk {W : World} {base m n g i : Nat} {t e : TypeId} {cs xs : List Value} {v : Value} (ho : W.ownsRow base e m v n xs) (h : Blk W g t cs) (hne : t ≠ e) (u : Value) : (W.setCell ⟨g, i, none⟩ u).ownsRow base e m v n xs := by
  refine ⟨ho.1, ho.2.imp id ?_⟩
  rintro ⟨g2, cap, cur, rfl, h1, hh, h2⟩
  refine ⟨g2, cap, cur, rfl, h1, (Below.heap_setCell W ⟨g, i, none⟩ u g2 ?_).trans hh, h2⟩
  rintro rfl
  unfold Blk at h
  rw [h] at hh
  injection hh with hh
  injection hh with _ ht
  exact hne ht

/-- The example's graph in its variable. -/
structure A5 (w W : World) (gb base : Nat) (v : Value) : Prop where
  g : Blk W gb 24 [.int .i64 5, .int .i64 4, v]
  own : W.ownsRow base 58 21 v ex5.length (ex5.map edgeRow).flatten
  bel : Below w.heap.size w W
  lo : w.heap.size ≤ gb
  blo : base ≤ W.heap.size
  wlo : w.heap.size ≤ base
theorem A5.step {w W W' : World} {gb base : Nat} {v : Value} (h : A5 w W gb base v) (hb : Below W.heap.size W W') : A5 w W' gb base v :=
  ⟨h.g.below hb h.g.lt, own_below h.own hb, h.bel.trans (hb.mono h.bel.size), h.lo, Nat.le_trans h.blo hb.size, h.wlo⟩
theorem A5.edges {w W : World} {gb base : Nat} {v : Value} (h : A5 w W gb base v) : Edges W.heap.size W v (castE ex5) := Edges.of_edgeRows h.own
theorem A5.cells {w W : World} {gb base : Nat} {v : Value} (h : A5 w W gb base v) : W.cell? ⟨gb, 0, none⟩ = some (.int .i64 5) ∧ W.cell? ⟨gb, 1, none⟩ = some (.int .i64 4) ∧ W.cell? ⟨gb, 2, none⟩ = some v := ⟨h.g.cellAt rfl, h.g.cellAt rfl, h.g.cellAt rfl⟩
theorem Ints.step {W W' : World} {v : Value} {l : List Int} (h : Ints W.heap.size W v l) (hb : Below W.heap.size W W') : Ints W'.heap.size W' v l := (Ints.below h hb).more hb.size
theorem Nats.step {W W' : World} {v : Value} {l : List Nat} (h : Nats W.heap.size W v l) (hb : Below W.heap.size W W') : Nats W'.heap.size W' v l := (Nats.below h hb).more hb.size

set_option maxRecDepth 100000 in
set_option maxHeartbeats 8000000 in
theorem awake_any (w : World) : Calls Try.prog 14 #[] w fun en w' => en = .returned (.bool true) ∧ Below w.heap.size w w' := by
  have hlb : Blk (w.alloc (.cells #[.int .i64 0, .int .i64 1, .int .i64 1, .int .i64 2, .int .i64 2, .int .i64 1, .int .i64 1, .int .i64 3, .int .i64 3, .int .i64 4] 87)) w.heap.size 87 (ex5.map pairRow).flatten := Blk.new w 87 (ex5.map pairRow).flatten
  have hed := edges_any _ w.heap.size 5 4 ex5 (by decide) hlb
  have HED := Lib.hid hed
  clear hed hlb
  go_enter Try.func14, Try.ntmps14
  go_upto_region 2 with (go_at_call 46; refine HED.out.mono ?_; rintro en w2 ⟨v, rfl, hown, hb2⟩; obtain ⟨g0, c, rfl, hbs⟩ := rows5 hown)
  have hb3 : Below w.heap.size w w2 := ((Below.refl _ w).alloc (Nat.le_refl _) _).trans (hb2.mono (by rw [World.size_alloc]; omega))
  obtain ⟨base, hS3⟩ : ∃ base, A5 w (w2.alloc (.cells #[.int .i64 5, .int .i64 4, .slice (some ⟨g0, 0, none⟩) 5 c] 24)) w2.heap.size base (.slice (some ⟨g0, 0, none⟩) 5 c) :=
    ⟨_, Blk.new w2 24 [.int .i64 5, .int .i64 4, .slice (some ⟨g0, 0, none⟩) 5 c], hown.alloc _, hb3.alloc hb3.size _, hb3.size, Nat.le_trans hbs (by rw [World.size_alloc]; omega), by rw [World.size_alloc]; omega⟩
  obtain ⟨c0, c1, c2⟩ := hS3.cells
  clear HED hb2 hown hb3 hbs
  go_upto_region 3 with (go_at_call 15; refine (comp5 hS3.edges (Nat.le_refl _)).mono ?_; rintro en w4 ⟨vc, rfl, hvc, hb4⟩)
  have hS4 := hS3.step hb4
  clear c0 c1 c2
  obtain ⟨c0, c1, c2⟩ := hS4.cells
  clear hS3 hb4
  go_upto_region 4 with (go_at_call 18; refine (dom5 hS4.edges (Nat.le_refl _)).mono ?_; rintro en w5 ⟨vd, rfl, hvd, hb5⟩)
  have hS5 := hS4.step hb5
  clear c0 c1 c2
  obtain ⟨c0, c1, c2⟩ := hS5.cells
  replace hvc := Ints.step hvc hb5
  clear hS4 hb5
  go_upto_region 5 with (go_at_call 20; refine (pdom5 hS5.edges (Nat.le_refl _)).mono ?_; rintro en w6 ⟨vp, rfl, hvp, hb6⟩)
  have hS6 := hS5.step hb6
  clear c0 c1 c2
  obtain ⟨c0, c1, c2⟩ := hS6.cells
  replace hvc := Ints.step hvc hb6
  replace hvd := Ints.step hvd hb6
  clear hS5 hb6
  go_upto_region 6 with (go_at_call 22; refine (back5 hS6.edges (Nat.le_refl _)).mono ?_; rintro en w7 ⟨vb, rfl, hvb, hb7⟩)
  have hS7 := hS6.step hb7
  clear c0 c1 c2
  obtain ⟨c0, c1, c2⟩ := hS7.cells
  replace hvc := Ints.step hvc hb7
  replace hvd := Ints.step hvd hb7
  replace hvp := Ints.step hvp hb7
  clear hS6 hb7
  go_upto_region 7 with (go_at_call 24; refine (loops5 hS7.edges (Nat.le_refl _)).mono ?_; rintro en w8 ⟨vl, rfl, hvl, hb8⟩)
  have hS8 := hS7.step hb8
  clear c0 c1 c2
  obtain ⟨c0, c1, c2⟩ := hS8.cells
  replace hvc := Ints.step hvc hb8
  replace hvd := Ints.step hvd hb8
  replace hvp := Ints.step hvp hb8
  replace hvb := Ints.step hvb hb8
  clear hS7 hb8
  go_upto_region 8 with (go_at_call 26; refine (red5 hS8.edges (Nat.le_refl _)).mono ?_; rintro en w9 ⟨rfl, hb9⟩)
  have hS9 := hS8.step hb9
  clear c0 c1 c2
  obtain ⟨c0, c1, c2⟩ := hS9.cells
  replace hvc := Ints.step hvc hb9
  replace hvd := Ints.step hvd hb9
  replace hvp := Ints.step hvp hb9
  replace hvb := Ints.step hvb hb9
  obtain ⟨Al, cl, rfl, -, -, hll⟩ := hvl
  obtain ⟨adl, ul, rfl, hal, l0, l1, hul⟩ := hll 0 _ rfl
  rw [Nat.zero_mul, add_zero'] at l0
  rw [Nat.zero_mul, Nat.zero_add, add_one'] at l1
  have m0 : w9.cell? adl = some (.int .i64 1) := (hb9.cell (p := adl) hal).trans l0
  have m1 := (hb9.cell (p := ⟨adl.block, adl.off + 1, none⟩) hal).trans l1
  replace hul := Nats.step hul hb9
  replace hal : adl.block < w9.heap.size := Nat.lt_of_lt_of_le hal hb9.size
  clear hS8 hb9 l0 l1 hll
  replace hul := Nats.ints hul
  go_wp2_with fail
  have hbn9 := (Below.refl w9.heap.size w9).alloc (Nat.le_refl _) (.cells (([3, 2, 2, 1, 0] : List Int).map intV).toArray 3)
  refine (equal_true (hvc.step hbn9) (ints_new w9 [3, 2, 2, 1, 0] (by decide))).mono ?_
  rintro en w10 ⟨rfl, hb10⟩
  have hbt10 : Below w9.heap.size w9 w10 := hbn9.trans (hb10.mono (by rw [World.size_alloc]; omega))
  have hS10 := hS9.step hbt10
  clear c0 c1 c2
  obtain ⟨c0, c1, c2⟩ := hS10.cells
  replace hvd := Ints.step hvd hbt10
  replace hvp := Ints.step hvp hbt10
  replace hvb := Ints.step hvb hbt10
  replace hul := Ints.step hul hbt10
  have hal0 := hal
  replace hal : adl.block < w10.heap.size := Nat.lt_of_lt_of_le hal hbt10.size
  replace m0 := (hbt10.cell (p := adl) hal0).trans m0
  replace m1 := (hbt10.cell (p := ⟨adl.block, adl.off + 1, none⟩) hal0).trans m1
  clear hal0 hS9 hbn9 hb10 hbt10 hvc
  go_wp2_with fail
  have hbn10 := (Below.refl w10.heap.size w10).alloc (Nat.le_refl _) (.cells (([-1, 0, 1, 1, 3] : List Int).map intV).toArray 3)
  refine (equal_true (hvd.step hbn10) (ints_new w10 [-1, 0, 1, 1, 3] (by decide))).mono ?_
  rintro en w11 ⟨rfl, hb11⟩
  have hbt11 : Below w10.heap.size w10 w11 := hbn10.trans (hb11.mono (by rw [World.size_alloc]; omega))
  have hS11 := hS10.step hbt11
  clear c0 c1 c2
  obtain ⟨c0, c1, c2⟩ := hS11.cells
  replace hvp := Ints.step hvp hbt11
  replace hvb := Ints.step hvb hbt11
  replace hul := Ints.step hul hbt11
  have hal0 := hal
  replace hal : adl.block < w11.heap.size := Nat.lt_of_lt_of_le hal hbt11.size
  replace m0 := (hbt11.cell (p := adl) hal0).trans m0
  replace m1 := (hbt11.cell (p := ⟨adl.block, adl.off + 1, none⟩) hal0).trans m1
  clear hal0 hS10 hbn10 hb11 hbt11 hvd
  go_wp2_with fail
  have hbn11 := (Below.refl w11.heap.size w11).alloc (Nat.le_refl _) (.cells (([1, 3, 1, 4, -1] : List Int).map intV).toArray 3)
  refine (equal_true (hvp.step hbn11) (ints_new w11 [1, 3, 1, 4, -1] (by decide))).mono ?_
  rintro en w12 ⟨rfl, hb12⟩
  have hbt12 : Below w11.heap.size w11 w12 := hbn11.trans (hb12.mono (by rw [World.size_alloc]; omega))
  have hS12 := hS11.step hbt12
  clear c0 c1 c2
  obtain ⟨c0, c1, c2⟩ := hS12.cells
  replace hvb := Ints.step hvb hbt12
  replace hul := Ints.step hul hbt12
  have hal0 := hal
  replace hal : adl.block < w12.heap.size := Nat.lt_of_lt_of_le hal hbt12.size
  replace m0 := (hbt12.cell (p := adl) hal0).trans m0
  replace m1 := (hbt12.cell (p := ⟨adl.block, adl.off + 1, none⟩) hal0).trans m1
  clear hal0 hS11 hbn11 hb12 hbt12 hvp
  go_wp2_with fail
  have hbn12 := (Below.refl w12.heap.size w12).alloc (Nat.le_refl _) (.cells (([2] : List Int).map intV).toArray 3)
  refine (equal_true (hvb.step hbn12) (ints_new w12 [2] (by decide))).mono ?_
  rintro en w13 ⟨rfl, hb13⟩
  have hbt13 : Below w12.heap.size w12 w13 := hbn12.trans (hb13.mono (by rw [World.size_alloc]; omega))
  have hS13 := hS12.step hbt13
  clear c0 c1 c2
  obtain ⟨c0, c1, c2⟩ := hS13.cells
  replace hul := Ints.step hul hbt13
  have hal0 := hal
  replace hal : adl.block < w13.heap.size := Nat.lt_of_lt_of_le hal hbt13.size
  replace m0 := (hbt13.cell (p := adl) hal0).trans m0
  replace m1 := (hbt13.cell (p := ⟨adl.block, adl.off + 1, none⟩) hal0).trans m1
  clear hal0 hS12 hbn12 hb13 hbt13 hvb
  go_wp2_with fail
  have hbn13 := (Below.refl w13.heap.size w13).alloc (Nat.le_refl _) (.cells (([1, 2] : List Int).map intV).toArray 3)
  refine (equal_true (hul.step hbn13) (ints_new w13 [1, 2] (by decide))).mono ?_
  rintro en w14 ⟨rfl, hb14⟩
  have hbt14 : Below w13.heap.size w13 w14 := hbn13.trans (hb14.mono (by rw [World.size_alloc]; omega))
  have hS14 := hS13.step hbt14
  clear c0 c1 c2
  obtain ⟨c0, c1, c2⟩ := hS14.cells
  clear hS13 hbn13 hb14 hbt14 hul m0 m1 hal
  obtain ⟨i0, hi, hz0, hz1, hz2⟩ := info_parts info_edge
  have hga := hS14.g.alloc (.cells (edgeRow (0, 2)).toArray 58)
  have hoa := hS14.own.alloc (.cells (edgeRow (0, 2)).toArray 58)
  have c2a := hga.cellAt (i := 2) rfl
  have hbl := hS14.blo
  have HGA := Lib.hid hga
  have HOA := Lib.hid hoa
  clear hga hoa
  go_wp2_with (at_builtin; refine wpList_append_own_at _ rfl (.tmp 112) (.tmp 114) 22 rfl base 58 i0 edge0 21 280 Try.underlying22 hi hz0 hz1 hz2 rfl (by decide) (.slice (some ⟨g0, 0, none⟩) 5 c) 5 _ rfl HOA.out ⟨w14.heap.size, 0, none⟩ 1 1 (edgeRow (0, 2)) rfl rfl ?c1 ?c2 ?c3 ?c4 ?c5 ?_)
  case c1 =>
    intro j u hj
    rw [add_none]
    exact (Blk.new w14 58 (edgeRow (0, 2))).cellAt hj
  case c2 => exact edgeRow_one _
  case c3 => decide
  case c4 => decide
  case c5 => simp; omega
  intro v' w' hown' hgrow _ _
  obtain ⟨g', cap, hv'⟩ := ownsRow_succ hown'
  obtain rfl : v' = .slice (some ⟨g', 0, none⟩) 6 cap := hv'

  have hA := HGA.out.keptOwn hgrow HOA.out (by decide)
  have d2 := hA.cellAt (i := 2) rfl
  have f2 := hA.frozen 2
  have hS := hA.set 2 (.slice (some ⟨g', 0, none⟩) 6 cap)
  have hO : (w'.setCell ⟨w2.heap.size, 2, none⟩ (.slice (some ⟨g', 0, none⟩) 6 cap)).ownsRow base 58 21 (.slice (some ⟨g', 0, none⟩) 6 cap) ex6.length (ex6.map edgeRow).flatten := own_setBlk hown' hA (by decide) _
  have hE6 := Edges.of_edgeRows hO
  have hB15 : Below w.heap.size w (w'.setCell ⟨w2.heap.size, 2, none⟩ (.slice (some ⟨g', 0, none⟩) 6 cap)) := by
    refine Below.setCell ?_ hS14.lo _
    refine (hS14.bel.alloc hS14.bel.size _).grown hgrow (by have := hS14.bel.size; simp; omega) (fun j hj => ?_)
    have h1 := (HOA.out.lt j hj).1
    have h2 := hS14.wlo
    omega
  have e0 := hS.cellAt (i := 0) rfl
  have e1 := hS.cellAt (i := 1) rfl
  have e2 := hS.cellAt (i := 2) rfl
  have HE6 := Lib.hid hE6
  clear hA hO hown' hgrow c0 c1 c2 c2a hE6 hS
  go_wp2_with fail
  refine (red6 HE6.out (Nat.le_refl _)).mono ?_
  rintro en w16 ⟨rfl, hb16⟩
  have hB16 := hB15.trans (hb16.mono hB15.size)
  clear e0 e1 e2 d2 f2 hB15 hb16
  go_wp2_with fail
  refine (check0 w16).mono ?_
  rintro en w17 ⟨rfl, hb17⟩
  have hB17 := hB16.trans (hb17.mono hB16.size)
  clear hB16 hb17
  go_wp2
  go_ret
  exact ⟨rfl, hB17⟩

#print axioms awake_any

end Go.Proofs.Ytngfoinceakgdaa

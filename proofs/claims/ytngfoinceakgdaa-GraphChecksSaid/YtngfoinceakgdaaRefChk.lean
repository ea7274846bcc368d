/- The reference: SameLists, Out, In, Reachable. -/
import Derived.Test.YtngfoinceakgdaaLeaving
import Derived.Test.YtngfoinceakgdaaImm
import Derived.Test.YtngfoinceakgdaaSem
import Derived.Deep.RegionHeld3
namespace Go.Proofs.Ytngfoinceakgdaa
open Go.RowKit Go.Shelf

set_option maxRecDepth 100000 in
set_option maxHeartbeats 1000000 in
theorem sameLists_any (B : Nat) (w : World) (v1 v2 : Value) (xss yss : List (List Nat)) (h1 : Natss B w v1 xss) (h2 : Natss B w v2 yss) (hB : B ≤ w.heap.size) :
    Calls Try.prog 40 #[v1, v2] w fun en w' => en = .returned (.bool (decide (xss = yss))) ∧ Only (fun _ => False) w w' := by
  obtain ⟨A1, c1, rfl, -, -, hm1, hr1⟩ := Sl.shape h1
  obtain ⟨A2, c2, rfl, -, -, hm2, hr2⟩ := Sl.shape h2
  have HR1 := Lib.hid hr1
  have HR2 := Lib.hid hr2
  clear h1 h2 hr1 hr2
  by_cases hl : xss.length = yss.length
  · have hl' : (xss.length : Int) = (yss.length : Int) := by omega
    have HL := Lib.hid hl
    clear hl
    go_enter Try.func40, Try.ntmps40
    go_wp2
    clear hl'
    go_loopw [5] (fun y wr => ∃ m : Nat, m ≤ xss.length ∧ y = .int .i64 m ∧ xss.take m = yss.take m ∧ Only (fun _ => False) w wr) (fun y _ => xss.length - (intOf y).toNat)
    case atStart => exact ⟨0, Nat.zero_le _, rfl, rfl, Only.refl _ _⟩
    case round =>
      obtain ⟨m, hm, rfl, ht, ho⟩ := hrel
      by_cases hlt : m < xss.length
      · have hly : m < yss.length := by have := HL.out; omega
        have hlt1 : (m : Int) < (xss.length : Int) := by omega
        have hly1 : (m : Int) < (yss.length : Int) := by omega
        obtain ⟨ad1, u1, rfl, -, hc1, hn1⟩ := HR1.out m _ (List.getElem?_eq_getElem hlt)
        obtain ⟨ad2, u2, rfl, -, hc2, hn2⟩ := HR2.out m _ (List.getElem?_eq_getElem hly)
        have htk : xss.take (m + 1) = xss.take m ++ [xss[m]] := List.take_succ_eq_append_getElem hlt
        have htl : yss.take (m + 1) = yss.take m ++ [yss[m]] := List.take_succ_eq_append_getElem hly
        have hne : xss[m] ≠ yss[m] → xss ≠ yss := fun h e => h (by simp only [e])
        have hob := (ho.below hB (fun _ _ f => f)).drew
        have hca := sameInts_any B wr.drew u1 u2 xss[m] yss[m] (Nats.below hn1 hob) (Nats.below hn2 hob)
        obtain ⟨D1, e1, rfl, -, -, -, -⟩ := Sl.shape hn1
        obtain ⟨D2, e2, rfl, -, -, -, -⟩ := Sl.shape hn2
        have hd1 := ho.cellAt hc1
        have hd2 := ho.cellAt hc2
        clear hn1 hn2 hc1 hc2 hob
        revert hd1 hd2 htk htl hne hca
        generalize xss[m] = xs
        generalize yss[m] = ys
        intro htk htl hne hca hd1 hd2
        have HNE := Lib.hid hne
        have HTK := Lib.hid htk
        have HTL := Lib.hid htl
        have HT := Lib.hid ht
        clear htk htl hne ht
        by_cases hxy : xs = ys
        · subst hxy
          rw [decide_eq_true rfl] at hca
          have HCA := Lib.hid hca
          clear hca
          go_upto_region 6 with fail
          go_region_held3 (fun w' => w'.cell? (ad1.add m) = some (.slice D1 xs.length e1) ∧ w'.cell? (ad2.add m) = some (.slice D2 xs.length e2))
            (first | exact ⟨ho2.cellAt hd1, ho2.cellAt hd2⟩ | exact ⟨hd1, hd2⟩)
            ((go_at_call 65; refine HCA.out.mono ?_; rintro en w2 ⟨rfl, ho2⟩))
          have ho3 : Only (fun _ => False) w w2 := (ho.drew).trans ho2 (fun _ _ f => f)
          go_wp2
          go_roundw
          case rel => exact ⟨m + 1, by omega, by go_num, by rw [HTK.out, HTL.out, HT.out], ho3⟩
          case measure => simp [intOf]; omega
        · have hr : decide (xss = yss) = false := by rw [decide_eq_false_iff_not]; exact HNE.out hxy
          rw [decide_eq_false hxy] at hca
          have HR := Lib.hid hr
          clear hr hxy
          have HCA := Lib.hid hca
          clear hca
          go_upto_region 6 with fail
          go_region_held3 (fun w' => w'.cell? (ad1.add m) = some (.slice D1 xs.length e1) ∧ w'.cell? (ad2.add m) = some (.slice D2 ys.length e2))
            (first | exact ⟨ho2.cellAt hd1, ho2.cellAt hd2⟩ | exact ⟨hd1, hd2⟩)
            ((go_at_call 65; refine HCA.out.mono ?_; rintro en w2 ⟨rfl, ho2⟩))
          have ho3 : Only (fun _ => False) w w2 := (ho.drew).trans ho2 (fun _ _ f => f)
          go_wp2
          go_ret
          exact ⟨by rw [HR.out]; rfl, ho3⟩
      · have hge : ¬ (m : Int) < (xss.length : Int) := by omega
        obtain rfl : xss.length = m := by omega
        have hr : decide (xss = yss) = true := by
          rw [decide_eq_true_iff]
          rw [List.take_length, List.take_of_length_le (by rw [HL.out]; exact Nat.le_refl _)] at ht
          exact ht
        have HR := Lib.hid hr
        clear hr ht
        go_wp2
        go_ret
        exact ⟨by rw [HR.out]; rfl, ho⟩
  · have hr : decide (xss = yss) = false := by rw [decide_eq_false_iff_not]; intro h; exact hl (by rw [h])
    have hl' : ¬ ((xss.length : Int) = (yss.length : Int)) := by omega
    rw [hr]
    clear hr hl
    go_enter Try.func40, Try.ntmps40
    go_wp2
    go_ret
    exact ⟨rfl, Only.refl _ _⟩

theorem idxs_swap (E : List (Nat × Nat)) (p : Nat) : idxs Prod.fst (swapE E) p = idxs Prod.snd E p := by
  unfold idxs swapE
  rw [List.length_map]
  refine List.filter_congr fun k hk => ?_
  have hk := List.mem_range.1 hk
  rw [List.getD_eq_getElem?_getD, List.getD_eq_getElem?_getD, List.getElem?_map, List.getElem?_eq_getElem hk]
  rfl
section
variable (B : Nat) (w : World) (v : Value)
set_option maxRecDepth 100000
set_option maxHeartbeats 1000000
theorem rout_bad (n exit : Int) (es : List (Int × Int)) (hv : Edges B w v es) (hB : B ≤ w.heap.size) (hc : chk n exit es ≠ 0) :
    Calls Try.prog 36 #[.agg #[.int .i64 n, .int .i64 exit, v]] w fun en w' => en = .returned (.tuple #[.slice none 0 0, .int .i64 (chk n exit es)]) ∧ Below w.heap.size w w' := by
  obtain ⟨A, c, rfl, hlc, -, hm, hes⟩ := id hv.shape
  have hcheck := fun w1 (h1 : Below w.heap.size w w1) => rcheck_any B w1 n exit _ es (hv.below (h1.mono hB)) (by have := h1.size; omega)
  have HC := Lib.hid hcheck
  clear hcheck hes hv
  go_enter Try.func36, Try.ntmps36
  go_wp2_with (go_at_call 32; refine (HC.out _ ((Below.refl _ _).alloc (Nat.le_refl _) _)).mono ?_; rintro en w1 ⟨rfl, hb1⟩)
  go_ret2
  exact ⟨rfl, ((Below.refl _ _).alloc (Nat.le_refl _) _).trans (hb1.mono (by simp))⟩
theorem rin_bad (n exit : Int) (es : List (Int × Int)) (hv : Edges B w v es) (hB : B ≤ w.heap.size) (hc : chk n exit es ≠ 0) :
    Calls Try.prog 38 #[.agg #[.int .i64 n, .int .i64 exit, v]] w fun en w' => en = .returned (.tuple #[.slice none 0 0, .int .i64 (chk n exit es)]) ∧ Below w.heap.size w w' := by
  obtain ⟨A, c, rfl, hlc, -, hm, hes⟩ := id hv.shape
  have hcheck := fun w1 (h1 : Below w.heap.size w w1) => rcheck_any B w1 n exit _ es (hv.below (h1.mono hB)) (by have := h1.size; omega)
  have HC := Lib.hid hcheck
  clear hcheck hes hv
  go_enter Try.func38, Try.ntmps38
  go_wp2_with (go_at_call 32; refine (HC.out _ ((Below.refl _ _).alloc (Nat.le_refl _) _)).mono ?_; rintro en w1 ⟨rfl, hb1⟩)
  go_ret2
  exact ⟨rfl, ((Below.refl _ _).alloc (Nat.le_refl _) _).trans (hb1.mono (by simp))⟩
theorem rout_ok (n : Nat) (exit : Int) (E : List (Nat × Nat)) (hv : Edges B w v (castE E)) (hB : B ≤ w.heap.size) (hg : GOk n exit E) :
    Calls Try.prog 36 #[.agg #[.int .i64 (n : Int), .int .i64 exit, v]] w fun en w' => ∃ vo, en = .returned (.tuple #[vo, .int .i64 0]) ∧ Natss w'.heap.size w' vo (shapeOf n E).out ∧ Below w.heap.size w w' := by
  obtain ⟨A, c, rfl, hlc, -, hm, hes⟩ := id hv.shape
  have hcheck := fun w1 (h1 : Below w.heap.size w w1) => rcheck_any B w1 n exit _ _ (hv.below (h1.mono hB)) (by have := h1.size; omega)
  have hlv := fun w1 (h1 : Below w.heap.size w w1) => leaving_any B w1 _ n exit E (hv.below (h1.mono hB)) (by have := h1.size; omega) hg.n512 hg.lt hg.len
  have HN := Lib.hid hlv
  rw [hg.chk] at hcheck
  have HC := Lib.hid hcheck
  have hb0 := (Below.refl w.heap.size w).alloc (Nat.le_refl _) (.cells #[.int .i64 (n : Int), .int .i64 exit, .slice A (castE E).length c] 24)
  have hg0 := Blk.newAt w 24 #[.int .i64 (n : Int), .int .i64 exit, .slice A (castE E).length c] rfl
  clear hcheck hlv hes hv
  go_enter Try.func36, Try.ntmps36
  go_wp2_with (first | (go_at_call 32; refine (HC.out _ hb0).mono ?_; rintro en w1 ⟨rfl, hb1⟩; have hg1 := hg0.below hb1 (by rw [World.size_alloc]; omega); have hb2 := hb0.trans (hb1.mono (by rw [World.size_alloc]; omega)); have c0 := hg1.cellAt (i := 0) rfl; have c1 := hg1.cellAt (i := 1) rfl; have c2 := hg1.cellAt (i := 2) rfl) | (go_at_call 64; refine (HN.out _ hb2).mono ?_; rintro en w2 ⟨vo, rfl, hvo, hb3⟩))
  go_ret2
  exact ⟨_, rfl, hvo, hb2.trans (hb3.mono hb2.size)⟩
theorem rin_ok (n : Nat) (exit : Int) (E : List (Nat × Nat)) (hv : Edges B w v (castE E)) (hB : B ≤ w.heap.size) (hg : GOk n exit E) :
    Calls Try.prog 38 #[.agg #[.int .i64 (n : Int), .int .i64 exit, v]] w fun en w' => ∃ vo, en = .returned (.tuple #[vo, .int .i64 0]) ∧ Natss w'.heap.size w' vo (shapeOf n E).inn ∧ Below w.heap.size w w' := by
  obtain ⟨A, c, rfl, hlc, -, hm, hes⟩ := id hv.shape
  have hcheck := fun w1 (h1 : Below w.heap.size w w1) => rcheck_any B w1 n exit _ _ (hv.below (h1.mono hB)) (by have := h1.size; omega)
  have hle := hg.len
  have hturn := fun w1 (h1 : Below w.heap.size w w1) => turned_any B w1 _ n exit E (hv.below (h1.mono hB)) (by have := h1.size; omega) hle
  have hlv := fun (w1 : World) (v1 : Value) (h1 : Edges w1.heap.size w1 v1 (castE (swapE E))) => leaving_any w1.heap.size w1 v1 n exit (swapE E) h1 (Nat.le_refl _) hg.n512 hg.swap.lt hg.swap.len
  have hsw : (List.range n).map (idxs Prod.fst (swapE E)) = (shapeOf n E).inn := List.map_congr_left fun p _ => idxs_swap E p
  rw [hsw] at hlv
  have HT := Lib.hid hturn
  have HN := Lib.hid hlv
  rw [hg.chk] at hcheck
  have HC := Lib.hid hcheck
  have hb0 := (Below.refl w.heap.size w).alloc (Nat.le_refl _) (.cells #[.int .i64 (n : Int), .int .i64 exit, .slice A (castE E).length c] 24)
  have hg0 := Blk.newAt w 24 #[.int .i64 (n : Int), .int .i64 exit, .slice A (castE E).length c] rfl
  clear hcheck hturn hlv hes hv hsw
  go_enter Try.func38, Try.ntmps38
  go_wp2_with (first | (go_at_call 32; refine (HC.out _ hb0).mono ?_; rintro en w1 ⟨rfl, hb1⟩; have hg1 := hg0.below hb1 (by rw [World.size_alloc]; omega); have hb2 := hb0.trans (hb1.mono (by rw [World.size_alloc]; omega)); have c0 := hg1.cellAt (i := 0) rfl; have c1 := hg1.cellAt (i := 1) rfl; have c2 := hg1.cellAt (i := 2) rfl) | (go_at_call 55; refine (HT.out _ hb2).mono ?_; rintro en w2 ⟨v2, rfl, hv2, hb3⟩; have hb4 := hb2.trans (hb3.mono hb2.size)) | (go_at_call 64; refine (HN.out _ v2 hv2).mono ?_; rintro en w3 ⟨vo, rfl, hvo, hb5⟩))
  go_ret2
  exact ⟨_, rfl, hvo, hb4.trans (hb5.mono hb4.size)⟩
theorem rreachable_bad (n exit from_ : Int) (es : List (Int × Int)) (hv : Edges B w v es) (hB : B ≤ w.heap.size) (hc : chk n exit es ≠ 0) :
    Calls Try.prog 39 #[.agg #[.int .i64 n, .int .i64 exit, v], .int .i64 from_] w fun en w' => en = .returned (.tuple #[.slice none 0 0, .int .i64 (chk n exit es)]) ∧ Below w.heap.size w w' := by
  obtain ⟨A, c, rfl, hlc, -, hm, hes⟩ := id hv.shape
  have hcheck := fun w1 (h1 : Below w.heap.size w w1) => rcheck_any B w1 n exit _ es (hv.below (h1.mono hB)) (by have := h1.size; omega)
  have HC := Lib.hid hcheck
  clear hcheck hes hv
  go_enter Try.func39, Try.ntmps39
  go_wp2_with (go_at_call 32; refine (HC.out _ ((Below.refl _ _).alloc (Nat.le_refl _) _)).mono ?_; rintro en w1 ⟨rfl, hb1⟩)
  go_ret2
  exact ⟨rfl, ((Below.refl _ _).alloc (Nat.le_refl _) _).trans (hb1.mono (by simp))⟩
theorem rreachable_none (n : Nat) (exit from_ : Int) (E : List (Nat × Nat)) (hv : Edges B w v (castE E)) (hB : B ≤ w.heap.size) (hg : GOk n exit E) (hf : from_ < 0 ∨ (n : Int) ≤ from_) :
    Calls Try.prog 39 #[.agg #[.int .i64 (n : Int), .int .i64 exit, v], .int .i64 from_] w fun en w' => en = .returned (.tuple #[.slice none 0 0, .int .i64 6]) ∧ Below w.heap.size w w' := by
  obtain ⟨A, c, rfl, hlc, -, hm, hes⟩ := id hv.shape
  have hcheck := fun w1 (h1 : Below w.heap.size w w1) => rcheck_any B w1 n exit _ _ (hv.below (h1.mono hB)) (by have := h1.size; omega)
  rw [hg.chk] at hcheck
  have HC := Lib.hid hcheck
  have hb0 := (Below.refl w.heap.size w).alloc (Nat.le_refl _) (.cells #[.int .i64 (n : Int), .int .i64 exit, .slice A (castE E).length c] 24)
  have hg0 := Blk.newAt w 24 #[.int .i64 (n : Int), .int .i64 exit, .slice A (castE E).length c] rfl
  clear hcheck hes hv
  by_cases h0 : from_ < 0
  · clear hf
    go_enter Try.func39, Try.ntmps39
    go_wp2_with (go_at_call 32; refine (HC.out _ hb0).mono ?_; rintro en w1 ⟨rfl, hb1⟩; have hg1 := hg0.below hb1 (by rw [World.size_alloc]; omega); have hb2 := hb0.trans (hb1.mono (by rw [World.size_alloc]; omega)); have c0 := hg1.cellAt (i := 0) rfl; have c1 := hg1.cellAt (i := 1) rfl; have c2 := hg1.cellAt (i := 2) rfl)
    go_ret2
    exact ⟨rfl, hb2⟩
  · have h1 : (n : Int) ≤ from_ := by omega
    have h2 : 0 ≤ from_ := by omega
    clear hf h0
    go_enter Try.func39, Try.ntmps39
    go_wp2_with (go_at_call 32; refine (HC.out _ hb0).mono ?_; rintro en w1 ⟨rfl, hb1⟩; have hg1 := hg0.below hb1 (by rw [World.size_alloc]; omega); have hb2 := hb0.trans (hb1.mono (by rw [World.size_alloc]; omega)); have c0 := hg1.cellAt (i := 0) rfl; have c1 := hg1.cellAt (i := 1) rfl; have c2 := hg1.cellAt (i := 2) rfl)
    go_ret2
    exact ⟨rfl, hb2⟩
theorem rreachable_ok (n : Nat) (exit : Int) (E : List (Nat × Nat)) (hv : Edges B w v (castE E)) (hB : B ≤ w.heap.size) (hg : GOk n exit E) (f : Nat) (hf : f < n) :
    Calls Try.prog 39 #[.agg #[.int .i64 (n : Int), .int .i64 exit, v], .int .i64 (f : Int)] w fun en w' => ∃ vo, en = .returned (.tuple #[vo, .int .i64 0]) ∧ Bools w'.heap.size w' vo ((List.range n).map (rB n E (-1) f)) ∧ Below w.heap.size w w' := by
  obtain ⟨A, c, rfl, hlc, -, hm, hes⟩ := id hv.shape
  have hcheck := fun w1 (h1 : Below w.heap.size w w1) => rcheck_any B w1 n exit _ _ (hv.below (h1.mono hB)) (by have := h1.size; omega)
  have hre := fun w1 (h1 : Below w.heap.size w w1) => rreach_sem B w1 _ n exit E (hv.below (h1.mono hB)) (by have := h1.size; omega) hg.n512 hg.lt hg.len f hf (-1)
  have HN := Lib.hid hre
  rw [hg.chk] at hcheck
  have HC := Lib.hid hcheck
  have hb0 := (Below.refl w.heap.size w).alloc (Nat.le_refl _) (.cells #[.int .i64 (n : Int), .int .i64 exit, .slice A (castE E).length c] 24)
  have hg0 := Blk.newAt w 24 #[.int .i64 (n : Int), .int .i64 exit, .slice A (castE E).length c] rfl
  have hf1 : (f : Int) < (n : Int) := by omega
  have hf2 : decide ((f : Int) < 0) = false := by rw [decide_eq_false_iff_not]; omega
  have hf3 : decide ((n : Int) ≤ (f : Int)) = false := by rw [decide_eq_false_iff_not]; omega
  have h512 := hg.n512
  clear hcheck hre hes hv
  go_enter Try.func39, Try.ntmps39
  go_wp2_with (first | (go_at_call 32; refine (HC.out _ hb0).mono ?_; rintro en w1 ⟨rfl, hb1⟩; have hg1 := hg0.below hb1 (by rw [World.size_alloc]; omega); have hb2 := hb0.trans (hb1.mono (by rw [World.size_alloc]; omega)); have c0 := hg1.cellAt (i := 0) rfl; have c1 := hg1.cellAt (i := 1) rfl; have c2 := hg1.cellAt (i := 2) rfl) | (go_at_call 62; refine (HN.out _ hb2).mono ?_; rintro en w2 ⟨g, rfl, hgb, hgs, hb3⟩))
  go_ret2
  exact ⟨_, rfl, bools_of hgb h512 hgb.lt, hb2.trans (hb3.mono hb2.size)⟩
end
end Go.Proofs.Ytngfoinceakgdaa

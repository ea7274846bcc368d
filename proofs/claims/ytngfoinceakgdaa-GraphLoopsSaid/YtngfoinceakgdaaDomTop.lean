/- Package graph: Dominators, Postdominators, Back. -/
import Derived.Test.YtngfoinceakgdaaLoops
import Derived.Deep.RegionHeld3
namespace Go.Proofs.Ytngfoinceakgdaa
open Go.RowKit Go.Shelf

section
variable (B : Nat) (w : World) (v : Value)
set_option maxRecDepth 100000
set_option maxHeartbeats 1000000

theorem dominatorsG_bad (n exit : Int) (es : List (Int × Int)) (hv : Edges B w v es) (hB : B ≤ w.heap.size) (hc : chk n exit es ≠ 0) :
    Calls Try.prog 18 #[.agg #[.int .i64 n, .int .i64 exit, v]] w fun en w' => en = .returned (.tuple #[.slice none 0 0, .int .i64 (chk n exit es)]) ∧ Below w.heap.size w w' := by
  obtain ⟨A, c, rfl, hlc, -, hm, hes⟩ := id hv.shape
  have hcheck := fun w1 (h1 : Below w.heap.size w w1) => check_any B w1 n exit _ es (hv.below (h1.mono hB)) (by have := h1.size; omega)
  have HC := Lib.hid hcheck
  clear hcheck hes hv
  go_enter Try.func18, Try.ntmps18
  go_wp2_with (go_at_call 30; refine (HC.out _ ((Below.refl _ _).alloc (Nat.le_refl _) _)).mono ?_; rintro en w1 ⟨rfl, hb1⟩)
  go_ret2
  exact ⟨rfl, ((Below.refl _ _).alloc (Nat.le_refl _) _).trans (hb1.mono (by simp))⟩

theorem postdominatorsG_bad (n exit : Int) (es : List (Int × Int)) (hv : Edges B w v es) (hB : B ≤ w.heap.size) (hc : chk n exit es ≠ 0) :
    Calls Try.prog 20 #[.agg #[.int .i64 n, .int .i64 exit, v]] w fun en w' => en = .returned (.tuple #[.slice none 0 0, .int .i64 (chk n exit es)]) ∧ Below w.heap.size w w' := by
  obtain ⟨A, c, rfl, hlc, -, hm, hes⟩ := id hv.shape
  have hcheck := fun w1 (h1 : Below w.heap.size w w1) => check_any B w1 n exit _ es (hv.below (h1.mono hB)) (by have := h1.size; omega)
  have HC := Lib.hid hcheck
  clear hcheck hes hv
  go_enter Try.func20, Try.ntmps20
  go_wp2_with (go_at_call 30; refine (HC.out _ ((Below.refl _ _).alloc (Nat.le_refl _) _)).mono ?_; rintro en w1 ⟨rfl, hb1⟩)
  go_ret2
  exact ⟨rfl, ((Below.refl _ _).alloc (Nat.le_refl _) _).trans (hb1.mono (by simp))⟩

theorem backG_bad (n exit : Int) (es : List (Int × Int)) (hv : Edges B w v es) (hB : B ≤ w.heap.size) (hc : chk n exit es ≠ 0) :
    Calls Try.prog 22 #[.agg #[.int .i64 n, .int .i64 exit, v]] w fun en w' => en = .returned (.tuple #[.slice none 0 0, .int .i64 (chk n exit es)]) ∧ Below w.heap.size w w' := by
  obtain ⟨A, c, rfl, hlc, -, hm, hes⟩ := id hv.shape
  have hcheck := fun w1 (h1 : Below w.heap.size w w1) => check_any B w1 n exit _ es (hv.below (h1.mono hB)) (by have := h1.size; omega)
  have HC := Lib.hid hcheck
  clear hcheck hes hv
  go_enter Try.func22, Try.ntmps22
  go_wp2_with (go_at_call 30; refine (HC.out _ ((Below.refl _ _).alloc (Nat.le_refl _) _)).mono ?_; rintro en w1 ⟨rfl, hb1⟩)
  go_ret2
  exact ⟨rfl, ((Below.refl _ _).alloc (Nat.le_refl _) _).trans (hb1.mono (by simp))⟩

theorem loopsG_bad (n exit : Int) (es : List (Int × Int)) (hv : Edges B w v es) (hB : B ≤ w.heap.size) (hc : chk n exit es ≠ 0) :
    Calls Try.prog 24 #[.agg #[.int .i64 n, .int .i64 exit, v]] w fun en w' => en = .returned (.tuple #[.slice none 0 0, .int .i64 (chk n exit es)]) ∧ Below w.heap.size w w' := by
  obtain ⟨A, c, rfl, hlc, -, hm, hes⟩ := id hv.shape
  have hcheck := fun w1 (h1 : Below w.heap.size w w1) => check_any B w1 n exit _ es (hv.below (h1.mono hB)) (by have := h1.size; omega)
  have HC := Lib.hid hcheck
  clear hcheck hes hv
  go_enter Try.func24, Try.ntmps24
  go_wp2_with (go_at_call 30; refine (HC.out _ ((Below.refl _ _).alloc (Nat.le_refl _) _)).mono ?_; rintro en w1 ⟨rfl, hb1⟩)
  go_ret2
  exact ⟨rfl, ((Below.refl _ _).alloc (Nat.le_refl _) _).trans (hb1.mono (by simp))⟩

theorem dominatorsG_ok (n : Nat) (exit : Int) (E : List (Nat × Nat)) (hv : Edges B w v (castE E)) (hB : B ≤ w.heap.size) (hg : GOk n exit E) (k j : Nat) (t : List Bool × List Nat) (res : List Int)
    (hd : foldO (dfsV (shapeOf n E).next (-1) k) [0] (List.replicate n false, []) = some t) (hlen : t.2.length ≤ 100000) (hord : ∀ x ∈ t.2, x < n) (hres : domF (shapeOf n E) k j t.2 = some res) :
    Calls Try.prog 18 #[.agg #[.int .i64 (n : Int), .int .i64 exit, v]] w fun en w' => ∃ vo, en = .returned (.tuple #[vo, .int .i64 0]) ∧ Ints w'.heap.size w' vo res ∧ Below w.heap.size w w' := by
  obtain ⟨A, c, rfl, hlc, -, hm, hes⟩ := id hv.shape
  have hcheck := fun w1 (h1 : Below w.heap.size w w1) => check_any B w1 n exit _ _ (hv.below (h1.mono hB)) (by have := h1.size; omega)
  have hnew := fun w1 (h1 : Below w.heap.size w w1) => newShape_any B w1 n exit _ E (hv.below (h1.mono hB)) (by have := h1.size; omega) hg.n512 hg.lt hg.len
  rw [hg.chk] at hcheck
  have HC := Lib.hid hcheck
  have HN := Lib.hid hnew
  have hb0 := (Below.refl w.heap.size w).alloc (Nat.le_refl _) (.cells #[.int .i64 (n : Int), .int .i64 exit, .slice A (castE E).length c] 24)
  have hg0 := Blk.newAt w 24 #[.int .i64 (n : Int), .int .i64 exit, .slice A (castE E).length c] rfl
  have hn512 := hg.n512
  have hdm := fun (w1 : World) (sb : Nat) (h1 : IsShape w1.heap.size w1 sb (shapeOf n E)) => dominators_any w1.heap.size w1 sb (shapeOf n E) h1 (Nat.le_refl _) hg.shapeOk hg.okIn (by simp [shapeOf]; omega) k j t res hd hlen hord hres
  have HD := Lib.hid hdm
  clear hcheck hnew hes hv hdm hd hres
  go_enter Try.func18, Try.ntmps18
  go_wp2_with (first | (go_at_call 30; refine (HC.out _ hb0).mono ?_; rintro en w1 ⟨rfl, hb1⟩; have hg1 := hg0.below hb1 (by rw [World.size_alloc]; omega); have hb2 := hb0.trans (hb1.mono (by rw [World.size_alloc]; omega)); have c0 := hg1.cellAt (i := 0) rfl; have c1 := hg1.cellAt (i := 1) rfl; have c2 := hg1.cellAt (i := 2) rfl) | (go_at_call 47; refine (HN.out _ hb2).mono ?_; rintro en w2 ⟨sb, rfl, hsh, hb3⟩; have hb4 := hb2.trans (hb3.mono hb2.size)) | (go_at_call 52; refine (HD.out _ sb hsh).mono ?_; rintro en w3 ⟨vo, rfl, hvo, hb5⟩))
  go_ret2
  exact ⟨_, rfl, hvo, hb4.trans (hb5.mono hb4.size)⟩

theorem postdominatorsG_ok (n x : Nat) (exit : Int) (hx : exit = (x : Int)) (E : List (Nat × Nat)) (hv : Edges B w v (castE E)) (hB : B ≤ w.heap.size) (hg : GOk n exit E) (k j : Nat) (t : List Bool × List Nat) (res : List Int)
    (hd : foldO (dfsV ((shapeOf n E).rev x).next (-1) k) [x] (List.replicate n false, []) = some t) (hlen : t.2.length ≤ 100000) (hord : ∀ x ∈ t.2, x < n) (hres : domF ((shapeOf n E).rev x) k j t.2 = some res) :
    Calls Try.prog 20 #[.agg #[.int .i64 (n : Int), .int .i64 exit, v]] w fun en w' => ∃ vo, en = .returned (.tuple #[vo, .int .i64 0]) ∧ Ints w'.heap.size w' vo res ∧ Below w.heap.size w w' := by
  subst hx
  obtain ⟨A, c, rfl, hlc, -, hm, hes⟩ := id hv.shape
  have hcheck := fun w1 (h1 : Below w.heap.size w w1) => check_any B w1 n (x : Int) _ _ (hv.below (h1.mono hB)) (by have := h1.size; omega)
  have hnew := fun w1 (h1 : Below w.heap.size w w1) => newShape_any B w1 n (x : Int) _ E (hv.below (h1.mono hB)) (by have := h1.size; omega) hg.n512 hg.lt hg.len
  rw [hg.chk] at hcheck
  have HC := Lib.hid hcheck
  have HN := Lib.hid hnew
  have hb0 := (Below.refl w.heap.size w).alloc (Nat.le_refl _) (.cells #[.int .i64 (n : Int), .int .i64 (x : Int), .slice A (castE E).length c] 24)
  have hg0 := Blk.newAt w 24 #[.int .i64 (n : Int), .int .i64 (x : Int), .slice A (castE E).length c] rfl
  have hn512 := hg.n512
  have hxn : x < n := by have := hg.xn; omega
  have hdm := fun (w1 : World) (sb : Nat) (h1 : IsShape w1.heap.size w1 sb ((shapeOf n E).rev x)) => dominators_any w1.heap.size w1 sb ((shapeOf n E).rev x) h1 (Nat.le_refl _) (hg.shapeOkRev x) (hg.okInRev hxn) (by simp [shapeOf, Shp.rev]; omega) k j t res hd hlen hord hres
  have hrv := fun (w1 : World) (sb : Nat) (h1 : IsShape w1.heap.size w1 sb (shapeOf n E)) => reversed_any w1.heap.size w1 sb (shapeOf n E) x h1 (Nat.le_refl _)
  have HD := Lib.hid hdm
  have HRV := Lib.hid hrv
  clear hcheck hnew hes hv hdm hd hres hrv
  go_enter Try.func20, Try.ntmps20
  go_upto_region 4 with (go_at_call 30; refine (HC.out _ hb0).mono ?_; rintro en w1 ⟨rfl, hb1⟩; have hg1 := hg0.below hb1 (by rw [World.size_alloc]; omega); have hb2 := hb0.trans (hb1.mono (by rw [World.size_alloc]; omega)); have c0 := hg1.cellAt (i := 0) rfl; have c1 := hg1.cellAt (i := 1) rfl; have c2 := hg1.cellAt (i := 2) rfl)
  have hb2d := hb2.drew
  have hg1d := hg1.drew
  go_region_held3 (fun w' => w'.cell? ⟨w.heap.size, 0, none⟩ = some (.int .i64 (n : Int)) ∧ w'.cell? ⟨w.heap.size, 1, none⟩ = some (.int .i64 (x : Int)) ∧ w'.cell? ⟨w.heap.size, 2, none⟩ = some (.slice A (castE E).length c))
    (first | exact ⟨hg4.cellAt rfl, hg4.cellAt rfl, hg4.cellAt rfl⟩ | exact ⟨hg3.cellAt rfl, hg3.cellAt rfl, hg3.cellAt rfl⟩ | exact ⟨hg2.cellAt rfl, hg2.cellAt rfl, hg2.cellAt rfl⟩ | exact ⟨c0, c1, c2⟩)
    (first
      | (go_at_call 47; refine (HN.out _ hb2d).mono ?_; rintro en w2 ⟨sb, rfl, hsh, hb3⟩; have hb4 := hb2d.trans (hb3.mono hb2d.size); have hg2 := hg1d.below hb3 hg1d.lt)
      | (go_at_call 54; refine (HRV.out _ sb hsh).mono ?_; rintro en w3 ⟨sb2, rfl, hsh2, hb5⟩; have hg3 := hg2.below hb5 hg2.lt)
      | (go_at_call 52; refine (HD.out _ sb2 hsh2).mono ?_; rintro en w4 ⟨vo, rfl, hvo, hb6⟩; have hg4 := hg3.below hb6 hg3.lt))
  go_wp2
  go_ret2
  exact ⟨_, rfl, hvo, (hb4.trans (hb5.mono hb4.size)).trans (hb6.mono (Nat.le_trans hb4.size hb5.size))⟩

theorem backG_ok (n : Nat) (exit : Int) (E : List (Nat × Nat)) (hv : Edges B w v (castE E)) (hB : B ≤ w.heap.size) (hg : GOk n exit E) (k j : Nat) (t : List Bool × List Nat) (ab : List Int) (res : List Nat)
    (hd : foldO (dfsV (shapeOf n E).next (-1) k) [0] (List.replicate n false, []) = some t) (hlen : t.2.length ≤ 100000) (hord : ∀ x ∈ t.2, x < n) (hdom : domF (shapeOf n E) k j t.2 = some ab) (habl : ab.length = n) (habn : ∀ p, getI ab p < n) (hres : backF (shapeOf n E) ab t.1 k = some res) :
    Calls Try.prog 22 #[.agg #[.int .i64 (n : Int), .int .i64 exit, v]] w fun en w' => ∃ vo, en = .returned (.tuple #[vo, .int .i64 0]) ∧ Nats w'.heap.size w' vo res ∧ Below w.heap.size w w' := by
  obtain ⟨A, c, rfl, hlc, -, hm, hes⟩ := id hv.shape
  have hcheck := fun w1 (h1 : Below w.heap.size w w1) => check_any B w1 n exit _ _ (hv.below (h1.mono hB)) (by have := h1.size; omega)
  have hnew := fun w1 (h1 : Below w.heap.size w w1) => newShape_any B w1 n exit _ E (hv.below (h1.mono hB)) (by have := h1.size; omega) hg.n512 hg.lt hg.len
  rw [hg.chk] at hcheck
  have HC := Lib.hid hcheck
  have HN := Lib.hid hnew
  have hb0 := (Below.refl w.heap.size w).alloc (Nat.le_refl _) (.cells #[.int .i64 (n : Int), .int .i64 exit, .slice A (castE E).length c] 24)
  have hg0 := Blk.newAt w 24 #[.int .i64 (n : Int), .int .i64 exit, .slice A (castE E).length c] rfl
  have hn512 := hg.n512
  have hbk := fun (w1 : World) (sb : Nat) (h1 : IsShape w1.heap.size w1 sb (shapeOf n E)) => back_any w1.heap.size w1 sb (shapeOf n E) h1 (Nat.le_refl _) hg.shapeOk hg.okIn hg.okTo (by simp [shapeOf]; omega) k j t ab res hd hlen hord hdom habl habn hres
  have HD := Lib.hid hbk
  clear hcheck hnew hes hv hbk hd hres hdom habl
  go_enter Try.func22, Try.ntmps22
  go_wp2_with (first | (go_at_call 30; refine (HC.out _ hb0).mono ?_; rintro en w1 ⟨rfl, hb1⟩; have hg1 := hg0.below hb1 (by rw [World.size_alloc]; omega); have hb2 := hb0.trans (hb1.mono (by rw [World.size_alloc]; omega)); have c0 := hg1.cellAt (i := 0) rfl; have c1 := hg1.cellAt (i := 1) rfl; have c2 := hg1.cellAt (i := 2) rfl) | (go_at_call 47; refine (HN.out _ hb2).mono ?_; rintro en w2 ⟨sb, rfl, hsh, hb3⟩; have hb4 := hb2.trans (hb3.mono hb2.size)) | (go_at_call 56; refine (HD.out _ sb hsh).mono ?_; rintro en w3 ⟨vo, rfl, hvo, hb5⟩))
  go_ret2
  exact ⟨_, rfl, Sl.of_own natV (fun _ _ => rfl) hvo, hb4.trans (hb5.mono hb4.size)⟩
end
end Go.Proofs.Ytngfoinceakgdaa

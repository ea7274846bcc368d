/- Package graph: Out, In, Reachable. -/
import Derived.Test.YthaampinmelgaaaGreatDoorNew
import Derived.Test.YthaampinmelgaaaGreatDoorReach
import Derived.StillTailTactics
namespace Go.Proofs.YthaampinmelgaaaGreatDoor
open Go.RowKit Go.Shelf

theorem GOk.chk {n : Nat} {exit : Int} {E : List (Nat × Nat)} (h : GOk n exit E) : chk n exit (castE E) = 0 := by
  have h1 := h.n1; have h2 := h.n512; have h3 := h.x0; have h4 := h.xn; have h5 := h.len
  unfold Go.Proofs.YthaampinmelgaaaGreatDoor.chk
  rw [if_neg (by omega), if_neg (by rw [castE_length]; omega)]
  unfold chkTail
  rw [if_neg]
  intro ha
  obtain ⟨x, hx, hb⟩ := List.any_eq_true.1 ha
  obtain ⟨y, hy, rfl⟩ := List.mem_map.1 hx
  have := h.lt y hy
  simp [badEdge] at hb
  omega

theorem chk_ok {n exit : Int} {es : List (Int × Int)} (h : chk n exit es = 0) : ∃ (N : Nat) (E : List (Nat × Nat)), n = N ∧ es = castE E ∧ GOk N exit E := by
  unfold Go.Proofs.YthaampinmelgaaaGreatDoor.chk at h
  split at h
  · cases h
  split at h
  · cases h
  rename_i h1 h2
  unfold chkTail at h
  split at h
  · cases h
  rename_i h3
  have h4 : ∀ x ∈ es, ¬ badEdge n x = true := fun x hx hb => h3 (List.any_eq_true.2 ⟨x, hx, hb⟩)
  have h5 : ∀ x ∈ es, 0 ≤ x.1 ∧ x.1 < n ∧ 0 ≤ x.2 ∧ x.2 < n := fun x hx => by
    have := h4 x hx
    simp [badEdge] at this
    omega
  have he : es = castE (es.map fun x => (x.1.toNat, x.2.toNat)) := by
    unfold castE
    rw [List.map_map]
    refine (List.map_id es).symm.trans (List.map_congr_left fun x hx => ?_)
    have := h5 x hx
    simp only [id, Function.comp]
    exact Prod.ext (by simp; omega) (by simp; omega)
  refine ⟨n.toNat, es.map fun x => (x.1.toNat, x.2.toNat), by omega, he, by omega, by omega, by omega, by omega, by simp; omega, fun x hx => ?_⟩
  obtain ⟨y, hy, rfl⟩ := List.mem_map.1 hx
  have := h5 y hy
  simp only
  omega

theorem chk_range {n exit : Int} {es : List (Int × Int)} : chk n exit es = 0 ∨ chk n exit es = 2 ∨ chk n exit es = 5 ∨ chk n exit es = 6 := by
  unfold Go.Proofs.YthaampinmelgaaaGreatDoor.chk chkTail
  split
  · exact .inr (.inl rfl)
  split
  · exact .inr (.inr (.inl rfl))
  split
  · exact .inr (.inr (.inr rfl))
  · exact .inl rfl

theorem GOk.shapeOk {n : Nat} {exit : Int} {E : List (Nat × Nat)} (h : GOk n exit E) : (shapeOf n E).Ok := by
  refine ⟨by simp [shapeOf], ?_, ?_, by have := h.n512; simp [shapeOf]; omega⟩
  · intro es hes x hx
    obtain ⟨p, _, rfl⟩ := List.mem_map.1 hes
    have := List.mem_range.1 (List.mem_filter.1 hx).1
    simpa [shapeOf] using this
  · intro x hx
    obtain ⟨y, hy, rfl⟩ := List.mem_map.1 hx
    exact (h.lt y hy).2

theorem nats_one (w : World) (f : Nat) : Nats (w.alloc (.cells #[.int .i64 (f : Int)] 3)).heap.size (w.alloc (.cells #[.int .i64 (f : Int)] 3)) (.slice (some ⟨w.heap.size, 0, none⟩) 1 1) [f] :=
  Sl.of_blk (R := RNat) (xs := [f]) (c := 1) natV (fun _ _ => rfl) (Blk.new w 3 [.int .i64 (f : Int)]) (Nat.le_refl 1) (by unfold maxLen; omega) (by rw [World.size_alloc]; omega)

section
variable (B : Nat) (w : World) (v : Value)
set_option maxRecDepth 100000
set_option maxHeartbeats 1000000

theorem out_bad (n exit : Int) (es : List (Int × Int)) (hv : Edges B w v es) (hB : B ≤ w.heap.size) (hc : chk n exit es ≠ 0) :
    Calls Tryz.prog 18 #[.agg #[.int .i64 n, .int .i64 exit, v]] w fun en w' => en = .returned (.tuple #[.slice none 0 0, .int .i64 (chk n exit es)]) ∧ Below w.heap.size w w' := by
  obtain ⟨A, c, rfl, hlc, -, hm, hes⟩ := id hv.shape
  have hcheck := fun w1 (h1 : Below w.heap.size w w1) => check_any B w1 n exit _ es (hv.below (h1.mono hB)) (by have := h1.size; omega)
  have HC := Lib.hid hcheck
  clear hcheck hes hv
  go_enter Tryz.func18, Tryz.ntmps18
  go_wp2_with (go_at_call 23; refine (HC.out _ ((Below.refl _ _).alloc (Nat.le_refl _) _)).mono ?_; rintro en w1 ⟨rfl, hb1⟩)
  go_ret2
  exact ⟨rfl, ((Below.refl _ _).alloc (Nat.le_refl _) _).trans (hb1.mono (by simp))⟩

theorem out_ok (n : Nat) (exit : Int) (E : List (Nat × Nat)) (hv : Edges B w v (castE E)) (hB : B ≤ w.heap.size) (hg : GOk n exit E) :
    Calls Tryz.prog 18 #[.agg #[.int .i64 (n : Int), .int .i64 exit, v]] w fun en w' => ∃ vo, en = .returned (.tuple #[vo, .int .i64 0]) ∧ Natss w'.heap.size w' vo (shapeOf n E).out ∧ Below w.heap.size w w' := by
  obtain ⟨A, c, rfl, hlc, -, hm, hes⟩ := id hv.shape
  have hcheck := fun w1 (h1 : Below w.heap.size w w1) => check_any B w1 n exit _ _ (hv.below (h1.mono hB)) (by have := h1.size; omega)
  have hnew := fun w1 (h1 : Below w.heap.size w w1) => newShape_any B w1 n exit _ E (hv.below (h1.mono hB)) (by have := h1.size; omega) hg.n512 hg.lt hg.len
  rw [hg.chk] at hcheck
  have HC := Lib.hid hcheck
  have HN := Lib.hid hnew
  have hb0 := (Below.refl w.heap.size w).alloc (Nat.le_refl _) (.cells #[.int .i64 (n : Int), .int .i64 exit, .slice A (castE E).length c] 24)
  have hg0 := Blk.newAt w 24 #[.int .i64 (n : Int), .int .i64 exit, .slice A (castE E).length c] rfl
  clear hcheck hnew hes hv
  go_enter Tryz.func18, Tryz.ntmps18
  go_wp2_with (first | (go_at_call 23; refine (HC.out _ hb0).mono ?_; rintro en w1 ⟨rfl, hb1⟩; have hg1 := hg0.below hb1 (by rw [World.size_alloc]; omega); have hb2 := hb0.trans (hb1.mono (by rw [World.size_alloc]; omega)); have c0 := hg1.cellAt (i := 0) rfl; have c1 := hg1.cellAt (i := 1) rfl; have c2 := hg1.cellAt (i := 2) rfl) | (go_at_call 24; refine (HN.out _ hb2).mono ?_; rintro en w2 ⟨sb, rfl, ⟨hsb, vf, vt, vo, vi, hsh, hnf, hnt, hno, hni⟩, hb3⟩; have s4 := hsh.cellAt (i := 4) rfl))
  go_ret2
  exact ⟨_, rfl, hno, hb2.trans (hb3.mono hb2.size)⟩

theorem reachable_bad (n exit from_ : Int) (es : List (Int × Int)) (hv : Edges B w v es) (hB : B ≤ w.heap.size) (hc : chk n exit es ≠ 0) :
    Calls Tryz.prog 37 #[.agg #[.int .i64 n, .int .i64 exit, v], .int .i64 from_] w fun en w' => en = .returned (.tuple #[.slice none 0 0, .int .i64 (chk n exit es)]) ∧ Below w.heap.size w w' := by
  obtain ⟨A, c, rfl, hlc, -, hm, hes⟩ := id hv.shape
  have hcheck := fun w1 (h1 : Below w.heap.size w w1) => check_any B w1 n exit _ es (hv.below (h1.mono hB)) (by have := h1.size; omega)
  have HC := Lib.hid hcheck
  clear hcheck hes hv
  go_enter Tryz.func37, Tryz.ntmps37
  go_wp2_with (go_at_call 23; refine (HC.out _ ((Below.refl _ _).alloc (Nat.le_refl _) _)).mono ?_; rintro en w1 ⟨rfl, hb1⟩)
  go_ret2
  exact ⟨rfl, ((Below.refl _ _).alloc (Nat.le_refl _) _).trans (hb1.mono (by simp))⟩

theorem reachable_none (n : Nat) (exit from_ : Int) (E : List (Nat × Nat)) (hv : Edges B w v (castE E)) (hB : B ≤ w.heap.size) (hg : GOk n exit E) (hf : from_ < 0 ∨ n ≤ from_) :
    Calls Tryz.prog 37 #[.agg #[.int .i64 (n : Int), .int .i64 exit, v], .int .i64 from_] w fun en w' => en = .returned (.tuple #[.slice none 0 0, .int .i64 6]) ∧ Below w.heap.size w w' := by
  obtain ⟨A, c, rfl, hlc, -, hm, hes⟩ := id hv.shape
  have hcheck := fun w1 (h1 : Below w.heap.size w w1) => check_any B w1 n exit _ _ (hv.below (h1.mono hB)) (by have := h1.size; omega)
  have hnew := fun w1 (h1 : Below w.heap.size w w1) => newShape_any B w1 n exit _ E (hv.below (h1.mono hB)) (by have := h1.size; omega) hg.n512 hg.lt hg.len
  rw [hg.chk] at hcheck
  have HC := Lib.hid hcheck
  have HN := Lib.hid hnew
  have hb0 := (Below.refl w.heap.size w).alloc (Nat.le_refl _) (.cells #[.int .i64 (n : Int), .int .i64 exit, .slice A (castE E).length c] 24)
  have hg0 := Blk.newAt w 24 #[.int .i64 (n : Int), .int .i64 exit, .slice A (castE E).length c] rfl
  clear hcheck hnew hes hv
  rcases Int.lt_or_le from_ 0 with g | g
  · go_enter Tryz.func37, Tryz.ntmps37
    go_wp2_with (go_at_call 23; refine (HC.out _ hb0).mono ?_; rintro en w1 ⟨rfl, hb1⟩; have hg1 := hg0.below hb1 (by rw [World.size_alloc]; omega); have hb2 := hb0.trans (hb1.mono (by rw [World.size_alloc]; omega)); have c0 := hg1.cellAt (i := 0) rfl; have c1 := hg1.cellAt (i := 1) rfl; have c2 := hg1.cellAt (i := 2) rfl)
    go_ret2
    exact ⟨rfl, hb2⟩
  · have g1 : (n : Int) ≤ from_ := by omega
    go_enter Tryz.func37, Tryz.ntmps37
    go_wp2_with (go_at_call 23; refine (HC.out _ hb0).mono ?_; rintro en w1 ⟨rfl, hb1⟩; have hg1 := hg0.below hb1 (by rw [World.size_alloc]; omega); have hb2 := hb0.trans (hb1.mono (by rw [World.size_alloc]; omega)); have c0 := hg1.cellAt (i := 0) rfl; have c1 := hg1.cellAt (i := 1) rfl; have c2 := hg1.cellAt (i := 2) rfl)
    go_ret2
    exact ⟨rfl, hb2⟩

theorem reachable_ok (n : Nat) (exit : Int) (E : List (Nat × Nat)) (hv : Edges B w v (castE E)) (hB : B ≤ w.heap.size) (hg : GOk n exit E) (f : Nat) (hf : f < n) (k : Nat) (t : List Bool × List Nat) (hd : foldO (dfsV (shapeOf n E).next (-1) k) [f] (List.replicate n false, []) = some t) (ht : t.2.length ≤ 1000000) :
    Calls Tryz.prog 37 #[.agg #[.int .i64 (n : Int), .int .i64 exit, v], .int .i64 (f : Int)] w fun en w' => ∃ vo, en = .returned (.tuple #[vo, .int .i64 0]) ∧ Bools w'.heap.size w' vo t.1 ∧ Below w.heap.size w w' := by
  obtain ⟨A, c, rfl, hlc, -, hm, hes⟩ := id hv.shape
  have hcheck := fun w1 (h1 : Below w.heap.size w w1) => check_any B w1 n exit _ _ (hv.below (h1.mono hB)) (by have := h1.size; omega)
  have hnew := fun w1 (h1 : Below w.heap.size w w1) => newShape_any B w1 n exit _ E (hv.below (h1.mono hB)) (by have := h1.size; omega) hg.n512 hg.lt hg.len
  rw [hg.chk] at hcheck
  have HC := Lib.hid hcheck
  have HN := Lib.hid hnew
  have hb0 := (Below.refl w.heap.size w).alloc (Nat.le_refl _) (.cells #[.int .i64 (n : Int), .int .i64 exit, .slice A (castE E).length c] 24)
  have hg0 := Blk.newAt w 24 #[.int .i64 (n : Int), .int .i64 exit, .slice A (castE E).length c] rfl
  clear hcheck hnew hes hv
  have hok := hg.shapeOk
  have hreach := fun (w1 : World) (sb : Nat) (h1 : IsShape w1.heap.size w1 sb (shapeOf n E)) =>
    reach_any (w1.alloc (.cells #[.int .i64 (f : Int)] 3)).heap.size _ sb (shapeOf n E) (-1) (.slice (some ⟨w1.heap.size, 0, none⟩) 1 1) [f] k t ((h1.below ((Below.refl _ w1).alloc (Nat.le_refl _) _)).more (by rw [World.size_alloc]; omega)) (Nat.le_refl _) hok
      (nats_one w1 f) (by simpa [shapeOf] using hf) hd ht
  have HR := Lib.hid hreach
  have hf0 : (0 : Int) ≤ (f : Int) := by omega
  have hf1 : (f : Int) < (n : Int) := by omega
  clear hd hreach hok
  go_enter Tryz.func37, Tryz.ntmps37
  go_wp2_with (first | (go_at_call 23; refine (HC.out _ hb0).mono ?_; rintro en w1 ⟨rfl, hb1⟩; have hg1 := hg0.below hb1 (by rw [World.size_alloc]; omega); have hb2 := hb0.trans (hb1.mono (by rw [World.size_alloc]; omega)); have c0 := hg1.cellAt (i := 0) rfl; have c1 := hg1.cellAt (i := 1) rfl; have c2 := hg1.cellAt (i := 2) rfl) | (go_at_call 24; refine (HN.out _ hb2).mono ?_; rintro en w2 ⟨sb, rfl, hsh, hb3⟩; have hb4 := hb2.trans (hb3.mono hb2.size)) | (go_at_call 41; refine (HR.out _ sb hsh).mono ?_; rintro en w3 ⟨vr, vo, rfl, hvr, hvo, hb5⟩))
  go_ret2
  exact ⟨_, rfl, hvr, (hb4.alloc hb4.size _).trans (hb5.mono (by have := hb4.size; simp; omega))⟩
end
end Go.Proofs.YthaampinmelgaaaGreatDoor

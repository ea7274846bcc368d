/- The law GraphLimits. -/
import Derived.Test.YtngfoinceakgdaaAwake
import Derived.Test.YtngfoinceakgdaaRef1
import Derived.Test.YtngfoinceakgdaaFront
namespace Go.Proofs.Ytngfoinceakgdaa
open Go.RowKit Go.Shelf

/-- The edges of the long path. -/
def pathE (n m : Nat) : List (Nat × Nat) := if n = 0 then [] else (List.range m).map fun i => (i % n, (i + 1) % n)

theorem pathE_length {n : Nat} (hn : 1 ≤ n) (m : Nat) : (pathE n m).length = m := by unfold pathE; rw [if_neg (by omega)]; simp
theorem pathE_succ {n : Nat} (hn : 1 ≤ n) (m : Nat) : pathE n (m + 1) = pathE n m ++ [(m % n, (m + 1) % n)] := by
  unfold pathE
  rw [if_neg (by omega), if_neg (by omega), List.range_succ, List.map_append]
  rfl
theorem pathE_none (m : Nat) : pathE 0 m = [] := rfl

/-- The graph while its edges are added. -/
structure PS (w W : World) (n : Nat) (vr : Value) (E : List (Nat × Nat)) : Prop where
  g : Blk W w.heap.size 24 [.int .i64 (n : Int), .int .i64 0, vr]
  own : W.ownsRow (w.heap.size + 1) 58 21 vr E.length (E.map edgeRow).flatten
  bel : Below w.heap.size w W
  sz : w.heap.size + 1 ≤ W.heap.size
theorem PS.drewN {w W : World} {n : Nat} {vr : Value} {E : List (Nat × Nat)} (h : PS w W n vr E) (k : Nat) : PS w (W.drewN k) n vr E := ⟨h.g, h.own, below_drewN' h.bel k, h.sz⟩
theorem PS.drew {w W : World} {n : Nat} {vr : Value} {E : List (Nat × Nat)} (h : PS w W n vr E) : PS w W.drew n vr E := ⟨h.g, h.own, h.bel.drew, h.sz⟩
theorem PS.alloc {w W : World} {n : Nat} {vr : Value} {E : List (Nat × Nat)} (h : PS w W n vr E) (o : Obj) : PS w (W.alloc o) n vr E := ⟨h.g.alloc _, h.own.alloc _, h.bel.alloc h.bel.size _, by rw [World.size_alloc]; have := h.sz; omega⟩
theorem PS.step {w W W' : World} {n : Nat} {vr : Value} {E : List (Nat × Nat)} (h : PS w W n vr E) (hb : Below W.heap.size W W') : PS w W' n vr E := ⟨h.g.below hb h.g.lt, own_below h.own hb, h.bel.trans (hb.mono h.bel.size), Nat.le_trans h.sz hb.size⟩
theorem PS.edges {w W : World} {n : Nat} {vr : Value} {E : List (Nat × Nat)} (h : PS w W n vr E) : Edges W.heap.size W vr (castE E) := Edges.of_edgeRows h.own
theorem modN (k n : Nat) : ((k : Int) % (n : Int)) = ((k % n : Nat) : Int) := by simp

theorem castE_inj {E E' : List (Nat × Nat)} (h : castE E = castE E') : E = E' := by
  unfold castE at h
  refine List.map_inj_right (fun x y hxy => ?_) |>.1 h
  have h1 := congrArg Prod.fst hxy
  have h2 := congrArg Prod.snd hxy
  simp only at h1 h2
  exact Prod.ext (by omega) (by omega)
theorem gok_of {n : Nat} {exit : Int} {E : List (Nat × Nat)} (h : chk n exit (castE E) = 0) : GOk n exit E := by
  obtain ⟨N, E', h1, h2, h3⟩ := chk_ok h
  have e1 : n = N := by omega
  have e2 := castE_inj h2
  subst e1
  subst e2
  exact h3

/-- On the long path just the points up to the number of edges can be reached. -/
theorem path_reach {n m : Nat} (hn : 1 ≤ n) (p : Nat) (hp : p < n) : Rch (shapeOf n (pathE n m)).next (fun _ => True) 0 p ↔ p ≤ m := by
  have hmem : ∀ x y, (x, y) ∈ pathE n m ↔ ∃ i, i < m ∧ i % n = x ∧ (i + 1) % n = y := fun x y => by
    unfold pathE
    rw [if_neg (by omega), List.mem_map]
    constructor
    · rintro ⟨i, hi, he⟩
      exact ⟨i, List.mem_range.1 hi, congrArg Prod.fst he, congrArg Prod.snd he⟩
    · rintro ⟨i, hi, rfl, rfl⟩
      exact ⟨i, List.mem_range.2 hi, rfl⟩
  have hlt : ∀ p, p < n → ∀ x ∈ (shapeOf n (pathE n m)).next p, x < n := fun p hp x hx => by
    obtain ⟨i, -, -, rfl⟩ := (hmem p x).1 ((mem_next hp).1 hx)
    exact Nat.mod_lt _ (by omega)
  constructor
  · intro h
    have key : ∀ q, Rch (shapeOf n (pathE n m)).next (fun _ => True) 0 q → q < n ∧ q ≤ m := by
      intro q hq
      induction hq with
      | refl _ => exact ⟨by omega, Nat.zero_le _⟩
      | @step b c _ hc _ ih =>
        obtain ⟨i, hi, h1, rfl⟩ := (hmem b c).1 ((mem_next ih.1).1 hc)
        refine ⟨Nat.mod_lt _ (by omega), ?_⟩
        have := Nat.mod_le (i + 1) n
        omega
    exact (key p h).2
  · intro h
    induction p with
    | zero => exact .refl trivial
    | succ p ih =>
      refine .step (ih (by omega) (by omega)) ((mem_next (by omega)).2 ((hmem p (p + 1)).2 ⟨p, by omega, Nat.mod_eq_of_lt (by omega), Nat.mod_eq_of_lt hp⟩)) trivial

set_option maxRecDepth 100000 in
set_option maxHeartbeats 8000000 in
theorem limits_any (a b : Nat) (ha : a < 65536) (hb : b < 65536) (w : World) :
    Calls Try.prog 7 #[.int .u16 (a : Int), .int .u16 (b : Int)] w fun en w' => en = .returned (.bool true) ∧ Below w.heap.size w w' := by
  obtain ⟨n, hn, hn2⟩ : ∃ n, n = a % 515 ∧ n < 515 := ⟨_, rfl, Nat.mod_lt _ (by decide)⟩
  obtain ⟨m, hm, hm2⟩ : ∃ m, m = b % 1027 ∧ m < 1027 := ⟨_, rfl, Nat.mod_lt _ (by decide)⟩
  have ha' : (a : Int) < 65536 := by omega
  have hb' : (b : Int) < 65536 := by omega
  have HN := Lib.hid (show (a : Int) % 515 = (n : Int) by omega)
  have HM := Lib.hid (show (b : Int) % 1027 = (m : Int) by omega)
  clear hn hm
  go_enter Try.func7, Try.ntmps7
  go_wp2
  rw [HN.out, HM.out]
  clear ha hb ha' hb' HN HM
  obtain ⟨ie, hi, hz0, hz1, hz2⟩ := info_parts info_edge
  go_loopw [20] (fun y wr => ∃ (k : Nat) (vr : Value), k ≤ m ∧ y = .int .i64 k ∧ PS w wr n vr (pathE n k)) (fun y _ => m - (intOf y).toNat)
  case atStart =>
    have h0 : pathE n 0 = [] := by unfold pathE; split <;> rfl
    refine ⟨0, nil0, Nat.zero_le _, rfl, Blk.newAt w 24 #[.int .i64 (n : Int), .int .i64 0, nil0] rfl, by rw [h0]; exact World.ownsRow_nil _ _ _ _, (Below.refl _ _).alloc (Nat.le_refl _) _, by simp⟩
  case round =>
    obtain ⟨k, vr, hk, rfl, hp⟩ := hrel
    by_cases hlt : k < m
    · have hlt1 : (k : Int) < (m : Int) := by omega
      by_cases hn0 : n = 0
      · subst hn0
        rw [pathE_none] at hp
        go_wp2
        go_roundw
        case rel => exact ⟨k + 1, _, by omega, by go_num, by rw [pathE_none]; exact hp⟩
        case measure => simp [intOf]; omega
      · have hn1 : (0 : Int) < (n : Int) := by omega
        have hn1' : 1 ≤ n := by omega
        have hpl := pathE_length hn1' k
        have hps := pathE_succ hn1' k
        have hm1 := modN k n
        have hm3 := modN (k + 1) n
        have HPS := Lib.hid hps
        have HPL := Lib.hid hpl
        have HM1 := Lib.hid hm1
        have HM3 := Lib.hid hm3
        clear hps hpl hm1 hm3 hn0
        go_upto_region 7 with fail
        have hq := hp.drew
        have hHeld : wr.drew.cell? ⟨w.heap.size, 2, none⟩ = some vr := hq.g.cellAt rfl
        clear hp
        refine wp_region_front (S := fun w' => w'.cell? ⟨w.heap.size, 2, none⟩ = some vr) 0 11 (by kernel_rfl) (by kernel_rfl) (by decide) rfl (by kernel_rfl) (by kernel_rfl) (fun _ _ _ h => h) (.inl ⟨by rfl, fun w' => by rfl⟩) ?_
        simp only [Act.put, List.setIfInBounds_toArray, List.set_cons_zero, List.set_cons_succ]
        revert hq hHeld
        generalize wr.drew = wz
        intro hq hHeld
        refine Front.take 1 (v := ?_) rfl (by decide) (by kernel_rfl) (by kernel_rfl) (fun _ _ _ h => h) rfl hHeld ?_ ?_
        case refine_2 => intro w' hSw; go_simp <;> with_reducible rfl
        simp only [Act.put, List.setIfInBounds_toArray, List.set_cons_zero, List.set_cons_succ]
        refine Front.take 2 (v := ?_) rfl (by decide) (by kernel_rfl) (by kernel_rfl) (fun _ _ _ h => h) rfl hHeld ?_ ?_
        case refine_2 => intro w' hSw; go_simp <;> with_reducible rfl
        simp only [Act.put, List.setIfInBounds_toArray, List.set_cons_zero, List.set_cons_succ]
        refine Front.take 3 (v := ?_) rfl (by decide) (by kernel_rfl) (by kernel_rfl) (fun _ _ _ h => h) rfl hHeld ?_ ?_
        case refine_2 => intro w' hSw; go_simp <;> with_reducible rfl
        simp only [Act.put, List.setIfInBounds_toArray, List.set_cons_zero, List.set_cons_succ]
        refine Front.take 4 (v := .int .i64 ((k % n : Nat) : Int)) rfl (by decide) (by kernel_rfl) (by kernel_rfl) (fun _ _ _ h => h) rfl hHeld ?_ ?_
        · intro w' hSw
          go_simp
          rw [if_neg (by omega), Int.tmod_eq_emod_of_nonneg (by omega)]
        simp only [Act.put, List.setIfInBounds_toArray, List.set_cons_zero, List.set_cons_succ]
        refine Front.take 5 (v := ?_) rfl (by decide) (by kernel_rfl) (by kernel_rfl) (fun _ _ _ h => h) rfl hHeld ?_ ?_
        case refine_2 => intro w' hSw; go_simp <;> with_reducible rfl
        simp only [Act.put, List.setIfInBounds_toArray, List.set_cons_zero, List.set_cons_succ]
        refine Front.take 6 (v := .int .i64 ((k : Int) + 1)) rfl (by decide) (by kernel_rfl) (by kernel_rfl) (fun _ _ _ h => h) rfl hHeld ?_ ?_
        · intro w' hSw
          go_simp
          rw [IntWalk.i64_in _ (by omega)]
        simp only [Act.put, List.setIfInBounds_toArray, List.set_cons_zero, List.set_cons_succ]
        refine Front.take 7 (v := ?_) rfl (by decide) (by kernel_rfl) (by kernel_rfl) (fun _ _ _ h => h) rfl hHeld ?_ ?_
        case refine_2 => intro w' hSw; go_simp <;> with_reducible rfl
        simp only [Act.put, List.setIfInBounds_toArray, List.set_cons_zero, List.set_cons_succ]
        refine Front.take 8 (v := .int .i64 (((k + 1) % n : Nat) : Int)) rfl (by decide) (by kernel_rfl) (by kernel_rfl) (fun _ _ _ h => h) rfl hHeld ?_ ?_
        · intro w' hSw
          go_simp
          rw [if_neg (by omega), Int.tmod_eq_emod_of_nonneg (by omega)]
        simp only [Act.put, List.setIfInBounds_toArray, List.set_cons_zero, List.set_cons_succ]
        refine Front.take 9 (v := ?_) rfl (by decide) (by kernel_rfl) (by kernel_rfl) (fun _ _ _ h => h) rfl hHeld ?_ ?_
        case refine_2 => intro w' hSw; go_simp <;> with_reducible rfl
        simp only [Act.put, List.setIfInBounds_toArray, List.set_cons_zero, List.set_cons_succ]
        refine Front.one (i := 10) (by kernel_rfl) (by decide) ?_
        refine FrontStep.of rfl (fun K hK => ?_)
        go_simp
        have hm1 := hq.alloc (.cells (edgeRow (k % n, (k + 1) % n)).toArray 58)
        have hb1 := Blk.new wz 58 (edgeRow (k % n, (k + 1) % n))
        refine hK _ (wz.alloc (.cells (edgeRow (k % n, (k + 1) % n)).toArray 58)) (hm1.g.cellAt rfl) ?_
        clear K hK
        revert hm1 hb1
        generalize wz.alloc (.cells (edgeRow (k % n, (k + 1) % n)).toArray 58) = w1
        generalize wz.heap.size = eb
        intro hm1 hb1
        have hO := hm1.own
        rw [HPL.out] at hO
        have c2 := hm1.g.cellAt (i := 2) rfl
        have hsz := hm1.sz
        refine Front.done (by kernel_rfl) ?_
        simp only [List.drop_succ_cons, List.drop_zero]
        clear hHeld hq
        go_wp2_with (at_builtin; refine wpList_append_own_at _ rfl (.tmp 26) (.tmp 35) 22 rfl (w.heap.size + 1) 58 ie edge0 21 280 Try.underlying22 hi hz0 hz1 hz2 rfl (by decide) vr k _ rfl hO ⟨eb, 0, none⟩ 1 1 (edgeRow (k % n, (k + 1) % n)) rfl rfl ?c1 ?c2 ?c3 ?c4 ?c5 ?_)
        case c1 =>
          intro j u hj
          rw [add_none]
          exact hb1.cellAt hj
        case c2 => exact edgeRow_one _
        case c3 => simp only [maxLen]; omega
        case c4 => omega
        case c5 => exact hsz
        intro v' w' hown' hgrow _ _
        obtain ⟨g, cap, rfl⟩ := ownsRow_succ hown'
        have hA := hm1.g.keptOwn hgrow hO (by decide)
        have d2 := hA.cellAt (i := 2) rfl
        have f2 := hA.frozen 2
        have hS := hA.set 2 (.slice (some ⟨g, 0, none⟩) (k + 1) cap)
        have hSo := ownsRow_setCell_below (a := ⟨w.heap.size, 2, none⟩) hown' (by show w.heap.size < _; omega) (.slice (some ⟨g, 0, none⟩) (k + 1) cap)
        have hbx : Below w.heap.size w w' := hm1.bel.grown hgrow (by omega) (fun j hj => by have := (hO.lt j hj).1; omega)
        have hby := hbx.setCell (p := ⟨w.heap.size, 2, none⟩) (Nat.le_refl _) (.slice (some ⟨g, 0, none⟩) (k + 1) cap)
        have hsz2 : w.heap.size + 1 ≤ w'.heap.size := by have := hgrow.size; omega
        have hfin : PS w (w'.setCell ⟨w.heap.size, 2, none⟩ (.slice (some ⟨g, 0, none⟩) (k + 1) cap)) n (.slice (some ⟨g, 0, none⟩) (k + 1) cap) (pathE n (k + 1)) := by
          refine ⟨hS, ?_, hby, by rw [World.size_setCell]; exact hsz2⟩
          rw [HPS.out, List.length_append, HPL.out, List.map_append, List.flatten_append]
          simpa using hSo
        have HFIN := Lib.hid hfin
        clear hA hS hSo hbx hby hfin hown' hgrow hO hm1 hb1 c2
        go_wp2
        go_roundw
        case rel => exact ⟨k + 1, _, by omega, by go_num, HFIN.out⟩
        case measure => simp [intOf]; omega
    · obtain rfl : k = m := by omega
      clear hlt hk
      obtain ⟨c0, c1, c2⟩ : wr.cell? ⟨w.heap.size, 0, none⟩ = some (.int .i64 (n : Int)) ∧ wr.cell? ⟨w.heap.size, 1, none⟩ = some (.int .i64 0) ∧ wr.cell? ⟨w.heap.size, 2, none⟩ = some vr := ⟨hp.g.cellAt rfl, hp.g.cellAt rfl, hp.g.cellAt rfl⟩
      by_cases hc : chk n 0 (castE (pathE n k)) = 0
      · have hg := gok_of hc
        have hn1 := hg.n1
        obtain ⟨t, ht⟩ := dfs_total (wo := -1) hg.next_lt (k := n + 1) (Nat.lt_succ_self n) (xs := [0]) (by intro x hx; simp at hx; omega)
        have hto := dfs_order hg.next_lt (by intro x hx; simp at hx; omega) ht
        have htr := dfs_reach hg.next_lt (by intro x hx; simp at hx; omega) ht
        have hlen : t.1.length = n := hto.2.2.2.1
        have hall : ∀ p, p < n → t.1.getD p false = decide (p ≤ k) := fun p hpn => by
          have h1 := path_reach hn1 (m := k) p hpn
          have h2 := htr p
          have h3 : (∃ a ∈ [0], Rch (shapeOf n (pathE n k)).next (fun q => (q : Int) ≠ -1) a p) ↔ p ≤ k := by
            rw [← h1]
            constructor
            · rintro ⟨a, ha, hr⟩
              simp at ha
              subst ha
              exact hr.mono fun _ _ => trivial
            · intro hr
              exact ⟨0, by simp, hr.mono fun _ _ => by omega⟩
          rw [h3] at h2
          by_cases hpk : p ≤ k
          · rw [h2.2 hpk, decide_eq_true hpk]
          · rw [decide_eq_false hpk]
            cases hq : t.1.getD p false with
            | false => rfl
            | true => exact absurd (h2.1 hq) hpk
        have hchk := fun W (h : PS w W n vr (pathE n k)) => check_any W.heap.size W n 0 vr _ h.edges (Nat.le_refl _)
        have hrchk := fun W (h : PS w W n vr (pathE n k)) => rcheck_any W.heap.size W n 0 vr _ h.edges (Nat.le_refl _)
        have hrea := fun W (h : PS w W n vr (pathE n k)) => reachable_ok W.heap.size W vr n 0 (pathE n k) h.edges (Nat.le_refl _) hg 0 (by omega) (n + 1) t ht (by have := hto.2.2.1; omega)
        rw [hc] at hchk hrchk
        have HC := Lib.hid hchk
        have HRC := Lib.hid hrchk
        have HRE := Lib.hid hrea
        have HALL := Lib.hid hall
        have HLEN := Lib.hid hlen
        have HPL := Lib.hid (pathE_length hn1 k)
        clear hchk hrchk hrea hall hc htr hto ht hg hlen
        go_upto_region 10 with (go_at_call 30; refine (HC.out _ hp).mono ?_; rintro en w1 ⟨rfl, hw1⟩)
        have hp1 := hp.step hw1
        clear c0 c1 c2 hp hw1
        obtain ⟨c0, c1, c2⟩ : w1.cell? ⟨w.heap.size, 0, none⟩ = some (.int .i64 (n : Int)) ∧ w1.cell? ⟨w.heap.size, 1, none⟩ = some (.int .i64 0) ∧ w1.cell? ⟨w.heap.size, 2, none⟩ = some vr := ⟨hp1.g.cellAt rfl, hp1.g.cellAt rfl, hp1.g.cellAt rfl⟩
        go_upto_region 11 with (go_at_call 31; refine (HRE.out _ hp1).mono ?_; rintro en w2 ⟨vo, rfl, hvo, hw2⟩)
        have hp2 := hp1.step hw2
        clear c0 c1 c2 hp1 hw2
        go_wp2_with fail
        refine (awake_any w2).mono ?_
        rintro en w3 ⟨rfl, hw3⟩
        have hp3 := hp2.step hw3
        have hvo3 := (Bools.below hvo hw3).more hw3.size
        clear hp2 hw3 hvo
        obtain ⟨c0, c1, c2⟩ : w3.cell? ⟨w.heap.size, 0, none⟩ = some (.int .i64 (n : Int)) ∧ w3.cell? ⟨w.heap.size, 1, none⟩ = some (.int .i64 0) ∧ w3.cell? ⟨w.heap.size, 2, none⟩ = some vr := ⟨hp3.g.cellAt rfl, hp3.g.cellAt rfl, hp3.g.cellAt rfl⟩
        go_wp2_with fail
        refine (HRC.out _ hp3).mono ?_
        rintro en w4 ⟨rfl, hw4⟩
        have hp4 := hp3.step hw4
        have hvo4 := (Bools.below hvo3 hw4).more hw4.size
        clear hp3 hw4 hvo3 c0 c1 c2
        obtain ⟨Ao, co, rfl, -, -, hmo, -⟩ := hvo4.shape
        obtain ⟨Av, cv, rfl, -, -, hmv, -⟩ := hp4.edges.shape
        obtain ⟨ln, hln⟩ : ∃ ln, ln = t.1.length := ⟨_, rfl⟩
        obtain ⟨le, hle⟩ : ∃ le, le = (castE (pathE n k)).length := ⟨_, rfl⟩
        have hln2 : ln = n := hln.trans HLEN.out
        have hle2 : le = k := by rw [hle, castE_length]; exact HPL.out
        rw [← hln] at hvo4 ⊢
        rw [← hle] at hp4 ⊢
        subst hln2
        subst hle2
        have HLN := Lib.hid hln
        clear hln hle hmo hmv
        go_wp2
        go_loopw [66] (fun y wr => ∃ p : Nat, p ≤ ln ∧ y = .int .i64 p ∧ Only (fun _ => False) w4 wr) (fun y _ => ln - (intOf y).toNat)
        case atStart => exact ⟨0, Nat.zero_le _, rfl, Only.refl _ _⟩
        case round =>
          obtain ⟨p, hpl, rfl, ho⟩ := hrel
          by_cases hpn : p < ln
          · have hpn1 : (p : Int) < (ln : Int) := by omega
            have hpt : p < t.1.length := by have := HLN.out; omega
            obtain ⟨ad, rfl, -, hcell⟩ := Bools.at hvo4 hpt
            rw [HALL.out p hpn] at hcell
            have hcell' := ho.cellAt hcell
            have c2 := (hp4.g.only ho (fun h => h)).cellAt (i := 2) rfl
            clear hcell
            by_cases hpk : p ≤ le
            · rw [decide_eq_true hpk] at hcell'
              have hpk1 : (p : Int) ≤ (le : Int) := by omega
              go_wp2
              go_quiet (fail)
              go_wp2
              go_roundw
              case rel => exact ⟨p + 1, by omega, by go_num, ho.drewN _⟩
              case measure => simp [intOf]; omega
            · rw [decide_eq_false hpk] at hcell'
              have hpk1 : (le : Int) < (p : Int) := by omega
              have hpk2 : ¬ ((p : Int) ≤ (le : Int)) := by omega
              go_wp2
              go_quiet (fail)
              go_wp2
              go_roundw
              case rel => exact ⟨p + 1, by omega, by go_num, ho.drewN _⟩
              case measure => simp [intOf]; omega
          · obtain rfl : p = ln := by omega
            have hB5 : Below w.heap.size w wr := hp4.bel.trans (ho.below hp4.bel.size (fun _ _ h => h))
            go_wp2
            go_ret
            exact ⟨rfl, hB5⟩
      · obtain ⟨cc, hcc⟩ : ∃ cc, cc = chk n 0 (castE (pathE n k)) := ⟨_, rfl⟩
        have hchk := fun W (h : PS w W n vr (pathE n k)) => check_any W.heap.size W n 0 vr _ h.edges (Nat.le_refl _)
        have hrchk := fun W (h : PS w W n vr (pathE n k)) => rcheck_any W.heap.size W n 0 vr _ h.edges (Nat.le_refl _)
        have hrea := fun W (h : PS w W n vr (pathE n k)) => reachable_bad W.heap.size W vr n 0 0 _ h.edges (Nat.le_refl _) hc
        rw [← hcc] at hchk hrchk hrea hc
        clear hcc
        have hb1 : (cc != 0) = true := by simpa using hc
        have hb2 : (cc == 0) = false := by simpa using hc
        have HC := Lib.hid hchk
        have HRC := Lib.hid hrchk
        have HRE := Lib.hid hrea
        clear hchk hrchk hrea
        go_upto_region 10 with (go_at_call 30; refine (HC.out _ hp).mono ?_; rintro en w1 ⟨rfl, hw1⟩)
        have hp1 := hp.step hw1
        clear c0 c1 c2 hp hw1
        obtain ⟨c0, c1, c2⟩ : w1.cell? ⟨w.heap.size, 0, none⟩ = some (.int .i64 (n : Int)) ∧ w1.cell? ⟨w.heap.size, 1, none⟩ = some (.int .i64 0) ∧ w1.cell? ⟨w.heap.size, 2, none⟩ = some vr := ⟨hp1.g.cellAt rfl, hp1.g.cellAt rfl, hp1.g.cellAt rfl⟩
        go_upto_region 11 with (go_at_call 31; refine (HRE.out _ hp1).mono ?_; rintro en w2 ⟨rfl, hw2⟩)
        have hp2 := hp1.step hw2
        clear c0 c1 c2 hp1 hw2
        go_wp2_with fail
        refine (awake_any w2).mono ?_
        rintro en w3 ⟨rfl, hw3⟩
        have hp3 := hp2.step hw3
        clear hp2 hw3
        obtain ⟨c0, c1, c2⟩ : w3.cell? ⟨w.heap.size, 0, none⟩ = some (.int .i64 (n : Int)) ∧ w3.cell? ⟨w.heap.size, 1, none⟩ = some (.int .i64 0) ∧ w3.cell? ⟨w.heap.size, 2, none⟩ = some vr := ⟨hp3.g.cellAt rfl, hp3.g.cellAt rfl, hp3.g.cellAt rfl⟩
        go_wp2_with fail
        refine (HRC.out _ hp3).mono ?_
        rintro en w4 ⟨rfl, hw4⟩
        have hB4 := hp3.bel.trans (hw4.mono hp3.bel.size)
        go_wp2
        go_ret
        exact ⟨rfl, hB4⟩
#print axioms limits_any

end Go.Proofs.Ytngfoinceakgdaa

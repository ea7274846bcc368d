/- The reference: Immediate, Dominators, Postdominators. -/
import Derived.Test.YtngfoinceakgdaaDomin
import Derived.Test.YtngfoinceakgdaaTurned
import Derived.Test.YtngfoinceakgdaaEq
namespace Go.Proofs.Ytngfoinceakgdaa
open Go.RowKit Go.Shelf

theorem mem_swapE {E : List (Nat × Nat)} {p x : Nat} : (p, x) ∈ swapE E ↔ (x, p) ∈ E := by
  unfold swapE
  rw [List.mem_map]
  constructor
  · rintro ⟨⟨a, b⟩, h, e⟩
    cases e; exact h
  · intro h; exact ⟨(x, p), h, rfl⟩
theorem GOk.swap {n : Nat} {exit : Int} {E : List (Nat × Nat)} (hg : GOk n exit E) : GOk n exit (swapE E) := by
  refine ⟨hg.n1, hg.n512, hg.x0, hg.xn, by unfold swapE; simpa using hg.len, fun x hx => ?_⟩
  obtain ⟨a, b⟩ := x
  have := hg.lt _ (mem_swapE.1 hx)
  exact ⟨this.2, this.1⟩
/-- How many points a row of the matrix holds. -/
def cntD (n : Nat) (D : Nat → Nat → Bool) (i : Nat) : Nat := ((List.range n).map (D i)).count true
/-- One candidate for the immediate dominator of p. -/
def immStep (n : Nat) (D : Nat → Nat → Bool) (p : Nat) (b : Int) (d : Nat) : Int := if d ≠ p ∧ D p d = true ∧ (b < 0 ∨ cntD n D b.toNat < cntD n D d) then (d : Int) else b
def immF (n : Nat) (D : Nat → Nat → Bool) (p : Nat) : Int := (List.range n).foldl (immStep n D p) (-1)
theorem immFold_succ (n : Nat) (D : Nat → Nat → Bool) (p d : Nat) (b : Int) : (List.range (d + 1)).foldl (immStep n D p) b = immStep n D p ((List.range d).foldl (immStep n D p) b) d := by
  rw [List.range_succ, List.foldl_append]; rfl
theorem immFold_lt (n : Nat) (D : Nat → Nat → Bool) (p : Nat) : ∀ d, -1 ≤ (List.range d).foldl (immStep n D p) (-1) ∧ (List.range d).foldl (immStep n D p) (-1) < (d : Int)
  | 0 => by simp
  | d + 1 => by
    have ih := immFold_lt n D p d
    rw [immFold_succ]
    revert ih
    generalize (List.range d).foldl (immStep n D p) (-1) = b
    intro ih
    unfold immStep
    split <;> omega
/-- The list while it is made: of the points before p it is done. -/
def immL (n : Nat) (D : Nat → Nat → Bool) (p : Nat) (x : Int) : List Int := (List.range n).map fun i => if i < p then immF n D i else if i = p then x else 0
theorem immL_set {n : Nat} {D : Nat → Nat → Bool} {p : Nat} {x y : Int} : (immL n D p x).set p y = immL n D p y := by
  unfold immL
  apply List.ext_getElem
  · simp
  · intro i h1 h2
    simp only [List.getElem_set, List.getElem_map, List.getElem_range]
    by_cases e : p = i
    · subst e; simp
    · rw [if_neg e]
      by_cases h : i < p
      · rw [if_pos h, if_pos h]
      · rw [if_neg h, if_neg h, if_neg (fun h => e h.symm), if_neg (fun h => e h.symm)]
theorem immL_next {n : Nat} {D : Nat → Nat → Bool} {p : Nat} : immL n D p (immF n D p) = immL n D (p + 1) 0 := by
  unfold immL
  refine List.map_congr_left fun i _ => ?_
  by_cases h : i < p
  · rw [if_pos h, if_pos (by omega)]
  · rw [if_neg h]
    by_cases e : i = p
    · subst e; rw [if_pos rfl, if_pos (by omega)]
    · rw [if_neg e, if_neg (by omega)]; simp
theorem immL_at {n : Nat} {D : Nat → Nat → Bool} {p : Nat} {x : Int} (h : p < n) : ((immL n D p x).map intV)[p]? = some (.int .i64 x) := by simp [immL, intV, h]
theorem immL_zero {n : Nat} {D : Nat → Nat → Bool} : (immL n D 0 0).map intV = List.replicate n (.int .i64 0) := by
  unfold immL
  rw [List.map_map]
  exact List.eq_replicate_iff.2 ⟨by simp, fun b hb => by
    obtain ⟨i, -, rfl⟩ := List.mem_map.1 hb
    simp [intV]⟩
theorem immL_all {n : Nat} {D : Nat → Nat → Bool} : immL n D n 0 = (List.range n).map (immF n D) := by
  unfold immL
  exact List.map_congr_left fun i hi => by rw [if_pos (List.mem_range.1 hi)]

/-- The list of numbers that is made, beside a matrix. -/
structure OB (w W : World) (gv : List Value) (n N ob : Nat) (A : Option Addr) (M : Nat → Nat → Bool) (o : List Int) : Prop where
  g : Blk W w.heap.size 24 gv
  b : Blk W ob 3 (o.map intV)
  mat : MatP (fun b => b ≠ ob ∧ b < N) W A n M
  bel : Below w.heap.size w W
  sz : N ≤ W.heap.size
  lo : w.heap.size < ob
section
variable {w W W' : World} {gv : List Value} {n N ob : Nat} {A : Option Addr} {M : Nat → Nat → Bool} {o : List Int}
theorem OB.drewN (h : OB w W gv n N ob A M o) (k : Nat) : OB w (W.drewN k) gv n N ob A M o := ⟨h.g, h.b, h.mat, below_drewN' h.bel k, h.sz, h.lo⟩
theorem OB.set (h : OB w W gv n N ob A M o) (q : Nat) (x : Int) : OB w (W.setCell ⟨ob, q, none⟩ (.int .i64 x)) gv n N ob A M (o.set q x) := by
  have hlo := h.lo
  refine ⟨h.g.far (by show w.heap.size ≠ ob; omega) _, ?_, h.mat.keep (fun _ hp => World.cell?_of_block (Below.heap_setCell _ _ _ _ hp.1)), h.bel.setCell (by show w.heap.size ≤ ob; omega) _, by rw [World.size_setCell]; exact h.sz, h.lo⟩
  have := h.b.set q (.int .i64 x)
  rw [List.map_set]
  exact this
end

set_option maxRecDepth 100000 in
set_option maxHeartbeats 8000000 in
theorem immediate_any (B : Nat) (w : World) (v : Value) (n : Nat) (exit : Int) (E : List (Nat × Nat)) (hv : Edges B w v (castE E)) (hB : B ≤ w.heap.size) (hn : n ≤ 512) (hE : ∀ x ∈ E, x.1 < n ∧ x.2 < n) (hlE : E.length ≤ 1024) (f : Nat) (hf : f < n) :
    Calls Try.prog 53 #[.agg #[.int .i64 (n : Int), .int .i64 exit, v], .int .i64 (f : Int)] w fun en w' => ∃ vo, en = .returned vo ∧ Ints w'.heap.size w' vo ((List.range n).map (immF n (domB n E f))) ∧ Below w.heap.size w w' := by
  obtain ⟨A, c, rfl, hlc, -, hm, -⟩ := id hv.shape
  have hlen0 : (castE E).length = E.length := castE_length E
  have hdo := fun (W : World) (hb : Below w.heap.size w W) => dominates_any B W _ n exit E (hv.below (hb.mono hB)) (Nat.le_trans hB hb.size) hn hE hlE f hf
  rw [hlen0] at hlc hm hdo ⊢
  have HDO := Lib.hid hdo
  have hmk := make_one (P := Try.prog) 27 3 (.int .i64 0) 8 Try.underlying27 info_int rfl n (by omega) (by omega)
  have hg0 := Blk.newAt w 24 #[.int .i64 (n : Int), .int .i64 exit, .slice A E.length c] rfl
  have hb0 := (Below.refl w.heap.size w).alloc (Nat.le_refl _) (.cells #[.int .i64 (n : Int), .int .i64 exit, .slice A E.length c] 24)
  clear hdo hlen0 hv
  go_enter Try.func53, Try.ntmps53
  go_upto_region 2 with (go_at_call 76; refine (HDO.out _ hb0).mono ?_; rintro en w1 ⟨gm, rfl, hmat, hw1⟩)
  have hg1 := hg0.below hw1 hg0.lt
  have hb1 := hb0.trans (hw1.mono hb0.size)
  have c0 := hg1.cellAt (i := 0) rfl
  have hlo1 := hw1.size
  rw [World.size_alloc] at hlo1
  go_upto_region 3 with fail
  have hob : OB w (w1.alloc (.cells (List.replicate n (.int .i64 0)).toArray 3)) [.int .i64 (n : Int), .int .i64 exit, .slice A E.length c] n w1.heap.size w1.heap.size (some ⟨gm, 0, none⟩) (domB n E f) (immL n (domB n E f) 0 0) := by
    refine ⟨hg1.alloc _, ?_, MatP.relax (MatP.keep hmat (fun p hp => World.cell?_of_block (Below.heap_alloc _ _ _ hp))) (fun b hb => ⟨by omega, hb⟩), hb1.alloc hb1.size _, by simp, by omega⟩
    have := Blk.new w1 3 (List.replicate n (.int .i64 0))
    rw [immL_zero]
    exact this
  simp only [List.toArray_replicate] at hob
  clear hg0 hb0 hg1 hb1 c0 hmat hw1 hmk hlo1
  revert hob
  generalize w1.alloc (.cells (Array.replicate n (.int .i64 0)) 3) = w2
  generalize w1.heap.size = ob
  intro hob
  go_wp2
  go_loopw [7] (fun y wr => ∃ p : Nat, p ≤ n ∧ y = .int .i64 p ∧ OB w wr [.int .i64 (n : Int), .int .i64 exit, .slice A E.length c] n ob ob (some ⟨gm, 0, none⟩) (domB n E f) (immL n (domB n E f) p 0)) (fun y _ => n - (intOf y).toNat)
  case atStart => exact ⟨0, Nat.zero_le _, rfl, hob⟩
  case round =>
    obtain ⟨p, hp, rfl, ho⟩ := hrel
    clear hob
    have c0 := ho.g.cellAt (i := 0) rfl
    by_cases hlt : p < n
    · have hlt1 : (p : Int) < (n : Int) := by omega
      have d1 := ho.b.cellAt (immL_at hlt)
      have f1 := ho.b.frozen p
      have hs := ho.set p (-1)
      rw [immL_set] at hs
      clear ho
      go_wp2
      clear c0 d1 f1
      revert hs
      generalize wr.setCell ⟨ob, p, none⟩ (.int .i64 (-1)) = w3
      intro hs
      go_loopw [8] (fun y wr => ∃ d : Nat, d ≤ n ∧ y = .int .i64 d ∧ OB w wr [.int .i64 (n : Int), .int .i64 exit, .slice A E.length c] n ob ob (some ⟨gm, 0, none⟩) (domB n E f) (immL n (domB n E f) p ((List.range d).foldl (immStep n (domB n E f) p) (-1)))) (fun y _ => n - (intOf y).toNat)
      case atStart => exact ⟨0, Nat.zero_le _, rfl, hs⟩
      case round =>
        obtain ⟨d, hd, rfl, hq⟩ := hrel
        clear hs
        have c0 := hq.g.cellAt (i := 0) rfl
        by_cases hdn : d < n
        · have hdn1 : (d : Int) < (n : Int) := by omega
          have hst := immFold_succ n (domB n E f) p d (-1)
          have hbd := immFold_lt n (domB n E f) p d
          revert hst hbd hq
          generalize (List.range d).foldl (immStep n (domB n E f) p) (-1) = b
          intro hq hst hbd
          obtain ⟨hb1, hb2⟩ := hbd
          have d1 := hq.b.cellAt (immL_at hlt)
          have f1 := hq.b.frozen p
          obtain ⟨am, R, C, hae, -, hmt⟩ := hq.mat
          cases hae
          obtain ⟨e1, -, -, -, mp⟩ := hmt p hlt
          obtain ⟨e2, -, -, -, -⟩ := hmt d hdn
          rw [add_none] at e1 e2
          have d2 := mp d hdn
          have hcnt : ∀ (i : Nat) (hi : i < n) (k : Nat), Calls Try.prog 77 #[.slice (some (R i)) n (C i)] (wr.drewN k) fun en w' => en = .returned (.int .i64 (cntD n (domB n E f) i : Nat)) ∧ w' = wr.drewN k := fun i hi k => by
            obtain ⟨-, b3, b4, b5, md⟩ := hmt i hi
            refine count_any ob (wr.drewN k) (.slice (some (R i)) n (C i)) ((List.range n).map (domB n E f i)) ⟨some (R i), C i, by simp, by simpa using b3, b4, fun j x hx => ⟨R i, .bool x, rfl, b5.2, ?_, rfl⟩⟩ (by simp; omega)
            have hj : j < n := by have := (List.getElem?_eq_some_iff.1 hx).1; simpa using this
            rw [List.getElem?_map, List.getElem?_range hj] at hx
            cases hx
            exact md j hj
          have hcd := hcnt d hdn
          have HCD := Lib.hid hcd
          have HST := Lib.hid hst
          have HMT := Lib.hid hmt
          have HCNT := Lib.hid hcnt
          clear hst hmt mp hcd hcnt
          by_cases hdp : d = p
          · have hno : ¬ (d ≠ p ∧ domB n E f p d = true ∧ (b < 0 ∨ cntD n (domB n E f) b.toNat < cntD n (domB n E f) d)) := fun h => h.1 hdp
            have hres : immStep n (domB n E f) p b d = b := by unfold immStep; rw [if_neg]; exact hno
            have hnx : OB w wr [.int .i64 (n : Int), .int .i64 exit, .slice A E.length c] n ob ob (some ⟨gm, 0, none⟩) (domB n E f) (immL n (domB n E f) p ((List.range (d + 1)).foldl (immStep n (domB n E f) p) (-1))) := by rw [HST.out, hres]; exact hq
            have HNX := Lib.hid hnx
            clear hnx hres hno hq
            subst hdp
            go_wp2
            go_quiet (fail)
            go_wp2
            go_roundw
            case rel => exact ⟨d + 1, by omega, by go_num, HNX.out.drewN _⟩
            case measure => simp [intOf]; omega
          · have hdp1 : ((d : Int) != (p : Int)) = true := by rw [bne_iff_ne]; omega
            have hdp2 : ((d : Int) == (p : Int)) = false := by rw [beq_eq_false_iff_ne]; omega
            have hdp3 : (d != p) = true := by simpa using hdp
            have hdp4 : (d == p) = false := by simpa using hdp
            have hdp5 : decide ((d : Int) = (p : Int)) = false := by rw [decide_eq_false_iff_not]; omega
            cases hDpd : domB n E f p d with
            | false =>
              rw [hDpd] at d2
              have hno : ¬ (d ≠ p ∧ domB n E f p d = true ∧ (b < 0 ∨ cntD n (domB n E f) b.toNat < cntD n (domB n E f) d)) := fun h => by rw [hDpd] at h; cases h.2.1
              have hres : immStep n (domB n E f) p b d = b := by unfold immStep; rw [if_neg]; exact hno
              have hnx : OB w wr [.int .i64 (n : Int), .int .i64 exit, .slice A E.length c] n ob ob (some ⟨gm, 0, none⟩) (domB n E f) (immL n (domB n E f) p ((List.range (d + 1)).foldl (immStep n (domB n E f) p) (-1))) := by rw [HST.out, hres]; exact hq
              have HNX := Lib.hid hnx
              clear hnx hres hno hq
              clear hDpd
              go_wp2
              go_quiet (fail)
              go_wp2
              go_roundw
              case rel => exact ⟨d + 1, by omega, by go_num, HNX.out.drewN _⟩
              case measure => simp [intOf]; omega
            | true =>
              rw [hDpd] at d2
              by_cases hbn : b < 0
              · have hno : d ≠ p ∧ domB n E f p d = true ∧ (b < 0 ∨ cntD n (domB n E f) b.toNat < cntD n (domB n E f) d) := ⟨hdp, hDpd, .inl hbn⟩
                have hres : immStep n (domB n E f) p b d = (d : Int) := by unfold immStep; rw [if_pos]; exact hno
                have hnx : ∀ k, OB w ((wr.drewN k).setCell ⟨ob, p, none⟩ (.int .i64 (d : Int))) [.int .i64 (n : Int), .int .i64 exit, .slice A E.length c] n ob ob (some ⟨gm, 0, none⟩) (domB n E f) (immL n (domB n E f) p ((List.range (d + 1)).foldl (immStep n (domB n E f) p) (-1))) := fun k => by
                  rw [HST.out, hres]
                  have := (hq.drewN k).set p (d : Int)
                  rw [immL_set] at this
                  exact this
                have HNX := Lib.hid hnx
                clear hnx hres hno hq
                clear hDpd
                go_wp2
                go_quiet (fail)
                go_wp2
                go_roundw
                case rel => exact ⟨d + 1, by omega, by go_num, HNX.out _⟩
                case measure => simp [intOf]; omega
              · obtain ⟨bn, rfl⟩ : ∃ bn : Nat, b = bn := ⟨b.toNat, by omega⟩
                have hbn2 : bn < n := by omega
                have hbn1 : (bn : Int) < (n : Int) := by omega
                have hbn3 : decide ((bn : Int) < 0) = false := by rw [decide_eq_false_iff_not]; omega
                obtain ⟨e3, -, -, -, -⟩ := HMT.out bn hbn2
                rw [add_none] at e3
                have hcb := HCNT.out bn hbn2
                have HCB := Lib.hid hcb
                clear hcb hbn
                by_cases hcmp : cntD n (domB n E f) bn < cntD n (domB n E f) d
                · have hno : d ≠ p ∧ domB n E f p d = true ∧ ((bn : Int) < 0 ∨ cntD n (domB n E f) (bn : Int).toNat < cntD n (domB n E f) d) := ⟨hdp, hDpd, .inr hcmp⟩
                  have hres : immStep n (domB n E f) p (bn : Int) d = (d : Int) := by unfold immStep; rw [if_pos]; exact hno
                  have hnx : ∀ k, OB w ((wr.drewN k).setCell ⟨ob, p, none⟩ (.int .i64 (d : Int))) [.int .i64 (n : Int), .int .i64 exit, .slice A E.length c] n ob ob (some ⟨gm, 0, none⟩) (domB n E f) (immL n (domB n E f) p ((List.range (d + 1)).foldl (immStep n (domB n E f) p) (-1))) := fun k => by
                    rw [HST.out, hres]
                    have := (hq.drewN k).set p (d : Int)
                    rw [immL_set] at this
                    exact this
                  have HNX := Lib.hid hnx
                  clear hnx hres hno hq
                  clear hDpd
                  revert HCD HCB hcmp
                  generalize cntD n (domB n E f) bn = cb
                  generalize cntD n (domB n E f) d = cd
                  intro HCD HCB hcmp
                  have hcmp1 : (cb : Int) < (cd : Int) := by omega
                  go_wp2
                  go_quiet ((go_at_call 77; first | (with_reducible exact Calls.quiet_of_same (HCD.out _)) | (with_reducible exact Calls.quiet_of_same (HCB.out _))))
                  go_wp2
                  go_roundw
                  case rel => exact ⟨d + 1, by omega, by go_num, HNX.out _⟩
                  case measure => simp [intOf]; omega
                · have hno : ¬ (d ≠ p ∧ domB n E f p d = true ∧ ((bn : Int) < 0 ∨ cntD n (domB n E f) (bn : Int).toNat < cntD n (domB n E f) d)) := fun h => by
                    rcases h.2.2 with h1 | h1
                    · omega
                    · exact hcmp h1
                  have hres : immStep n (domB n E f) p (bn : Int) d = (bn : Int) := by unfold immStep; rw [if_neg]; exact hno
                  have hnx : OB w wr [.int .i64 (n : Int), .int .i64 exit, .slice A E.length c] n ob ob (some ⟨gm, 0, none⟩) (domB n E f) (immL n (domB n E f) p ((List.range (d + 1)).foldl (immStep n (domB n E f) p) (-1))) := by rw [HST.out, hres]; exact hq
                  have HNX := Lib.hid hnx
                  clear hnx hres hno hq
                  clear hDpd
                  revert HCD HCB hcmp
                  generalize cntD n (domB n E f) bn = cb
                  generalize cntD n (domB n E f) d = cd
                  intro HCD HCB hcmp
                  have hcmp1 : decide ((cb : Int) < (cd : Int)) = false := by rw [decide_eq_false_iff_not]; omega
                  have hcmp2 : decide (cb < cd) = false := by rw [decide_eq_false_iff_not]; omega
                  go_wp2
                  go_quiet ((go_at_call 77; first | (with_reducible exact Calls.quiet_of_same (HCD.out _)) | (with_reducible exact Calls.quiet_of_same (HCB.out _))))
                  go_wp2
                  go_roundw
                  case rel => exact ⟨d + 1, by omega, by go_num, HNX.out.drewN _⟩
                  case measure => simp [intOf]; omega
        · obtain rfl : d = n := by omega
          have hnx := hq
          rw [show (List.range d).foldl (immStep d (domB d E f) p) (-1) = immF d (domB d E f) p from rfl, immL_next] at hnx
          have HNX := Lib.hid hnx
          clear hnx hq
          go_wp2
          go_roundw
          case rel => exact ⟨p + 1, by omega, by go_num, HNX.out⟩
          case measure => simp [intOf]; omega
    · obtain rfl : p = n := by omega
      have hfin := ints_of ho.b (by simp [immL]) hn ho.b.lt
      rw [immL_all] at hfin
      have hbel := ho.bel
      have HFIN := Lib.hid hfin
      clear ho hfin
      go_wp2
      go_ret
      exact ⟨_, rfl, HFIN.out, hbel⟩
end Go.Proofs.Ytngfoinceakgdaa

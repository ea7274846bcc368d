/- The reference: Numbered, Components. -/
import Derived.Test.YtngfoinceakgdaaEnds
import Derived.Test.YtngfoinceakgdaaTurned
import Derived.Test.YtngfoinceakgdaaLoops
/-! The reference: Numbered. -/
namespace Go.Proofs.Ytngfoinceakgdaa
open Go.RowKit Go.Shelf

theorem info_bools : (Try.prog.info? 61).map (fun i => (i.zero, i.size, i.bytes)) = some (some (.slice none 0 0), 1, 24) := by kernel_rfl
/-- The numbers at the start: the first k are set. -/
def begun (n k : Nat) : List Int := (List.range n).map fun i => if i < k then -1 else 0
theorem begun_set {n k : Nat} (_h : k < n) : (begun n k).set k (-1) = begun n (k + 1) := by
  unfold begun
  apply List.ext_getElem
  · simp
  · intro i h1 h2
    simp only [List.getElem_set, List.getElem_map, List.getElem_range]
    by_cases e : k = i
    · subst e; simp
    · rw [if_neg e]
      by_cases h : i < k
      · rw [if_pos h, if_pos (by omega)]
      · rw [if_neg h, if_neg (by omega)]
theorem begun_zero (n : Nat) : (begun n 0).map intV = List.replicate n (.int .i64 0) := by
  unfold begun
  rw [List.map_map]
  exact List.eq_replicate_iff.2 ⟨by simp, fun b hb => by simp [intV] at hb; exact hb.2.symm⟩
theorem begun_all (n : Nat) : begun n n = List.replicate n (-1) := by
  unfold begun
  exact List.eq_replicate_iff.2 ⟨by simp, fun b hb => by
    obtain ⟨i, hi, rfl⟩ := List.mem_map.1 hb
    rw [if_pos (List.mem_range.1 hi)]⟩
theorem begun_length (n k : Nat) : (begun n k).length = n := by simp [begun]
theorem begun_at {n k : Nat} (h : k < n) : ((begun n k).map intV)[k]? = some (.int .i64 0) := by
  simp [begun, intV, h]

/-- The first loop: the rows of what can be reached are collected. -/
structure N1 (w W : World) (gv : List Value) (n : Nat) (E : List (Nat × Nat)) (k : Nat) (vr : Value) (pv : List Value) : Prop where
  g : Blk W w.heap.size 24 gv
  o : Blk W (w.heap.size + 1) 3 ((begun n k).map intV)
  own : W.ownsRow (w.heap.size + 1 + 1) 61 1 vr k pv
  rows : ∀ i, i < k → ∃ gi, pv[i]? = some (.slice (some ⟨gi, 0, none⟩) n n) ∧ Blk W gi 4 ((List.range n).map fun x => .bool (rB n E (-1) i x))
  bel : Below w.heap.size w W
  sz : w.heap.size + 1 + 1 ≤ W.heap.size
/-- The numbers are being set. -/
structure NB (w W : World) (gv : List Value) (n N : Nat) (A : Option Addr) (M : Nat → Nat → Bool) (o : List Int) : Prop where
  g : Blk W w.heap.size 24 gv
  ob : Blk W (w.heap.size + 1) 3 (o.map intV)
  mat : MatP (fun b => b ≠ w.heap.size + 1 ∧ b < N) W A n M
  bel : Below w.heap.size w W
  sz : N ≤ W.heap.size
  len : o.length = n
section
variable {w W W' : World} {gv : List Value} {n N : Nat} {A : Option Addr} {M : Nat → Nat → Bool} {o : List Int}
theorem NB.step (h : NB w W gv n N A M o) (hb : Below W.heap.size W W') : NB w W' gv n N A M o :=
  ⟨h.g.below hb h.g.lt, h.ob.below hb h.ob.lt, h.mat.keep (fun _ hp => hb.cell (Nat.lt_of_lt_of_le hp.2 h.sz)), h.bel.trans (hb.mono h.bel.size), Nat.le_trans h.sz hb.size, h.len⟩
theorem NB.drewN (h : NB w W gv n N A M o) (k : Nat) : NB w (W.drewN k) gv n N A M o := ⟨h.g, h.ob, h.mat, below_drewN' h.bel k, h.sz, h.len⟩
theorem NB.set (h : NB w W gv n N A M o) (q : Nat) (x : Int) : NB w (W.setCell ⟨w.heap.size + 1, q, none⟩ (.int .i64 x)) gv n N A M (o.set q x) := by
  refine ⟨h.g.far (by show w.heap.size ≠ w.heap.size + 1; omega) _, ?_, h.mat.keep (fun _ hp => World.cell?_of_block (Below.heap_setCell _ _ _ _ hp.1)), h.bel.setCell (by show w.heap.size ≤ w.heap.size + 1; omega) _, by rw [World.size_setCell]; exact h.sz, by simpa using h.len⟩
  have := h.ob.set q (.int .i64 x)
  rw [List.map_set]
  exact this
theorem NB.cellAt (h : NB w W gv n N A M o) {p : Nat} (hp : p < n) : W.cell? ⟨w.heap.size + 1, p, none⟩ = some (.int .i64 (getI o p)) :=
  h.ob.cellAt (by rw [List.getElem?_map, List.getElem?_eq_getElem (by rw [h.len]; exact hp)]; unfold getI intV; rw [List.getD_eq_getElem?_getD, List.getElem?_eq_getElem (by rw [h.len]; exact hp)]; rfl)
end

set_option maxRecDepth 100000 in
set_option maxHeartbeats 8000000 in
theorem numbered_any (B : Nat) (w : World) (v : Value) (n : Nat) (exit : Int) (E : List (Nat × Nat)) (hv : Edges B w v (castE E)) (hB : B ≤ w.heap.size) (hn1 : 1 ≤ n) (hn : n ≤ 512) (hE : ∀ x ∈ E, x.1 < n ∧ x.2 < n) (hlE : E.length ≤ 1024) (k : Nat) (res : List Int) (hk : k ≤ 100000)
    (hr : numLoop (rB n E (-1)) E n k 0 (List.replicate n (-1)) = some res) :
    Calls Try.prog 51 #[.agg #[.int .i64 (n : Int), .int .i64 exit, v]] w fun en w' => ∃ g, en = .returned (.slice (some ⟨g, 0, none⟩) n n) ∧ g < w'.heap.size ∧ Blk w' g 3 (res.map intV) ∧ res.length = n ∧ Below w.heap.size w w' := by
  obtain ⟨A, c, rfl, hlc, -, hm, -⟩ := id hv.shape
  have hlen0 : (castE E).length = E.length := castE_length E
  have hre := fun (W : World) (hb : Below w.heap.size w W) (f : Nat) (hf : f < n) => rreach_sem B W _ n exit E (hv.below (hb.mono hB)) (Nat.le_trans hB hb.size) hn hE hlE f hf (-1)
  have hen := fun (W : World) (hb : Below w.heap.size w W) (vn : Value) (cr : Nat) (Ar : Option Addr) (num : List Int) (p : Nat) => ends_any W.heap.size W _ vn n cr exit E Ar (rB n E (-1)) num p ((hv.below (hb.mono hB)).more (Nat.le_trans hB hb.size)) (Nat.le_refl _) hE hlE
  rw [hlen0] at hlc hm hre hen ⊢
  have HRE := Lib.hid hre
  have HEN := Lib.hid hen
  have HR := Lib.hid hr
  have hmk := make_one (P := Try.prog) 27 3 (.int .i64 0) 8 Try.underlying27 info_int rfl n (by omega) (by omega)
  obtain ⟨ie, hi, hz0, hz1, hz2⟩ := info_parts info_bools
  clear hre hen hr hlen0 hv
  go_enter Try.func51, Try.ntmps51
  go_wp2
  go_loopw [3, 5] (fun x y wr => ∃ (m : Nat) (vr : Value) (pv : List Value), m ≤ n ∧ y = .int .i64 m ∧ vr = x ∧ N1 w wr [.int .i64 (n : Int), .int .i64 exit, .slice A E.length c] n E m vr pv) (fun _ y _ => n - (intOf y).toNat)
  case atStart =>
    refine ⟨0, _, [], Nat.zero_le _, rfl, rfl, (Blk.newAt w 24 #[.int .i64 (n : Int), .int .i64 exit, .slice A E.length c] rfl).alloc _, ?_, World.ownsRow_nil _ _ _ _, fun i hi => by omega, ((Below.refl _ _).alloc (Nat.le_refl _) _).alloc (by simp) _, by simp⟩
    have h := Blk.newAt (N := w.heap.size + 1) (w.alloc (.cells #[.int .i64 (n : Int), .int .i64 exit, .slice A E.length c] 24)) 3 (Array.replicate n (.int .i64 0)) (by simp)
    rw [Array.toList_replicate] at h
    rw [begun_zero]
    exact h
  case round =>
    obtain ⟨m, vr, pv, hmn, rfl, rfl, hp⟩ := hrel
    clear hmk
    obtain ⟨c0, c1, c2⟩ : wr.cell? ⟨w.heap.size, 0, none⟩ = some (.int .i64 (n : Int)) ∧ wr.cell? ⟨w.heap.size, 1, none⟩ = some (.int .i64 exit) ∧ wr.cell? ⟨w.heap.size, 2, none⟩ = some (.slice A E.length c) := ⟨hp.g.cellAt rfl, hp.g.cellAt rfl, hp.g.cellAt rfl⟩
    by_cases hlt : m < n
    · have hlt1 : (m : Int) < (n : Int) := by omega
      go_upto_region 6 with fail
      go_wp2_with (first
        | (go_at_call 62; refine (HRE.out wr hp.bel m hlt).mono ?_; rintro en w1 ⟨gb, rfl, hgb, hgb2, hw1⟩; have hO := (own_below hp.own hw1).alloc (.cells #[.slice (some ⟨gb, 0, none⟩) n n] 61); have hnb := Blk.new w1 61 [.slice (some ⟨gb, 0, none⟩) n n]; have hwa := hw1.alloc hw1.size (.cells #[.slice (some ⟨gb, 0, none⟩) n n] 61); have hsz := Nat.le_trans hp.sz hwa.size; clear c0 c1 c2)
        | (at_builtin; refine wpList_append_own_at _ rfl (.tmp 19) (.tmp 23) 120 rfl (w.heap.size + 1 + 1) 61 ie (.slice none 0 0) 1 24 Try.underlying120 hi hz0 hz1 hz2 rfl (by decide) _ m pv rfl hO ⟨w1.heap.size, 0, none⟩ 1 1 [.slice (some ⟨gb, 0, none⟩) n n] rfl rfl ?c1 ?c2 ?c3 ?c4 hsz ?_))
      case c1 =>
        intro j u hj
        rw [add_none]
        exact hnb.cellAt hj
      case c2 => intro u hu; simp at hu; subst hu; rfl
      case c3 => simp only [maxLen]; omega
      case c4 => omega
      intro v' w2 hown' hgrow _ _
      have hga := (hp.g.below hw1 hp.g.lt).alloc (.cells #[.slice (some ⟨gb, 0, none⟩) n n] 61)
      have hoa := (hp.o.below hw1 hp.o.lt).alloc (.cells #[.slice (some ⟨gb, 0, none⟩) n n] 61)
      have hG := hga.keptOwn hgrow hO (by decide)
      have hOb := hoa.keptOwn hgrow hO (by decide)
      have hgb3 := (hgb.alloc (.cells #[.slice (some ⟨gb, 0, none⟩) n n] 61)).keptOwn hgrow hO (by decide)
      have hbx : Below w.heap.size w w2 := (hp.bel.trans (hwa.mono hp.bel.size)).grown hgrow (by omega) (fun j hj => by have := (hO.lt j hj).1; omega)
      have d2 := hOb.cellAt (begun_at hlt)
      have f2 := hOb.frozen m
      have hpl : pv.length = m := by have := hp.own.1; omega
      have hrows : ∀ i, i < m + 1 → ∃ gi, (pv ++ [.slice (some ⟨gb, 0, none⟩) n n])[i]? = some (.slice (some ⟨gi, 0, none⟩) n n) ∧ Blk w2 gi 4 ((List.range n).map fun x => .bool (rB n E (-1) i x)) := fun i hi => by
        by_cases him : i < m
        · obtain ⟨gi, h1, h2⟩ := hp.rows i him
          exact ⟨gi, by rw [List.getElem?_append_left (by omega)]; exact h1, ((h2.below hw1 h2.lt).alloc _).keptOwn hgrow hO (by decide)⟩
        · obtain rfl : i = m := by omega
          exact ⟨gb, by rw [List.getElem?_append_right (by omega), hpl, Nat.sub_self]; rfl, hgb3⟩
      have hfin : N1 w (w2.setCell ⟨w.heap.size + 1, m, none⟩ (.int .i64 (-1))) [.int .i64 (n : Int), .int .i64 exit, .slice A E.length c] n E (m + 1) v' (pv ++ [.slice (some ⟨gb, 0, none⟩) n n]) := by
        refine ⟨hG.far (by show w.heap.size ≠ w.heap.size + 1; omega) _, ?_, ownsRow_setCell_below hown' (by show w.heap.size + 1 < _; omega) _, fun i hi => ?_, hbx.setCell (by show w.heap.size ≤ w.heap.size + 1; omega) _, by rw [World.size_setCell]; have := hgrow.size; omega⟩
        · have := hOb.set m (.int .i64 (-1))
          rw [← begun_set hlt, List.map_set]
          exact this
        · obtain ⟨gi, h1, h2⟩ := hrows i hi
          exact ⟨gi, h1, h2.far (h2.ne hOb (by decide)) _⟩
      have HFIN := Lib.hid hfin
      clear hga hoa hOb hgb3 hbx hrows hfin hown' hgrow hO hnb hwa hpl hgb hp hw1
      have c0 := hG.cellAt (i := 0) rfl
      clear hG
      go_wp2
      go_roundw
      case rel => exact ⟨m + 1, _, _, by omega, by go_num, rfl, HFIN.out⟩
      case measure => simp [intOf]; omega
    · obtain rfl : m = n := by omega
      have hgc := hp.g
      have hoc := hp.o
      rw [begun_all] at hoc
      obtain ⟨Ar, cr, rfl, hcr, hmat⟩ : ∃ Ar cr, vr = .slice Ar m cr ∧ m ≤ cr ∧ MatP (fun b => b ≠ w.heap.size + 1 ∧ b < wr.heap.size) wr Ar m (rB m E (-1)) := by
        have hown := hp.own
        have hne := own_typed hown hp.o (by decide)
        have hlt2 := fun b hb => (hown.lt b hb).2
        obtain ⟨G, hG⟩ : ∃ G : Nat → Nat, ∀ i, i < m → pv[i]? = some (.slice (some ⟨G i, 0, none⟩) m m) ∧ Blk wr (G i) 4 ((List.range m).map fun x => .bool (rB m E (-1) i x)) :=
          ⟨fun i => if h : i < m then (hp.rows i h).choose else 0, fun i hi => by simp only [dif_pos hi]; exact (hp.rows i hi).choose_spec⟩
        rcases hown.2 with ⟨rfl, hz⟩ | ⟨g2, cap, cur, rfl, hb, hh, h1, h2, h3, h4⟩
        · omega
        · refine ⟨_, cap, rfl, h1, ⟨g2, 0, none⟩, fun i => ⟨G i, 0, none⟩, fun _ => m, rfl, ⟨fun e => hne (congrArg some e), hlt2 _ rfl⟩, fun i hi => ?_⟩
          obtain ⟨a1, a2⟩ := hG i hi
          refine ⟨hown.cells (g := g2) rfl i _ (by simpa using a1), Nat.le_refl _, by show m ≤ maxLen; unfold maxLen; omega, ⟨a2.ne hp.o (by decide), a2.lt⟩, fun j hj => ?_⟩
          rw [add_none]
          exact rB_cell a2 hj
      have hnb : NB w wr [.int .i64 (m : Int), .int .i64 exit, .slice A E.length c] m wr.heap.size Ar (rB m E (-1)) (List.replicate m (-1)) := ⟨hgc, hoc, hmat, hp.bel, Nat.le_refl _, by simp⟩
      obtain ⟨N, hN⟩ : ∃ N, N = wr.heap.size := ⟨_, rfl⟩
      rw [← hN] at hnb
      clear hN hmat hgc hoc hp hlt hmn hi hz0 hz1 hz2
      go_wp2
      go_loopg [6, 7] k (fun gk x y wr => ∃ (cc : Nat) (b : Bool) (o : List Int), x = .int .i64 cc ∧ y = .bool b ∧ NumOut (rB m E (-1)) E m gk cc b o res ∧ cc + gk ≤ 100000 ∧ NB w wr [.int .i64 (m : Int), .int .i64 exit, .slice A E.length c] m N Ar (rB m E (-1)) o)
      case atStart => exact ⟨0, true, _, rfl, rfl, .inl ⟨rfl, HR.out⟩, by omega, hnb⟩
      case round =>
        obtain ⟨cc, b, o, rfl, rfl, hno, hcc, hnb2⟩ := hrel
        clear hnb
        rcases hno with ⟨rfl, hl⟩ | ⟨rfl, rfl⟩
        · cases gk with
          | zero => simp [numLoop] at hl
          | succ gk =>
          have HL := Lib.hid hl
          clear hl
          go_wp2
          obtain ⟨w3, rfl⟩ : ∃ w3 : World, w3 = wr := ⟨_, rfl⟩
          go_loopw [7, 8] (fun x y wr => ∃ (p : Nat) (b : Bool) (o2 : List Int), p ≤ m ∧ y = .int .i64 p ∧ x = .bool b ∧ NumRel (rB m E (-1)) E m cc o p b o2 ∧ NB w wr [.int .i64 (m : Int), .int .i64 exit, .slice A E.length c] m N Ar (rB m E (-1)) o2) (fun _ y _ => m - (intOf y).toNat)
          case atStart => exact ⟨0, false, o, Nat.zero_le _, rfl, rfl, .inl ⟨rfl, rfl, fun j hj => by omega⟩, hnb2⟩
          case round =>
            obtain ⟨p, b, o2, hpm, rfl, rfl, hrl, hq⟩ := hrel
            have c0 := hq.g.cellAt (i := 0) rfl
            by_cases hlt : p < m
            · have hlt1 : (p : Int) < (m : Int) := by omega
              rcases hrl with ⟨rfl, rfl, hno⟩ | ⟨rfl, hqq⟩
              · have hcell := hq.cellAt hlt
                have hcand : numCand (rB m E (-1)) E o2 p = (decide (getI o2 p < 0) && endsF (rB m E (-1)) o2 p E) := rfl
                have hens := HEN.out wr hq.bel (.slice (some ⟨w.heap.size + 1, 0, none⟩) m m) cr Ar o2 p (hq.mat.relax (fun b hb => Nat.lt_of_lt_of_le hb.2 hq.sz)) hcr (ints_of hq.ob hq.len hn hq.ob.lt) hq.len hlt
                obtain ⟨gp, hgp⟩ : ∃ gp, gp = getI o2 p := ⟨_, rfl⟩
                obtain ⟨be, hbe⟩ : ∃ be, be = endsF (rB m E (-1)) o2 p E := ⟨_, rfl⟩
                rw [← hgp] at hcell hcand
                rw [← hbe] at hens hcand
                have hnx : numCand (rB m E (-1)) E o2 p = false → ∀ j, j < p + 1 → numCand (rB m E (-1)) E o2 j = false := fun h j hj => by
                  by_cases e : j = p
                  · subst e; exact h
                  · exact hno j (by omega)
                have hpk := fun h => numPick_at (n := m) hlt hno h
                have HNX := Lib.hid hnx
                have HPK := Lib.hid hpk
                have HENS := Lib.hid hens
                have c1 := hq.g.cellAt (i := 1) rfl
                have c2 := hq.g.cellAt (i := 2) rfl
                clear hnx hpk hens hno hgp hbe
                by_cases hg0 : gp < 0
                · cases be with
                  | false =>
                    have hfa : numCand (rB m E (-1)) E o2 p = false := by rw [hcand]; simp
                    have HFA := Lib.hid hfa
                    clear hfa hcand
                    go_wp2_with (go_at_call 74; refine HENS.out.mono ?_; rintro en w4 ⟨rfl, hw4⟩)
                    go_roundw
                    case rel => exact ⟨p + 1, false, o2, by omega, by go_num, rfl, .inl ⟨rfl, rfl, HNX.out HFA.out⟩, hq.step hw4⟩
                    case measure => simp [intOf]; omega
                  | true =>
                    have hfa : numCand (rB m E (-1)) E o2 p = true := by rw [hcand]; simp [hg0]
                    have HFA := Lib.hid hfa
                    clear hfa hcand
                    go_wp2_with (go_at_call 74; refine HENS.out.mono ?_; rintro en w4 ⟨rfl, hw4⟩)
                    have hq4 := hq.step hw4
                    clear c0 c1 c2 hcell hq hw4
                    go_loopw [9] (fun y wr => ∃ q : Nat, q ≤ m ∧ y = .int .i64 q ∧ NB w wr [.int .i64 (m : Int), .int .i64 exit, .slice A E.length c] m N Ar (rB m E (-1)) ((List.range q).foldl (numSet1 (rB m E (-1)) p cc) o2)) (fun y _ => m - (intOf y).toNat)
                    case atStart => exact ⟨0, Nat.zero_le _, rfl, hq4⟩
                    case round =>
                      obtain ⟨q, hqm, rfl, hz⟩ := hrel
                      clear hq4
                      have c0 := hz.g.cellAt (i := 0) rfl
                      by_cases hq1 : q < m
                      · have hq2 : (q : Int) < (m : Int) := by omega
                        obtain ⟨Am, R, C, rfl, -, hmt⟩ := hz.mat
                        obtain ⟨e1, -, -, -, mp⟩ := hmt p hlt
                        obtain ⟨e2, -, -, -, mq⟩ := hmt q hq1
                        have d1 := mp q hq1
                        have d2 := mq p hlt
                        have d3 := hz.cellAt hq1
                        have f3 := hz.ob.frozen q
                        have hst := numFold_succ (M := rB m E (-1)) (p := p) (c := cc) q o2
                        unfold numSet1 at hst
                        have hset := hz.set q (cc : Int)
                        have HSET := Lib.hid hset
                        clear hmt mp mq hset
                        revert d1 d2 hst
                        generalize rB m E (-1) p q = b1
                        generalize rB m E (-1) q p = b2
                        intro d1 d2 hst
                        cases b1 with
                        | false =>
                          have HST := Lib.hid hst
                          clear hst
                          go_wp2
                          go_roundw
                          case rel => exact ⟨q + 1, by omega, by go_num, by have h := HST.out; simp only [Bool.false_and, Bool.false_eq_true, if_false] at h; exact h ▸ hz⟩
                          case measure => simp [intOf]; omega
                        | true =>
                          cases b2 with
                          | false =>
                            have HST := Lib.hid hst
                            clear hst
                            go_wp2
                            go_roundw
                            case rel => exact ⟨q + 1, by omega, by go_num, by have h := HST.out; simp only [Bool.and_false, Bool.false_eq_true, if_false] at h; exact h ▸ hz⟩
                            case measure => simp [intOf]; omega
                          | true =>
                            have HST := Lib.hid hst
                            clear hst
                            go_wp2
                            go_roundw
                            case rel => exact ⟨q + 1, by omega, by go_num, by have h := HST.out; simp only [Bool.and_self, if_true] at h; exact h ▸ HSET.out⟩
                            case measure => simp [intOf]; omega
                      · obtain rfl : q = m := by omega
                        go_wp2
                        go_roundw
                        case rel => exact ⟨p + 1, true, _, by omega, by go_num, rfl, .inr ⟨rfl, p, HPK.out HFA.out, rfl⟩, hz⟩
                        case measure => simp [intOf]; omega
                · have hg1 : 0 ≤ gp := by omega
                  have hfa : numCand (rB m E (-1)) E o2 p = false := by rw [hcand, decide_eq_false hg0]; rfl
                  have HFA := Lib.hid hfa
                  clear hfa hcand hg0
                  go_wp2
                  go_roundw
                  case rel => exact ⟨p + 1, false, o2, by omega, by go_num, rfl, .inl ⟨rfl, rfl, HNX.out HFA.out⟩, hq⟩
                  case measure => simp [intOf]; omega
              · have hfin := NumRel.out (m := p) (.inr ⟨rfl, hqq⟩) (.inl rfl) HL.out
                clear hqq
                have HF := Lib.hid hfin
                clear hfin
                go_wp2
                go_roundg gk
                case measure => omega
                case rel => exact ⟨cc + 1, _, o2, by go_num, rfl, HF.out, by omega, hq⟩
            · obtain rfl : p = m := by omega
              have hfin := NumRel.out hrl (.inr rfl) HL.out
              clear hrl
              have HF := Lib.hid hfin
              clear hfin
              go_wp2
              go_roundg gk
              case measure => omega
              case rel => exact ⟨cc + 1, _, o2, by go_num, rfl, HF.out, by omega, hq⟩
        · have hlen := hnb2.len
          have hob := hnb2.ob
          have hbel := hnb2.bel
          clear hnb2
          have HLEN := Lib.hid hlen
          clear hlen
          go_wp2
          go_ret
          exact ⟨_, rfl, hob.lt, hob, HLEN.out, hbel⟩
end Go.Proofs.Ytngfoinceakgdaa

/-! The reference: Components. -/
namespace Go.Proofs.Ytngfoinceakgdaa
open Go.RowKit Go.Shelf

section
variable (B : Nat) (w : World) (v : Value)
set_option maxRecDepth 100000
set_option maxHeartbeats 1000000
theorem rcomp_bad (n exit : Int) (es : List (Int × Int)) (hv : Edges B w v es) (hB : B ≤ w.heap.size) (hc : chk n exit es ≠ 0) :
    Calls Try.prog 16 #[.agg #[.int .i64 n, .int .i64 exit, v]] w fun en w' => en = .returned (.tuple #[.slice none 0 0, .int .i64 (chk n exit es)]) ∧ Below w.heap.size w w' := by
  obtain ⟨A, c, rfl, hlc, -, hm, hes⟩ := id hv.shape
  have hcheck := fun w1 (h1 : Below w.heap.size w w1) => rcheck_any B w1 n exit _ es (hv.below (h1.mono hB)) (by have := h1.size; omega)
  have HC := Lib.hid hcheck
  clear hcheck hes hv
  go_enter Try.func16, Try.ntmps16
  go_wp2_with (go_at_call 32; refine (HC.out _ ((Below.refl _ _).alloc (Nat.le_refl _) _)).mono ?_; rintro en w1 ⟨rfl, hb1⟩)
  go_ret2
  exact ⟨rfl, ((Below.refl _ _).alloc (Nat.le_refl _) _).trans (hb1.mono (by simp))⟩
theorem rcomp_ok (n : Nat) (exit : Int) (E : List (Nat × Nat)) (hv : Edges B w v (castE E)) (hB : B ≤ w.heap.size) (hg : GOk n exit E) (res : List Int) (hr : numLoop (rB n E (-1)) E n (n + 1) 0 (List.replicate n (-1)) = some res) :
    Calls Try.prog 16 #[.agg #[.int .i64 (n : Int), .int .i64 exit, v]] w fun en w' => ∃ vo, en = .returned (.tuple #[vo, .int .i64 0]) ∧ Ints w'.heap.size w' vo res ∧ Below w.heap.size w w' := by
  obtain ⟨A, c, rfl, hlc, -, hm, hes⟩ := id hv.shape
  have h512 := hg.n512
  have hcheck := fun w1 (h1 : Below w.heap.size w w1) => rcheck_any B w1 n exit _ _ (hv.below (h1.mono hB)) (by have := h1.size; omega)
  have hnum := fun w1 (h1 : Below w.heap.size w w1) => numbered_any B w1 _ n exit E (hv.below (h1.mono hB)) (by have := h1.size; omega) hg.n1 hg.n512 hg.lt hg.len (n + 1) res (by omega) hr
  rw [hg.chk] at hcheck
  have HC := Lib.hid hcheck
  have HN := Lib.hid hnum
  have hb0 := (Below.refl w.heap.size w).alloc (Nat.le_refl _) (.cells #[.int .i64 (n : Int), .int .i64 exit, .slice A (castE E).length c] 24)
  have hg0 := Blk.newAt w 24 #[.int .i64 (n : Int), .int .i64 exit, .slice A (castE E).length c] rfl
  clear hcheck hnum hes hv hr
  go_enter Try.func16, Try.ntmps16
  go_wp2_with (first | (go_at_call 32; refine (HC.out _ hb0).mono ?_; rintro en w1 ⟨rfl, hb1⟩; have hg1 := hg0.below hb1 (by rw [World.size_alloc]; omega); have hb2 := hb0.trans (hb1.mono (by rw [World.size_alloc]; omega)); have c0 := hg1.cellAt (i := 0) rfl; have c1 := hg1.cellAt (i := 1) rfl; have c2 := hg1.cellAt (i := 2) rfl) | (go_at_call 51; refine (HN.out _ hb2).mono ?_; rintro en w2 ⟨g, rfl, hgl, hgb, hrl, hb3⟩))
  go_ret2
  exact ⟨_, rfl, ints_of hgb hrl h512 hgl, hb2.trans (hb3.mono hb2.size)⟩
end
end Go.Proofs.Ytngfoinceakgdaa

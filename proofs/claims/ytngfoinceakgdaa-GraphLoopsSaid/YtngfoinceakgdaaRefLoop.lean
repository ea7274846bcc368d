/- The reference: Backward, Forward, Back, Reducible, loop. -/
import Derived.Test.YtngfoinceakgdaaDomin
import Derived.Test.YtngfoinceakgdaaGV
import Derived.Test.YtngfoinceakgdaaTurned
import Derived.BigQuiet
import Derived.Test.YtngfoinceakgdaaCutsL
import Derived.Test.YtngfoinceakgdaaRefDom
import Derived.Test.YtngfoinceakgdaaFront
/-! The reference: Backward. -/
namespace Go.Proofs.Ytngfoinceakgdaa
open Go.RowKit Go.Shelf

/-- The places of the edges whose head is dominated so by D. -/
def backw (D : Nat → Nat → Bool) (E : List (Nat × Nat)) (k : Nat) : List Nat := (List.range k).filter fun e => D (E.getD e (0, 0)).1 (E.getD e (0, 0)).2
theorem backw_succ (D : Nat → Nat → Bool) (E : List (Nat × Nat)) (k : Nat) {f t : Nat} (h : E[k]? = some (f, t)) : backw D E (k + 1) = backw D E k ++ if D f t then [k] else [] := by
  unfold backw
  rw [List.range_succ, List.filter_append, List.filter_cons, List.getD_eq_getElem?_getD, h]
  rfl
theorem backw_le (D : Nat → Nat → Bool) (E : List (Nat × Nat)) (k : Nat) : (backw D E k).length ≤ k := by
  have := List.length_filter_le (fun e => D (E.getD e (0, 0)).1 (E.getD e (0, 0)).2) (List.range k)
  simpa [backw] using this

set_option maxRecDepth 100000 in
set_option maxHeartbeats 4000000 in
theorem backward_any (B : Nat) (w : World) (v : Value) (n : Nat) (exit : Int) (E : List (Nat × Nat)) (hv : Edges B w v (castE E)) (hB : B ≤ w.heap.size) (hn : n ≤ 512) (hn1 : 0 < n) (hE : ∀ x ∈ E, x.1 < n ∧ x.2 < n) (hlE : E.length ≤ 1024) :
    Calls Try.prog 57 #[.agg #[.int .i64 (n : Int), .int .i64 exit, v]] w fun en w' => ∃ vo, en = .returned vo ∧ Nats w'.heap.size w' vo (backw (domB n E 0) E E.length) ∧ Below w.heap.size w w' := by
  obtain ⟨A, c, rfl, hlc, -, hm, hes⟩ := id hv.shape
  have hlen0 : (castE E).length = E.length := castE_length E
  have hdo := fun (W : World) (hb : Below w.heap.size w W) => dominates_any B W _ n exit E (hv.below (hb.mono hB)) (Nat.le_trans hB hb.size) hn hE hlE 0 hn1
  rw [hlen0] at hlc hm hdo ⊢
  have HDO := Lib.hid hdo
  have HE := Lib.hid (Edges.nat hes)
  have hg0 := GV.start w n exit (.slice A E.length c)
  have HEL := Lib.hid hE
  obtain ⟨ie, hi, hz0, hz1, hz2⟩ := info_parts info_int
  clear hdo hlen0 hv hes hE
  go_enter Try.func57, Try.ntmps57
  go_upto_region 2 with (go_at_call 76; refine (HDO.out _ hg0.bel).mono ?_; rintro en w1 ⟨gm, rfl, hmat, hw1⟩)
  have hg1 := hg0.step hw1
  obtain ⟨am, R, C, hae, ham, hmt⟩ := hmat
  cases hae
  have HM := Lib.hid hmt
  have hs1 := hg1.bel.size
  clear hg0 hmt HDO
  go_wp2
  go_loopw [4, 5] (fun x y wr => ∃ (k : Nat) (vo : Value), k ≤ E.length ∧ vo = x ∧ y = .int .i64 k ∧ GV w wr n exit (.slice A E.length c) ∧ wr.ownsRow w1.heap.size 3 1 vo (backw (domB n E 0) E k).length ((backw (domB n E 0) E k).map natV) ∧ Below w1.heap.size w1 wr) (fun _ y _ => E.length - (intOf y).toNat)
  case atStart => exact ⟨0, _, Nat.zero_le _, rfl, rfl, hg1, World.ownsRow_nil _ _ _ _, Below.refl _ _⟩
  case round =>
    obtain ⟨k, vo, hk, rfl, rfl, hgw, hown, hbw⟩ := hrel
    clear hg1
    have c2 := hgw.g.cellAt (i := 2) rfl
    by_cases hlt : k < E.length
    · have hlt1 : (k : Int) < (E.length : Int) := by omega
      have hek : E[k]? = some E[k] := List.getElem?_eq_getElem hlt
      have hft := HEL.out _ (List.getElem_mem hlt)
      revert hek hft
      generalize E[k] = x
      intro hek hft
      obtain ⟨f, t⟩ := x
      have hsu := backw_succ (domB n E 0) E k hek
      have hle := backw_le (domB n E 0) E k
      obtain ⟨ade, cs, rfl, hab, hcl, hcc, hc0, hc1, hone⟩ := HE.out k _ hek
      have g0 := (hgw.bel.cell (p := (ade.add (k * 21)).add 0) (by rw [block_add, block_add]; omega)).trans (hcc 0 _ hc0)
      have g1 := (hgw.bel.cell (p := (ade.add (k * 21)).add 1) (by rw [block_add, block_add]; omega)).trans (hcc 1 _ hc1)
      rw [addrZero] at g0
      rw [addrOne] at g1
      obtain ⟨m1, -, -, m2, m3⟩ := HM.out f hft.1
      have m4 := m3 t hft.2
      have d1 := (hbw.cell (p := (⟨gm, 0, none⟩ : Addr).add f) (by rw [block_add]; exact ham)).trans m1
      have d2 := (hbw.cell (p := (R f).add t) (by rw [block_add]; exact m2)).trans m4
      rw [add_none] at d1
      have hf1 : (f : Int) < (n : Int) := by have := hft.1; omega
      have ht1 : (t : Int) < (n : Int) := by have := hft.2; omega
      simp only at g0 g1
      clear hcc hcl hc0 hc1 hone hek hft m1 m2 m3 m4
      revert hsu hle hown d2
      generalize domB n E 0 f t = bd
      generalize backw (domB n E 0) E k = bs
      intro hown hsu hle d2
      have HSU := Lib.hid hsu
      clear hsu
      cases bd with
      | false =>
        go_wp2
        go_quiet (fail)
        have hd : (wr.drewN nq).ownsRow w1.heap.size 3 1 vo bs.length (bs.map natV) := hown
        go_wp2
        go_roundw
        case rel => exact ⟨k + 1, vo, by omega, rfl, by go_num, hgw.drewN _, by rw [HSU.out]; simpa using hd, below_drewN' hbw _⟩
        case measure => simp [intOf]; omega
      | true =>
        go_wp2
        go_quiet (fail)
        have hgd := hgw.drewN nq
        have hod : (wr.drewN nq).ownsRow w1.heap.size 3 1 vo bs.length (bs.map natV) := hown
        have hbd := below_drewN' hbw nq
        clear hgw hown hbw c2 g0 g1 d1 d2
        revert hgd hod hbd
        generalize wr.drewN nq = wd
        intro hgd hod hbd
        have hO := hod.alloc (.cells #[.int .i64 (k : Int)] 3)
        have hnb := Blk.new wd 3 [.int .i64 (k : Int)]
        have hba := hbd.alloc hbd.size (.cells #[.int .i64 (k : Int)] 3)
        have hga := hgd.alloc (.cells #[.int .i64 (k : Int)] 3)
        have hsz : w1.heap.size ≤ (wd.alloc (.cells #[.int .i64 (k : Int)] 3)).heap.size := by rw [World.size_alloc]; have := hbd.size; omega
        go_wp2_with (at_builtin; refine wpList_append_own_at _ rfl (.tmp 32) (.tmp 34) 27 rfl w1.heap.size 3 ie (.int .i64 0) 1 8 Try.underlying27 hi hz0 hz1 hz2 rfl (by decide) vo bs.length (bs.map natV) rfl hO ⟨wd.heap.size, 0, none⟩ 1 1 [.int .i64 (k : Int)] rfl rfl ?c1 ?c2 ?c3 ?c4 hsz ?_)
        case c1 =>
          intro j u hj
          rw [add_none]
          exact hnb.cellAt hj
        case c2 => intro u hu; simp at hu; subst hu; rfl
        case c3 => simp only [maxLen]; omega
        case c4 => omega
        intro v' w5 hown' hgrow _ _
        have hbx : Below w1.heap.size w1 w5 := hba.grown hgrow hsz (fun j hj => (hO.lt j hj).1)
        have hgx : GV w w5 n exit (.slice (some ade) E.length c) := ⟨hga.g.keptOwn hgrow hO (by decide), hga.bel.grown hgrow (by omega) (fun j hj => by have := (hO.lt j hj).1; omega)⟩
        have hown2 : w5.ownsRow w1.heap.size 3 1 v' (bs ++ [k]).length ((bs ++ [k]).map natV) := by
          rw [List.length_append, List.map_append]
          exact hown'
        have HO2 := Lib.hid hown2
        clear hown' hown2 hgrow hO hnb hba hga hsz hod
        go_wp2
        go_roundw
        case rel => exact ⟨k + 1, v', by omega, rfl, by go_num, hgx, by rw [HSU.out]; exact HO2.out, hbx⟩
        case measure => simp [intOf]; omega
    · obtain rfl : k = E.length := by omega
      have hnat := Sl.of_own (R := RNat) natV (fun _ _ => rfl) hown
      have HN := Lib.hid hnat
      have hbe := hgw.bel
      clear hown hnat
      go_wp2
      go_ret
      exact ⟨_, rfl, HN.out, hbe⟩
end Go.Proofs.Ytngfoinceakgdaa

/-! The reference: Forward. -/
namespace Go.Proofs.Ytngfoinceakgdaa
open Go.RowKit Go.Shelf

/-- The edges that are reached and whose head does not dominate their tail. -/
noncomputable def forwE (n : Nat) (E : List (Nat × Nat)) (L : List (Nat × Nat)) : List (Nat × Nat) := L.filter fun x => rB n E (-1) 0 x.1 && !domB n E 0 x.1 x.2
theorem forwE_succ {n : Nat} {E L : List (Nat × Nat)} {k : Nat} {x : Nat × Nat} (h : L[k]? = some x) : forwE n E (L.take (k + 1)) = forwE n E (L.take k) ++ if rB n E (-1) 0 x.1 && !domB n E 0 x.1 x.2 then [x] else [] := by
  obtain ⟨hk, rfl⟩ := List.getElem?_eq_some_iff.1 h
  unfold forwE
  rw [List.take_succ_eq_append_getElem hk, List.filter_append]
  congr 1
  rw [List.filter_cons]
  rfl
structure FwS (w w2 W : World) (n exit : Int) (v : Value) (lb : Nat) (vr : Value) (rows : List (List Value)) : Prop where
  g : Blk W w.heap.size 24 [.int .i64 n, .int .i64 exit, v]
  r : Blk W (w.heap.size + 1) 24 [.int .i64 0, .int .i64 0, .slice none 0 0]
  o : Blk W lb 24 [.int .i64 n, .int .i64 exit, vr]
  own : W.ownsRow (lb + 1) 58 21 vr rows.length rows.flatten
  bel : Below w.heap.size w W
  bel2 : Below lb w2 W
  lo : w.heap.size + 2 ≤ lb
section
variable {w w2 W W' : World} {n exit : Int} {v : Value} {lb : Nat} {vr : Value} {rows : List (List Value)}
theorem FwS.alloc (h : FwS w w2 W n exit v lb vr rows) (x : Obj) : FwS w w2 (W.alloc x) n exit v lb vr rows := ⟨h.g.alloc _, h.r.alloc _, h.o.alloc _, h.own.alloc _, h.bel.alloc h.bel.size _, h.bel2.alloc (by have := h.o.lt; omega) _, h.lo⟩
theorem FwS.drewN (h : FwS w w2 W n exit v lb vr rows) (k : Nat) : FwS w w2 (W.drewN k) n exit v lb vr rows := ⟨h.g, h.r, h.o, h.own, below_drewN' h.bel k, below_drewN' h.bel2 k, h.lo⟩
end

set_option maxRecDepth 100000 in
set_option maxHeartbeats 4000000 in
theorem forward_any (B : Nat) (w : World) (v : Value) (n : Nat) (exit : Int) (E : List (Nat × Nat)) (hv : Edges B w v (castE E)) (hB : B ≤ w.heap.size) (hn : n ≤ 512) (hn1 : 0 < n) (hE : ∀ x ∈ E, x.1 < n ∧ x.2 < n) (hlE : E.length ≤ 1024) :
    Calls Try.prog 61 #[.agg #[.int .i64 (n : Int), .int .i64 exit, v]] w fun en w' => ∃ v', en = .returned (.agg #[.int .i64 (n : Int), .int .i64 exit, v']) ∧ Edges w'.heap.size w' v' (castE (forwE n E E)) ∧ Below w.heap.size w w' := by
  obtain ⟨A, c, rfl, hlc, -, hm, hes⟩ := id hv.shape
  have hlen0 : (castE E).length = E.length := castE_length E
  have hdo := fun (W : World) (hb : Below w.heap.size w W) => dominates_any B W _ n exit E (hv.below (hb.mono hB)) (Nat.le_trans hB hb.size) hn hE hlE 0 hn1
  have hre := fun (W : World) (hb : Below w.heap.size w W) => rreach_sem B W _ n exit E (hv.below (hb.mono hB)) (Nat.le_trans hB hb.size) hn hE hlE 0 hn1 (-1)
  rw [hlen0] at hlc hm hdo hre ⊢
  have HDO := Lib.hid hdo
  have HRE := Lib.hid hre
  have HE := Lib.hid (Edges.nat hes)
  have HEL := Lib.hid hE
  obtain ⟨ie, hi, hz0, hz1, hz2⟩ := info_parts info_edge
  have hg0 : Blk ((w.alloc (.cells #[.int .i64 (n : Int), .int .i64 exit, .slice A E.length c] 24)).alloc (.cells #[.int .i64 0, .int .i64 0, .slice none 0 0] 24)) w.heap.size 24 [.int .i64 (n : Int), .int .i64 exit, .slice A E.length c] := (Blk.newAt w 24 #[.int .i64 (n : Int), .int .i64 exit, .slice A E.length c] rfl).alloc _
  have hr0 := Blk.newAt (N := w.heap.size + 1) (w.alloc (.cells #[.int .i64 (n : Int), .int .i64 exit, .slice A E.length c] 24)) 24 #[.int .i64 0, .int .i64 0, .slice none 0 0] (by simp)
  have hb0 : Below w.heap.size w ((w.alloc (.cells #[.int .i64 (n : Int), .int .i64 exit, .slice A E.length c] 24)).alloc (.cells #[.int .i64 0, .int .i64 0, .slice none 0 0] 24)) := ((Below.refl _ _).alloc (Nat.le_refl _) _).alloc (by simp) _
  clear hdo hre hlen0 hv hes hE
  go_enter Try.func61, Try.ntmps61
  go_upto_region 2 with (go_at_call 76; refine (HDO.out _ hb0).mono ?_; rintro en w1 ⟨gm, rfl, hmat, hw1⟩)
  have hg1 := hg0.below hw1 hg0.lt
  have hr1 := hr0.below hw1 hr0.lt
  have hb1 := hb0.trans (hw1.mono hb0.size)
  have hs1 := hr1.lt
  clear hg0 hr0 hb0 hw1 HDO
  have c0 := hg1.cellAt (i := 0) rfl
  have c1 := hg1.cellAt (i := 1) rfl
  have c2 := hg1.cellAt (i := 2) rfl
  go_upto_region 3 with (go_at_call 62; refine (HRE.out _ hb1).mono ?_; rintro en w2 ⟨ga, rfl, hga, hgs, hw2⟩)
  have hg2 := hg1.below hw2 hg1.lt
  have hr2 := hr1.below hw2 hr1.lt
  have hb2 := hb1.trans (hw2.mono hb1.size)
  have hmat2 := (hmat.below hw2).more hw2.size
  have hs2 := hr2.lt
  clear hg1 hr1 hb1 hw2 HRE c0 c1 c2 hmat hs1
  have c0 := hg2.cellAt (i := 0) rfl
  have c1 := hg2.cellAt (i := 1) rfl
  have c2 := hg2.cellAt (i := 2) rfl
  have hfs : FwS w w2 (w2.alloc (.cells #[.int .i64 (n : Int), .int .i64 exit, .slice none 0 0] 24)) n exit (.slice A E.length c) w2.heap.size (.slice none 0 0) [] :=
    ⟨hg2.alloc _, hr2.alloc _, Blk.newAt w2 24 #[.int .i64 (n : Int), .int .i64 exit, nil0] rfl, World.ownsRow_nil _ _ _ _, hb2.alloc hb2.size _, (Below.refl _ _).alloc (Nat.le_refl _) _, by omega⟩
  obtain ⟨am, R, C, hae, ham, hmt⟩ := hmat2
  cases hae
  have HM := Lib.hid hmt
  have hgal := hga.lt
  go_wp2
  clear c0 c1 c2 hg2 hr2 hb2 hmt
  revert hfs hgal ham HM
  generalize w2.alloc (.cells #[.int .i64 (n : Int), .int .i64 exit, .slice none 0 0] 24) = w3
  generalize hlb : w2.heap.size = lb
  intro hfs ham HM hgal
  go_loopw [6] (fun y wr => ∃ (k : Nat) (vr : Value) (rows : List (List Value)), k ≤ E.length ∧ y = .int .i64 k ∧ RowsOf rows (forwE n E (E.take k)) ∧ FwS w w2 wr n exit (.slice A E.length c) lb vr rows) (fun y _ => E.length - (intOf y).toNat)
  case atStart => exact ⟨0, .slice none 0 0, [], Nat.zero_le _, rfl, RowsOf.nil, hfs⟩
  case round =>
    obtain ⟨k, vr, rows, hk, rfl, hrw, hp⟩ := hrel
    clear hfs
    by_cases hlt : k < E.length
    · have hlt1 : (k : Int) < (E.length : Int) := by omega
      have hek : E[k]? = some E[k] := List.getElem?_eq_getElem hlt
      have hft := HEL.out _ (List.getElem_mem hlt)
      have hls := forwE_succ (n := n) (E := E) hek
      revert hek hls hft
      generalize E[k] = x
      intro hek hft hls
      obtain ⟨f, t⟩ := x
      obtain ⟨ad, cs, rfl, hab, hcl, hcc, hc0, hc1, hone⟩ := HE.out k _ hek
      have hcr : ∀ j v, cs[j]? = some v → wr.cell? ((ad.add (k * 21)).add j) = some v := fun j v hj => (hp.bel.cell (by rw [block_add, block_add]; omega)).trans (hcc j v hj)
      have hpa := hp.alloc (.cells cs.toArray 58)
      have hbe := Blk.new wr 58 cs
      have d3 := hbe.cellAt hc0
      have d4 := hbe.cellAt hc1
      obtain ⟨m1, -, -, m2, m3⟩ := HM.out f hft.1
      have m4 := m3 t hft.2
      have e1 := (hpa.bel2.cell (p := (⟨gm, 0, none⟩ : Addr).add f) (by rw [block_add]; exact ham)).trans m1
      have e2 := (hpa.bel2.cell (p := (R f).add t) (by rw [block_add]; exact m2)).trans m4
      rw [add_none] at e1
      have e3 := (hga.below (hlb ▸ hpa.bel2) hga.lt).cellAt (i := f) (u := .bool (rB n E (-1) 0 f)) (by simp [hft.1])
      have hf1 : (f : Int) < (n : Int) := by have := hft.1; omega
      have ht1 : (t : Int) < (n : Int) := by have := hft.2; omega
      have c2 := hp.g.cellAt (i := 2) rfl
      have HC := Lib.hid hcr
      have HL := Lib.hid hcl
      have H1 := Lib.hid hone
      have HLS := Lib.hid hls
      have H0 := Lib.hid hc0
      have HT1 := Lib.hid hc1
      clear hcc hcr hcl hone hek hls hbe hp m1 m2 m3 m4
      simp only at HLS e2 e3
      revert HLS e2 e3
      generalize domB n E 0 f t = bd
      generalize rB n E (-1) 0 f = br
      intro e2 e3 HLS
      cases br with
      | false =>
        go_wp2_with (first
          | ((with_reducible show wpList _ _ _ (⟨some 28, .load 58 (.tmp 27), _, _, _, _⟩ :: _) _ _); refine wpList_load_list rfl _ _ rfl (ad.add (k * 21)) rfl cs _ HC.out Try.underlying58 rfl (by rw [HL.out]; exact size_edge) ?_)
          | ((with_reducible show wpList _ _ _ (⟨none, .store 58 (.tmp 7) (.tmp 28), _, _, _, _⟩ :: _) _ _); refine wpList_store_new rfl _ _ _ rfl _ _ cs rfl rfl (by rw [HL.out]; exact size_edge) (by rw [HL.out]; rfl) H1.out ?_))
        go_quiet (fail)
        go_wp2
        go_roundw
        case rel => exact ⟨k + 1, vr, rows, by omega, by go_num, by rw [HLS.out]; simpa using hrw, hpa.drewN _⟩
        case measure => simp [intOf]; omega
      | true =>
        cases bd with
        | true =>
          go_wp2_with (first
            | ((with_reducible show wpList _ _ _ (⟨some 28, .load 58 (.tmp 27), _, _, _, _⟩ :: _) _ _); refine wpList_load_list rfl _ _ rfl (ad.add (k * 21)) rfl cs _ HC.out Try.underlying58 rfl (by rw [HL.out]; exact size_edge) ?_)
            | ((with_reducible show wpList _ _ _ (⟨none, .store 58 (.tmp 7) (.tmp 28), _, _, _, _⟩ :: _) _ _); refine wpList_store_new rfl _ _ _ rfl _ _ cs rfl rfl (by rw [HL.out]; exact size_edge) (by rw [HL.out]; rfl) H1.out ?_))
          go_quiet (fail)
          go_wp2
          go_roundw
          case rel => exact ⟨k + 1, vr, rows, by omega, by go_num, by rw [HLS.out]; simpa using hrw, hpa.drewN _⟩
          case measure => simp [intOf]; omega
        | false =>
          have hrows : RowsOf (rows ++ [cs]) (forwE n E (E.take (k + 1))) := by rw [HLS.out]; exact hrw.snoc HL.out H0.out HT1.out H1.out
          have hrl : rows.length ≤ 1024 := by
            have h1 := hrw.1
            have h2 : (forwE n E (E.take k)).length ≤ (E.take k).length := List.length_filter_le _ _
            rw [List.length_take] at h2
            omega
          have hcr2 : ∀ j v, cs[j]? = some v → (wr.alloc (.cells cs.toArray 58)).cell? ((⟨wr.heap.size, 0, none⟩ : Addr).add j) = some v := fun j v hj => by rw [add_none]; exact (Blk.new wr 58 cs).cellAt hj
          have hbt := built_edge cs HL.out
          have HBT := Lib.hid hbt
          have HROWS := Lib.hid hrows
          clear hrows hbt
          go_wp2_with (first
            | ((with_reducible show wpList _ _ _ (⟨some 28, .load 58 (.tmp 27), _, _, _, _⟩ :: _) _ _); refine wpList_load_list rfl _ _ rfl (ad.add (k * 21)) rfl cs _ HC.out Try.underlying58 rfl (by rw [HL.out]; exact size_edge) ?_)
            | ((with_reducible show wpList _ _ _ (⟨none, .store 58 (.tmp 7) (.tmp 28), _, _, _, _⟩ :: _) _ _); refine wpList_store_new rfl _ _ _ rfl _ _ cs rfl rfl (by rw [HL.out]; exact size_edge) (by rw [HL.out]; rfl) H1.out ?_))
          go_quiet (fail)
          have hpd := hpa.drewN nq
          replace hcr2 : ∀ j v, cs[j]? = some v → ((wr.alloc (.cells cs.toArray 58)).drewN nq).cell? ((⟨wr.heap.size, 0, none⟩ : Addr).add j) = some v := hcr2
          clear hpa e1 e2 e3 d3 d4 c2 HC
          revert hpd hcr2
          generalize (wr.alloc (.cells cs.toArray 58)).drewN nq = wd
          generalize wr.heap.size = eb
          intro hpd hcr2
          have HC2 := Lib.hid hcr2
          clear hcr2
          have hpb := hpd.alloc (.cells cs.toArray 58)
          have hnb := Blk.newAt (N := wd.heap.size) wd 58 cs.toArray rfl
          have hO := hpb.own
          have hlc2 := hpd.o.cellAt (i := 2) rfl
          have hsz2 : lb + 1 ≤ (wd.alloc (.cells cs.toArray 58)).heap.size := hpb.o.lt
          go_wp2_with (first
            | ((with_reducible show wpList _ _ _ (⟨some 48, .load 58 (.tmp 7), _, _, _, _⟩ :: _) _ _); refine wpList_load_list rfl _ _ rfl ⟨eb, 0, none⟩ rfl cs _ HC2.out Try.underlying58 rfl (by rw [HL.out]; exact size_edge) ?_)
            | ((with_reducible show wpList _ _ _ (⟨some 49, .buildSlice 22 1 _, _, _, _, _⟩ :: _) _ _); refine Great.wpList_buildSliceTo rfl 22 58 1 _ rfl wd.heap.size ?ca (some 49) rfl Try.underlying22 cs.toArray ?cb ?_)
            | (at_builtin; refine wpList_append_own_at _ rfl (.tmp 47) (.tmp 49) 22 rfl (lb + 1) 58 ie edge0 21 280 Try.underlying22 hi hz0 hz1 hz2 rfl (by decide) vr rows.length rows.flatten rfl hO ⟨wd.heap.size, 0, none⟩ 1 1 cs rfl (by rw [HL.out]) ?c1 ?c2 ?c3 ?c4 hsz2 ?_))
          case ca => rfl
          case cb =>
            go_simp
            exact HBT.out
          case c2 => exact H1.out
          case c3 => simp only [maxLen]; omega
          case c4 => omega
          intro v' w5 hown' hgrow _ _
          have hG := hpb.g.keptOwn hgrow hO (by decide)
          have hR := hpb.r.keptOwn hgrow hO (by decide)
          have hL := hpb.o.keptOwn hgrow hO (by decide)
          have hlo := hpb.lo
          have hsw := hpb.bel.size
          have hbx : Below w.heap.size w w5 := hpb.bel.grown hgrow (by omega) (fun j hj => by have := (hO.lt j hj).1; omega)
          have hby : Below lb w2 w5 := hpb.bel2.grown hgrow (by omega) (fun j hj => by have := (hO.lt j hj).1; omega)
          have d2 := hL.cellAt (i := 2) rfl
          have f2 := hL.frozen 2
          obtain ⟨g, cap, rfl⟩ := ownsRow_succ hown'
          have hfin : FwS w w2 (w5.setCell ⟨lb, 2, none⟩ (.slice (some ⟨g, 0, none⟩) (rows.length + 1) cap)) n exit (.slice (some ad) E.length c) lb (.slice (some ⟨g, 0, none⟩) (rows.length + 1) cap) (rows ++ [cs]) := by
            refine ⟨hG.far (by show w.heap.size ≠ lb; omega) _, hR.far (by show w.heap.size + 1 ≠ lb; omega) _, hL.set 2 _, ?_, hbx.setCell (by show w.heap.size ≤ lb; omega) _, hby.setCell (by show lb ≤ lb; omega) _, hlo⟩
            have h := ownsRow_setCell_below (a := ⟨lb, 2, none⟩) hown' (by show lb < _; omega) (.slice (some ⟨g, 0, none⟩) (rows.length + 1) cap)
            rw [List.length_append, List.flatten_append]
            simpa using h
          have HFIN := Lib.hid hfin
          clear hG hR hL hbx hby hfin hown' hgrow hO hnb hpb hpd hlc2
          go_wp2
          go_roundw
          case rel => exact ⟨k + 1, _, rows ++ [cs], by omega, by go_num, HROWS.out, HFIN.out⟩
          case measure => simp [intOf]; omega
    · obtain rfl : k = E.length := by omega
      rw [List.take_length] at hrw
      have hvr := hrw.edges hp.own
      have c2 := hp.g.cellAt (i := 2) rfl
      have o0 := hp.o.cellAt (i := 0) rfl
      have o1 := hp.o.cellAt (i := 1) rfl
      have o2 := hp.o.cellAt (i := 2) rfl
      have r0 := hp.r.cellAt (i := 0) rfl
      have r1 := hp.r.cellAt (i := 1) rfl
      have r2 := hp.r.cellAt (i := 2) rfl
      have f0 := hp.r.frozen 0
      have f1 := hp.r.frozen 1
      have f2 := hp.r.frozen 2
      have hown := hp.own
      have hR := hp.r
      have hbel := hp.bel
      have hlo := hp.lo
      clear hp
      obtain ⟨Av, nv, cv, rfl⟩ : ∃ Av nv cv, vr = .slice Av nv cv := by
        obtain ⟨A, c, h, -⟩ := hvr.shape
        exact ⟨_, _, _, h⟩
      have HOWN := Lib.hid hown
      have HRW := Lib.hid hrw
      clear hvr hown hrw
      go_wp2
      have hz := ((hR.set 0 (.int .i64 (n : Int))).set 1 (.int .i64 exit)).set 2 (.slice Av nv cv)
      have k0 := hz.cellAt (i := 0) rfl
      have k1 := hz.cellAt (i := 1) rfl
      have k2 := hz.cellAt (i := 2) rfl
      refine bodyPost_ret (v := .agg #[.int .i64 (n : Int), .int .i64 exit, .slice Av nv cv]) ?_ rfl ⟨_, rfl, ?_, ?_⟩
      · simp [results, Try.results61, go_sem, k0, k1, k2]
      · exact HRW.out.edges (ownsRow_setCell_below (ownsRow_setCell_below (ownsRow_setCell_below HOWN.out (by show w.heap.size + 1 < _; omega) _) (by show w.heap.size + 1 < _; omega) _) (by show w.heap.size + 1 < _; omega) _)
      · exact ((hbel.setCell (by simp) _).setCell (by simp) _).setCell (by simp) _
end Go.Proofs.Ytngfoinceakgdaa

/-! The reference: Back, Reducible. -/
namespace Go.Proofs.Ytngfoinceakgdaa
open Go.RowKit Go.Shelf

section
variable (B : Nat) (w : World) (v : Value)
set_option maxRecDepth 100000
set_option maxHeartbeats 4000000
theorem rback_bad (n exit : Int) (es : List (Int × Int)) (hv : Edges B w v es) (hB : B ≤ w.heap.size) (hc : chk n exit es ≠ 0) :
    Calls Try.prog 23 #[.agg #[.int .i64 n, .int .i64 exit, v]] w fun en w' => en = .returned (.tuple #[.slice none 0 0, .int .i64 (chk n exit es)]) ∧ Below w.heap.size w w' := by
  obtain ⟨A, c, rfl, hlc, -, hm, hes⟩ := id hv.shape
  have hcheck := fun w1 (h1 : Below w.heap.size w w1) => rcheck_any B w1 n exit _ es (hv.below (h1.mono hB)) (by have := h1.size; omega)
  have HC := Lib.hid hcheck
  clear hcheck hes hv
  go_enter Try.func23, Try.ntmps23
  go_wp2_with (go_at_call 32; refine (HC.out _ ((Below.refl _ _).alloc (Nat.le_refl _) _)).mono ?_; rintro en w1 ⟨rfl, hb1⟩)
  go_ret2
  exact ⟨rfl, ((Below.refl _ _).alloc (Nat.le_refl _) _).trans (hb1.mono (by simp))⟩
theorem rred_bad (n exit : Int) (es : List (Int × Int)) (hv : Edges B w v es) (hB : B ≤ w.heap.size) (hc : chk n exit es ≠ 0) :
    Calls Try.prog 27 #[.agg #[.int .i64 n, .int .i64 exit, v]] w fun en w' => en = .returned (.tuple #[.bool false, .int .i64 (chk n exit es)]) ∧ Below w.heap.size w w' := by
  obtain ⟨A, c, rfl, hlc, -, hm, hes⟩ := id hv.shape
  have hcheck := fun w1 (h1 : Below w.heap.size w w1) => rcheck_any B w1 n exit _ es (hv.below (h1.mono hB)) (by have := h1.size; omega)
  have HC := Lib.hid hcheck
  clear hcheck hes hv
  go_enter Try.func27, Try.ntmps27
  go_wp2_with (go_at_call 32; refine (HC.out _ ((Below.refl _ _).alloc (Nat.le_refl _) _)).mono ?_; rintro en w1 ⟨rfl, hb1⟩)
  go_ret2
  exact ⟨rfl, ((Below.refl _ _).alloc (Nat.le_refl _) _).trans (hb1.mono (by simp))⟩
theorem rback_ok (n : Nat) (exit : Int) (E : List (Nat × Nat)) (hv : Edges B w v (castE E)) (hB : B ≤ w.heap.size) (hg : GOk n exit E) :
    Calls Try.prog 23 #[.agg #[.int .i64 (n : Int), .int .i64 exit, v]] w fun en w' => ∃ vo, en = .returned (.tuple #[vo, .int .i64 0]) ∧ Nats w'.heap.size w' vo (backw (domB n E 0) E E.length) ∧ Below w.heap.size w w' := by
  obtain ⟨A, c, rfl, hlc, -, hm, hes⟩ := id hv.shape
  have hcheck := fun (W : World) (h1 : GV w W n exit (.slice A (castE E).length c)) => rcheck_any B W n exit _ _ (hv.below (h1.bel.mono hB)) (by have := h1.bel.size; omega)
  have hbw := fun (W : World) (h1 : GV w W n exit (.slice A (castE E).length c)) => backward_any B W _ n exit E (hv.below (h1.bel.mono hB)) (by have := h1.bel.size; omega) hg.n512 hg.n1 hg.lt hg.len
  rw [hg.chk] at hcheck
  have HC := Lib.hid hcheck
  have HN := Lib.hid hbw
  have hg0 := GV.start w n exit (.slice A (castE E).length c)
  clear hcheck hbw hes hv
  go_enter Try.func23, Try.ntmps23
  go_wp2_with (first
    | (go_at_call 32; refine (HC.out _ hg0).mono ?_; rintro en w1 ⟨rfl, hb1⟩; have hg1 := hg0.step hb1; obtain ⟨c0, c1, c2⟩ := hg1.cells)
    | (go_at_call 57; refine (HN.out _ hg1).mono ?_; rintro en w2 ⟨vo, rfl, hvo, hw2⟩; have hg2 := hg1.step hw2))
  go_ret2
  exact ⟨_, rfl, hvo, hg2.bel⟩

structure RedS (w w4 W : World) (n exit : Int) (v : Value) (fb : Nat) (vF : Value) : Prop where
  gv : GV w W n exit v
  f : Blk W fb 24 [.int .i64 n, .int .i64 exit, vF]
  bel : Below (fb + 1) w4 W
theorem RedS.step {w w4 W W' : World} {n exit : Int} {v : Value} {fb : Nat} {vF : Value} (h : RedS w w4 W n exit v fb vF) (hb : Below W.heap.size W W') : RedS w w4 W' n exit v fb vF := ⟨h.gv.step hb, h.f.below hb h.f.lt, h.bel.trans (hb.mono h.f.lt)⟩
/-- No edge of F lies on a cycle of F's edges. -/
noncomputable def redB (n : Nat) (F : List (Nat × Nat)) (k : Nat) : Bool := (F.take k).all fun x => !rB n F (-1) x.2 x.1
theorem redB_no {n : Nat} {F : List (Nat × Nat)} {k : Nat} (h : redB n F k = false) : redB n F F.length = false := by
  unfold redB at h ⊢
  rw [List.take_length]
  rw [List.all_eq_false] at h ⊢
  obtain ⟨x, hx, h1⟩ := h
  exact ⟨x, List.mem_of_mem_take hx, h1⟩
theorem rred_ok (n : Nat) (exit : Int) (E : List (Nat × Nat)) (hv : Edges B w v (castE E)) (hB : B ≤ w.heap.size) (hg : GOk n exit E) :
    Calls Try.prog 27 #[.agg #[.int .i64 (n : Int), .int .i64 exit, v]] w fun en w' => en = .returned (.tuple #[.bool (redB n (forwE n E E) (forwE n E E).length), .int .i64 0]) ∧ Below w.heap.size w w' := by
  obtain ⟨A, c, rfl, hlc, -, hm, hes⟩ := id hv.shape
  have hcheck := fun (W : World) (h1 : GV w W n exit (.slice A (castE E).length c)) => rcheck_any B W n exit _ _ (hv.below (h1.bel.mono hB)) (by have := h1.bel.size; omega)
  have hfw := fun (W : World) (h1 : GV w W n exit (.slice A (castE E).length c)) => forward_any B W _ n exit E (hv.below (h1.bel.mono hB)) (by have := h1.bel.size; omega) hg.n512 hg.n1 hg.lt hg.len
  rw [hg.chk] at hcheck
  have HC := Lib.hid hcheck
  have HN := Lib.hid hfw
  have hlF : (forwE n E E).length ≤ 1024 := Nat.le_trans (List.length_filter_le _ _) hg.len
  have hltF : ∀ x ∈ forwE n E E, x.1 < n ∧ x.2 < n := fun x hx => hg.lt x (List.mem_filter.1 hx).1
  have hn512 := hg.n512
  have hg0 := GV.start w n exit (.slice A (castE E).length c)
  clear hcheck hfw hes hv hg
  revert HN hlF hltF
  generalize forwE n E E = F
  intro HN hlF hltF
  go_enter Try.func27, Try.ntmps27
  go_upto_region 4 with (go_at_call 32; refine (HC.out _ hg0).mono ?_; rintro en w1 ⟨rfl, hb1⟩; have hg1 := hg0.step hb1; obtain ⟨c0, c1, c2⟩ := hg1.cells)
  have hlenF : (castE F).length = F.length := castE_length F
  go_upto_region 6 with (go_at_call 61; refine (HN.out _ hg1).mono ?_; rintro en w2 ⟨vF, rfl, hvF, hw2⟩; obtain ⟨Af, cF, rfl, hlcF, -, hmF, hesF⟩ := id hvF.shape)
  have hg2 := hg1.step hw2
  rw [hlenF] at hvF hlcF hmF
  have hrs : RedS w (w2.alloc (.cells #[.int .i64 (n : Int), .int .i64 exit, .slice Af F.length cF] 24)) (w2.alloc (.cells #[.int .i64 (n : Int), .int .i64 exit, .slice Af F.length cF] 24)) n exit (.slice A (castE E).length c) w2.heap.size (.slice Af F.length cF) :=
    ⟨hg2.alloc _, Blk.newAt w2 24 #[.int .i64 (n : Int), .int .i64 exit, .slice Af F.length cF] rfl, Below.refl _ _⟩
  have hvF2 := (hvF.below ((Below.refl w2.heap.size w2).alloc (Nat.le_refl _) (.cells #[.int .i64 (n : Int), .int .i64 exit, .slice Af F.length cF] 24))).more (Nat.le_succ w2.heap.size)
  clear hvF hesF HC HN hg0 hg1 hg2 c0 c1 c2 hw2
  revert hrs hvF2
  generalize w2.alloc (.cells #[.int .i64 (n : Int), .int .i64 exit, .slice Af F.length cF] 24) = w4
  generalize w2.heap.size = fb
  intro hrs hvF2
  have hes2 := hvF2.shape
  obtain ⟨Ag, cg, hge, -, -, -, hes3⟩ := hes2
  rw [hlenF] at hge
  cases hge
  have HE := Lib.hid (Edges.nat hes3)
  have hre := fun (W : World) (h : RedS w w4 W n exit (.slice A (castE E).length c) fb (.slice Af F.length cF)) (f : Nat) (hf : f < n) => rreach_sem (fb + 1) W _ n exit F (hvF2.below h.bel) h.f.lt hn512 hltF hlF f hf (-1)
  have HRE := Lib.hid hre
  have HLT := Lib.hid hltF
  clear hre hvF2 hes3 hltF hlenF
  go_loopw [6] (fun y wr => ∃ k : Nat, k ≤ F.length ∧ y = .int .i64 k ∧ redB n F k = true ∧ RedS w w4 wr n exit (.slice A (castE E).length c) fb (.slice Af F.length cF)) (fun y _ => F.length - (intOf y).toNat)
  case atStart => exact ⟨0, Nat.zero_le _, rfl, rfl, hrs⟩
  case round =>
    obtain ⟨k, hk, rfl, hall, hp⟩ := hrel
    clear hrs
    have k0 := hp.f.cellAt (i := 0) rfl
    have k1 := hp.f.cellAt (i := 1) rfl
    have k2 := hp.f.cellAt (i := 2) rfl
    by_cases hlt : k < F.length
    · have hlt1 : (k : Int) < (F.length : Int) := by omega
      have hek : F[k]? = some F[k] := List.getElem?_eq_getElem hlt
      have hft := HLT.out _ (List.getElem_mem hlt)
      have hst : redB n F (k + 1) = (redB n F k && !rB n F (-1) F[k].2 F[k].1) := by
        unfold redB
        rw [List.take_succ_eq_append_getElem hlt, List.all_append]
        simp
      revert hek hst hft
      generalize F[k] = x
      intro hek hft hst
      obtain ⟨f, t⟩ := x
      obtain ⟨ade, cs, rfl, hab, hcl, hcc, hc0, hc1, hone⟩ := HE.out k _ hek
      have g0 := (hp.bel.cell (p := (ade.add (k * 21)).add 0) (by rw [block_add, block_add]; omega)).trans (hcc 0 _ hc0)
      have g1 := (hp.bel.cell (p := (ade.add (k * 21)).add 1) (by rw [block_add, block_add]; omega)).trans (hcc 1 _ hc1)
      rw [addrZero] at g0
      rw [addrOne] at g1
      simp only at g0 g1 hst
      have hab2 : (ade.add (k * 21)).block < wr.drew.heap.size := by
        have h1 := hp.f.lt
        rw [block_add]
        show _ < wr.heap.size
        omega
      have hfb2 : fb < wr.drew.heap.size := hp.f.lt
      have hpd : RedS w w4 wr.drew n exit (.slice A (castE E).length c) fb (.slice (some ade) F.length cF) := ⟨hp.gv.drew, hp.f, hp.bel.drew⟩
      have hf1 : (f : Int) < (n : Int) := by have := hft.1; omega
      have ht1 : (t : Int) < (n : Int) := by have := hft.2; omega
      have hrr := HRE.out wr.drew hpd t hft.2
      have hfn := hft.1
      have HRR := Lib.hid hrr
      have HST := Lib.hid hst
      clear hcc hcl hc0 hc1 hone hek hft hrr hst hp HRE HE HLT
      go_upto_region 8 with fail
      have hHeld : wr.drew.cell? ⟨fb, 0, none⟩ = some (.int .i64 (n : Int)) ∧ wr.drew.cell? ⟨fb, 1, none⟩ = some (.int .i64 exit) ∧ wr.drew.cell? ⟨fb, 2, none⟩ = some (.slice (some ade) F.length cF) ∧ wr.drew.cell? (ade.add (k * 21)) = some (.int .i64 (f : Int)) ∧ wr.drew.cell? ⟨(ade.add (k * 21)).block, (ade.add (k * 21)).off + 1, none⟩ = some (.int .i64 (t : Int)) := ⟨k0, k1, k2, g0, g1⟩
      clear k0 k1 k2 g0 g1
      refine wp_region_front (S := (fun w' => w'.cell? ⟨fb, 0, none⟩ = some (.int .i64 (n : Int)) ∧ w'.cell? ⟨fb, 1, none⟩ = some (.int .i64 exit) ∧ w'.cell? ⟨fb, 2, none⟩ = some (.slice (some ade) F.length cF) ∧ w'.cell? (ade.add (k * 21)) = some (.int .i64 (f : Int)) ∧ w'.cell? ⟨(ade.add (k * 21)).block, (ade.add (k * 21)).off + 1, none⟩ = some (.int .i64 (t : Int)))) 3 14 (by kernel_rfl) (by kernel_rfl) (by decide) rfl (by kernel_rfl) (by kernel_rfl) (fun _ _ _ h => h) (.inl ⟨by rfl, fun w' => by rfl⟩) ?_
      simp only [Act.put, List.setIfInBounds_toArray, List.set_cons_zero, List.set_cons_succ]
      revert hpd hHeld HRR hab2 hfb2
      generalize wr.drew = wz
      intro hab2 hfb2 hpd HRR hHeld
      refine Front.take 0 (v := ?_) rfl (by decide) (by kernel_rfl) (by kernel_rfl) (fun _ _ _ h => h) rfl hHeld ?_ ?_
      case refine_2 => intro w' hSw; obtain ⟨q1, q2, q3, q4, q5⟩ := hSw; go_simp <;> with_reducible rfl
      simp only [Act.put, List.setIfInBounds_toArray, List.set_cons_zero, List.set_cons_succ]
      refine Front.take 1 (v := ?_) rfl (by decide) (by kernel_rfl) (by kernel_rfl) (fun _ _ _ h => h) rfl hHeld ?_ ?_
      case refine_2 => intro w' hSw; obtain ⟨q1, q2, q3, q4, q5⟩ := hSw; go_simp <;> with_reducible rfl
      simp only [Act.put, List.setIfInBounds_toArray, List.set_cons_zero, List.set_cons_succ]
      refine Front.take 2 (v := ?_) rfl (by decide) (by kernel_rfl) (by kernel_rfl) (fun _ _ _ h => h) rfl hHeld ?_ ?_
      case refine_2 => intro w' hSw; obtain ⟨q1, q2, q3, q4, q5⟩ := hSw; go_simp <;> with_reducible rfl
      simp only [Act.put, List.setIfInBounds_toArray, List.set_cons_zero, List.set_cons_succ]
      refine Front.take 4 (v := ?_) rfl (by decide) (by kernel_rfl) (by kernel_rfl) (fun _ _ _ h => h) rfl hHeld ?_ ?_
      case refine_2 => intro w' hSw; obtain ⟨q1, q2, q3, q4, q5⟩ := hSw; go_simp <;> with_reducible rfl
      simp only [Act.put, List.setIfInBounds_toArray, List.set_cons_zero, List.set_cons_succ]
      refine Front.take 5 (v := ?_) rfl (by decide) (by kernel_rfl) (by kernel_rfl) (fun _ _ _ h => h) rfl hHeld ?_ ?_
      case refine_2 => intro w' hSw; obtain ⟨q1, q2, q3, q4, q5⟩ := hSw; go_simp <;> with_reducible rfl
      simp only [Act.put, List.setIfInBounds_toArray, List.set_cons_zero, List.set_cons_succ]
      refine Front.take 6 (v := ?_) rfl (by decide) (by kernel_rfl) (by kernel_rfl) (fun _ _ _ h => h) rfl hHeld ?_ ?_
      case refine_2 => intro w' hSw; obtain ⟨q1, q2, q3, q4, q5⟩ := hSw; go_simp <;> with_reducible rfl
      simp only [Act.put, List.setIfInBounds_toArray, List.set_cons_zero, List.set_cons_succ]
      refine Front.take 8 (v := ?_) rfl (by decide) (by kernel_rfl) (by kernel_rfl) (fun _ _ _ h => h) rfl hHeld ?_ ?_
      case refine_2 => intro w' hSw; obtain ⟨q1, q2, q3, q4, q5⟩ := hSw; go_simp <;> with_reducible rfl
      simp only [Act.put, List.setIfInBounds_toArray, List.set_cons_zero, List.set_cons_succ]
      refine Front.take 9 (v := ?_) rfl (by decide) (by kernel_rfl) (by kernel_rfl) (fun _ _ _ h => h) rfl hHeld ?_ ?_
      case refine_2 => intro w' hSw; obtain ⟨q1, q2, q3, q4, q5⟩ := hSw; go_simp <;> with_reducible rfl
      simp only [Act.put, List.setIfInBounds_toArray, List.set_cons_zero, List.set_cons_succ]
      refine Front.take 10 (v := ?_) rfl (by decide) (by kernel_rfl) (by kernel_rfl) (fun _ _ _ h => h) rfl hHeld ?_ ?_
      case refine_2 => intro w' hSw; obtain ⟨q1, q2, q3, q4, q5⟩ := hSw; go_simp <;> with_reducible rfl
      simp only [Act.put, List.setIfInBounds_toArray, List.set_cons_zero, List.set_cons_succ]
      refine Front.take 11 (v := ?_) rfl (by decide) (by kernel_rfl) (by kernel_rfl) (fun _ _ _ h => h) rfl hHeld ?_ ?_
      case refine_2 => intro w' hSw; obtain ⟨q1, q2, q3, q4, q5⟩ := hSw; go_simp <;> with_reducible rfl
      simp only [Act.put, List.setIfInBounds_toArray, List.set_cons_zero, List.set_cons_succ]
      refine Front.take 12 (v := ?_) rfl (by decide) (by kernel_rfl) (by kernel_rfl) (fun _ _ _ h => h) rfl hHeld ?_ ?_
      case refine_2 => intro w' hSw; obtain ⟨q1, q2, q3, q4, q5⟩ := hSw; go_simp <;> with_reducible rfl
      simp only [Act.put, List.setIfInBounds_toArray, List.set_cons_zero, List.set_cons_succ]
      refine Front.take 13 (v := ?_) rfl (by decide) (by kernel_rfl) (by kernel_rfl) (fun _ _ _ h => h) rfl hHeld ?_ ?_
      case refine_2 => intro w' hSw; obtain ⟨q1, q2, q3, q4, q5⟩ := hSw; go_simp <;> with_reducible rfl
      simp only [Act.put, List.setIfInBounds_toArray, List.set_cons_zero, List.set_cons_succ]
      refine Front.one (i := 7) (by kernel_rfl) (by decide) ?_
      refine FrontStep.of rfl (fun K hK => ?_)
      go_simp
      refine HRR.out.mono ?_
      rintro en w9 ⟨ga, rfl, hga, -, hw9⟩
      refine hK _ w9 ⟨(hw9.cell hfb2).trans hHeld.1, (hw9.cell hfb2).trans hHeld.2.1, (hw9.cell hfb2).trans hHeld.2.2.1, (hw9.cell hab2).trans hHeld.2.2.2.1, (hw9.cell (p := ⟨(ade.add (k * 21)).block, (ade.add (k * 21)).off + 1, none⟩) hab2).trans hHeld.2.2.2.2⟩ ?_
      clear K hK hHeld
      have e9 := hga.cellAt (i := f) (u := .bool (rB n F (-1) t f)) (by simp [hfn])
      have hp9 := hpd.step hw9
      refine Front.done (by kernel_rfl) ?_
      simp only [List.drop_succ_cons, List.drop_zero]
      clear hpd hw9 hga hab2 hfb2 HRR
      revert e9 HST
      generalize rB n F (-1) t f = bq
      intro HST e9
      have hgb := hp9.gv.bel
      cases bq with
      | false =>
        go_wp2
        go_roundw
        case rel => exact ⟨k + 1, by omega, by go_num, by rw [HST.out, hall]; rfl, hp9⟩
        case measure => simp [intOf]; omega
      | true =>
        have hno : redB n F (k + 1) = false := by rw [HST.out]; simp
        have HNO := Lib.hid (redB_no hno)
        clear hno hp9 hall
        go_wp2
        go_ret2
        exact ⟨by rw [HNO.out]; rfl, hgb⟩
    · obtain rfl : k = F.length := by omega
      have hbe := hp.gv.bel
      have HALL := Lib.hid hall
      clear hp hall
      go_wp2
      go_ret2
      exact ⟨by rw [HALL.out]; rfl, hbe⟩
end
end Go.Proofs.Ytngfoinceakgdaa

/-! The reference: loop. -/
namespace Go.Proofs.Ytngfoinceakgdaa
open Go.RowKit Go.Shelf

/-- One back edge's points are added. -/
noncomputable def inStep (n : Nat) (E : List (Nat × Nat)) (h : Nat) (F : Nat → Bool) (e : Nat) : Nat → Bool :=
  if (E.getD e (0, 0)).2 = h then fun p => F p || (rB n (swapE E) h (E.getD e (0, 0)).1 p && rB n E (-1) 0 p) else F
noncomputable def inF (n : Nat) (E : List (Nat × Nat)) (h : Nat) (bs : List Nat) : Nat → Bool := bs.foldl (inStep n E h) (fun p => p == h)
theorem inF_succ {n : Nat} {E : List (Nat × Nat)} {h : Nat} {bs : List Nat} {k e : Nat} (he : bs[k]? = some e) : inF n E h (bs.take (k + 1)) = inStep n E h (inF n E h (bs.take k)) e := by
  obtain ⟨hk, rfl⟩ := List.getElem?_eq_some_iff.1 he
  unfold inF
  rw [List.take_succ_eq_append_getElem hk, List.foldl_append]
  rfl

theorem exec_load_list {P : Program} {w : World} {o : Oper} {ev : Operand → Value} (ty : TypeId) (x : Operand) (ho : o.op = .load ty x) (ad : Addr) (hx : ev x = .pointer (some ad)) (cs : List Value) (d : TypeDesc) (hc : ∀ j v, cs[j]? = some v → w.cell? (ad.add j) = some v)
    (hu : P.underlying ty = some d) (hd : d.isRow = true) (hi : (P.info? ty).map (·.size) = some cs.length) : (execOp ev o).run P w = .ok (.value (.agg cs.toArray)) w := by
  unfold execOp
  simp only [ho, hx, Instr.loadAt, Instr.sureAddr, Sem.run_bind, Sem.run_pure, Result.andThen_ok, run_loadVar_list w ad ty cs d hc hu hd hi]

structure LpS (w W : World) (n exit : Int) (v : Value) (m ga ib : Nat) (all F : Nat → Bool) : Prop where
  gv : GV w W n exit v
  a : Blk W ga 4 (boolRow m all)
  i : Blk W ib 4 (boolRow m F)
  lo : w.heap.size < ga
  ai : ga < ib
section
variable {w W W' : World} {n exit : Int} {v : Value} {m ga ib : Nat} {all F F' : Nat → Bool}
theorem LpS.step (h : LpS w W n exit v m ga ib all F) (hb : Below W.heap.size W W') : LpS w W' n exit v m ga ib all F := ⟨h.gv.step hb, h.a.below hb h.a.lt, h.i.below hb h.i.lt, h.lo, h.ai⟩
theorem LpS.alloc (h : LpS w W n exit v m ga ib all F) (o : Obj) : LpS w (W.alloc o) n exit v m ga ib all F := ⟨h.gv.alloc _, h.a.alloc _, h.i.alloc _, h.lo, h.ai⟩
theorem LpS.drewN (h : LpS w W n exit v m ga ib all F) (k : Nat) : LpS w (W.drewN k) n exit v m ga ib all F := ⟨h.gv.drewN k, h.a, h.i, h.lo, h.ai⟩
theorem LpS.set (h : LpS w W n exit v m ga ib all F) (j : Nat) (b : Bool) : LpS w (W.setCell ⟨ib, j, none⟩ (.bool b)) n exit v m ga ib all (fun x => if x = j then b else F x) := by
  have h1 := h.lo
  have h2 := h.ai
  refine ⟨⟨h.gv.g.far (by show w.heap.size ≠ ib; omega) _, h.gv.bel.setCell (by show w.heap.size ≤ ib; omega) _⟩, h.a.far (by show ga ≠ ib; omega) _, ?_, h1, h2⟩
  have h3 := h.i.set j (.bool b)
  rw [boolRow_set] at h3
  exact h3
theorem LpS.congr (h : LpS w W n exit v m ga ib all F) (hF : ∀ j, j < m → F j = F' j) : LpS w W n exit v m ga ib all F' := ⟨h.gv, h.a, by rw [← boolRow_congr hF]; exact h.i, h.lo, h.ai⟩
end

set_option maxRecDepth 100000 in
set_option maxHeartbeats 4000000 in
theorem loop_any (B : Nat) (w : World) (v bv : Value) (n : Nat) (exit : Int) (E : List (Nat × Nat)) (bs : List Nat) (hv : Edges B w v (castE E)) (hb : Nats B w bv bs) (hB : B ≤ w.heap.size) (hn : n ≤ 512) (hE : ∀ x ∈ E, x.1 < n ∧ x.2 < n) (hlE : E.length ≤ 1024) (hbs : ∀ e ∈ bs, e < E.length) (h : Nat) (hh : h < n) :
    Calls Try.prog 79 #[.agg #[.int .i64 (n : Int), .int .i64 exit, v], bv, .int .i64 (h : Int)] w fun en w' => ∃ vo, en = .returned vo ∧ w'.ownsRow w.heap.size 3 1 vo ((List.range n).filter (inF n E h bs)).length (((List.range n).filter (inF n E h bs)).map natV) ∧ Below w.heap.size w w' := by
  obtain ⟨A, c, rfl, hlc, -, hm, hes⟩ := id hv.shape
  obtain ⟨Ab, cb, rfl, hlb, -, hmb, hcb⟩ := hb.shape
  have hlen0 : (castE E).length = E.length := castE_length E
  have hre := fun (W : World) (h1 : GV w W n exit (.slice A (castE E).length c)) => rreach_sem B W _ n exit E (hv.below (h1.bel.mono hB)) (by have := h1.bel.size; omega) hn hE hlE 0 (by omega) (-1)
  have htu := fun (W : World) (h1 : GV w W n exit (.slice A (castE E).length c)) => turned_any B W _ n exit E (hv.below (h1.bel.mono hB)) (by have := h1.bel.size; omega) hlE
  rw [hlen0] at hlc hm hre htu ⊢
  have hlS : (swapE E).length ≤ 1024 := by simpa [swapE] using hlE
  have hltS : ∀ x ∈ swapE E, x.1 < n ∧ x.2 < n := fun x hx => by
    obtain ⟨y, hy, rfl⟩ := List.mem_map.1 hx
    exact ⟨(hE y hy).2, (hE y hy).1⟩
  have hrt := fun (W : World) (v1 : Value) (h1 : Edges W.heap.size W v1 (castE (swapE E))) (f : Nat) (hf : f < n) => rreach_sem W.heap.size W v1 n exit (swapE E) h1 (Nat.le_refl _) hn hltS hlS f hf (h : Int)
  have HRE := Lib.hid hre
  have HTU := Lib.hid htu
  have HRT := Lib.hid hrt
  have HE := Lib.hid (Edges.nat hes)
  have HEL := Lib.hid hE
  have HBS := Lib.hid hbs
  have HCB := Lib.hid hcb
  have hg0 := GV.start w n exit (.slice A E.length c)
  have hmk := make_one (P := Try.prog) 61 4 (.bool false) 1 Try.underlying61 info_bool rfl n (by omega) (by omega)
  have hh1 : (h : Int) < (n : Int) := by omega
  obtain ⟨ie, hi, hz0, hz1, hz2⟩ := info_parts info_int
  clear hre htu hrt hlen0 hv hes hE hbs hcb hlS hltS hb
  go_enter Try.func79, Try.ntmps79
  go_upto_region 2 with (go_at_call 62; refine (HRE.out _ hg0).mono ?_; rintro en w1 ⟨ga, rfl, hga, hgs, hw1⟩)
  have hg1 := hg0.step hw1
  have hs0 := hg0.g.lt
  clear hg0 hw1 HRE
  obtain ⟨c0, c1, c2⟩ := hg1.cells
  go_upto_region 3 with fail
  have hls : LpS w (w1.alloc (.cells (List.replicate n (.bool false)).toArray 4)) n exit (.slice A E.length c) n ga w1.heap.size (rB n E (-1) 0) (fun _ => false) := by
    refine ⟨hg1.alloc _, ?_, ?_, by omega, hga.lt⟩
    · exact Blk.alloc hga _
    · have := Blk.new w1 4 (List.replicate n (.bool false))
      rw [boolRow_no]
      exact this
  simp only [List.toArray_replicate] at hls
  clear hg1 hga c0 c1 c2 hgs hmk hs0
  revert hls
  generalize w1.alloc (.cells (Array.replicate n (.bool false)) 4) = w2
  generalize w1.heap.size = ib
  intro hls
  have d1 := hls.i.cellAt (boolRow_at hh)
  have f1 := hls.i.frozen h
  have hs := hls.set h true
  have hs2 := hs.congr (F' := inF n E h (bs.take 0)) (fun j _ => by
    show (if j = h then true else false) = (j == h)
    by_cases e : j = h
    · simp [e]
    · simp [e])
  clear hls hs
  go_wp2
  clear d1 f1
  revert hs2
  generalize w2.setCell ⟨ib, h, none⟩ (.bool true) = w3
  intro hs2
  go_loopw [9] (fun y wr => ∃ k : Nat, k ≤ bs.length ∧ y = .int .i64 k ∧ LpS w wr n exit (.slice A E.length c) n ga ib (rB n E (-1) 0) (inF n E h (bs.take k))) (fun y _ => bs.length - (intOf y).toNat)
  case atStart => exact ⟨0, Nat.zero_le _, rfl, hs2⟩
  case round =>
    obtain ⟨k, hk, rfl, hp⟩ := hrel
    clear hs2
    by_cases hlt : k < bs.length
    · have hlt1 : (k : Int) < (bs.length : Int) := by omega
      have hbk : bs[k]? = some bs[k] := List.getElem?_eq_getElem hlt
      have hel := HBS.out _ (List.getElem_mem hlt)
      have hsu := inF_succ (n := n) (E := E) (h := h) hbk
      revert hbk hel hsu
      generalize bs[k] = e
      intro hbk hel hsu
      obtain ⟨adb, ub, rfl, hbb, hcb, hub⟩ := HCB.out k e hbk
      cases hub
      have hek : E[e]? = some E[e] := List.getElem?_eq_getElem hel
      have hft := HEL.out _ (List.getElem_mem hel)
      unfold inStep at hsu
      rw [List.getD_eq_getElem?_getD, hek] at hsu
      revert hek hft hsu
      generalize E[e] = x
      intro hsu hek hft
      simp only [Option.getD_some] at hsu
      obtain ⟨f, t⟩ := x
      obtain ⟨ade, cs, rfl, hab, hcl, hcc, hc0, hc1, hone⟩ := HE.out e _ hek
      have hsw := hp.gv.bel.size
      have hcr : ∀ j v, cs[j]? = some v → wr.cell? ((ade.add (e * 21)).add j) = some v := fun j v hj => (hp.gv.bel.cell (by rw [block_add, block_add]; omega)).trans (hcc j v hj)
      have g0 := (hp.gv.bel.cell (p := adb.add k) (by rw [block_add]; omega)).trans hcb
      have hel1 : (e : Int) < (E.length : Int) := by omega
      have hel2 : decide ((E.length : Int) ≤ (e : Int)) = false := by rw [decide_eq_false_iff_not]; omega
      have hel3 : decide (E.length ≤ e) = false := by rw [decide_eq_false_iff_not]; omega
      have HL := Lib.hid hcl
      have H1 := Lib.hid hone
      have HSU := Lib.hid hsu
      have H0 := Lib.hid hc0
      have HT1 := Lib.hid hc1
      clear hcc hcl hone hc0 hc1 hsu hek hbk hcb
      have c2 := hp.gv.g.cellAt (i := 2) rfl
      go_upto_region 7 with fail
      have hpd := hp.drewN 1
      have hHeld : (wr.drewN 1).cell? ⟨w.heap.size, 2, none⟩ = some (.slice (some ade) E.length c) ∧ (wr.drewN 1).cell? (adb.add k) = some (.int .i64 (e : Int)) ∧ ∀ j v, cs[j]? = some v → (wr.drewN 1).cell? ((ade.add (e * 21)).add j) = some v := ⟨c2, g0, hcr⟩
      clear hp c2 g0 hcr
      refine wp_region_front (S := fun w' => w'.cell? ⟨w.heap.size, 2, none⟩ = some (.slice (some ade) E.length c) ∧ w'.cell? (adb.add k) = some (.int .i64 (e : Int)) ∧ ∀ j v, cs[j]? = some v → w'.cell? ((ade.add (e * 21)).add j) = some v) 2 9 (by kernel_rfl) (by kernel_rfl) (by decide) rfl (by kernel_rfl) (by kernel_rfl) (fun _ _ _ h => h) (.inl ⟨by rfl, fun w' => by rfl⟩) ?_
      simp only [Act.put, List.setIfInBounds_toArray, List.set_cons_zero, List.set_cons_succ]
      change Front _ _ _ _ _ _ _ _ _ (wr.drewN 1)
      revert hpd hHeld
      generalize wr.drewN 1 = wz
      intro hpd hHeld
      refine Front.take 0 (v := ?_) rfl (by decide) (by kernel_rfl) (by kernel_rfl) (fun _ _ _ h => h) rfl hHeld ?_ ?_
      case refine_2 => intro w' hSw; obtain ⟨q1, q2, q3⟩ := hSw; go_simp <;> with_reducible rfl
      simp only [Act.put, List.setIfInBounds_toArray, List.set_cons_zero, List.set_cons_succ]
      refine Front.take 1 (v := ?_) rfl (by decide) (by kernel_rfl) (by kernel_rfl) (fun _ _ _ h => h) rfl hHeld ?_ ?_
      case refine_2 => intro w' hSw; obtain ⟨q1, q2, q3⟩ := hSw; go_simp <;> with_reducible rfl
      simp only [Act.put, List.setIfInBounds_toArray, List.set_cons_zero, List.set_cons_succ]
      refine Front.take 3 (v := ?_) rfl (by decide) (by kernel_rfl) (by kernel_rfl) (fun _ _ _ h => h) rfl hHeld ?_ ?_
      case refine_2 => intro w' hSw; obtain ⟨q1, q2, q3⟩ := hSw; go_simp <;> with_reducible rfl
      simp only [Act.put, List.setIfInBounds_toArray, List.set_cons_zero, List.set_cons_succ]
      refine Front.take 4 (v := ?_) rfl (by decide) (by kernel_rfl) (by kernel_rfl) (fun _ _ _ h => h) rfl hHeld ?_ ?_
      case refine_2 => intro w' hSw; obtain ⟨q1, q2, q3⟩ := hSw; go_simp <;> with_reducible rfl
      simp only [Act.put, List.setIfInBounds_toArray, List.set_cons_zero, List.set_cons_succ]
      refine Front.take 5 (v := ?_) rfl (by decide) (by kernel_rfl) (by kernel_rfl) (fun _ _ _ h => h) rfl hHeld ?_ ?_
      case refine_2 => intro w' hSw; obtain ⟨q1, q2, q3⟩ := hSw; go_simp <;> with_reducible rfl
      simp only [Act.put, List.setIfInBounds_toArray, List.set_cons_zero, List.set_cons_succ]
      refine Front.take 6 (v := ?_) rfl (by decide) (by kernel_rfl) (by kernel_rfl) (fun _ _ _ h => h) rfl hHeld ?_ ?_
      case refine_2 => intro w' hSw; obtain ⟨q1, q2, q3⟩ := hSw; go_simp <;> with_reducible rfl
      simp only [Act.put, List.setIfInBounds_toArray, List.set_cons_zero, List.set_cons_succ]
      refine Front.take 7 (v := .agg cs.toArray) rfl (by decide) (by kernel_rfl) (by kernel_rfl) (fun _ _ _ h => h) rfl hHeld ?_ ?_
      case refine_1 =>
        intro w' hSw
        obtain ⟨q1, q2, q3⟩ := hSw
        exact exec_load_list 58 (.tmp 35) rfl (ade.add (e * 21)) rfl cs _ q3 Try.underlying58 rfl (by rw [HL.out]; exact size_edge)
      simp only [Act.put, List.setIfInBounds_toArray, List.set_cons_zero, List.set_cons_succ]
      refine Front.one (i := 8) (by kernel_rfl) (by decide) ?_
      refine FrontStep.of rfl (fun K hK => ?_)
      go_simp
      refine hK _ _ ⟨by simp [World.cell?_alloc_some, hHeld.1], by simp [World.cell?_alloc_some, hHeld.2.1], fun j v hj => by simp [World.cell?_alloc_some, hHeld.2.2 j v hj]⟩ ?_
      clear K hK
      refine Front.done (by kernel_rfl) ?_
      simp only [List.drop_succ_cons, List.drop_zero]
      have hpx := hpd.alloc (.cells cs.toArray 58)
      have hbe := Blk.new wz 58 cs
      have e0 := hbe.cellAt H0.out
      have e1 := hbe.cellAt HT1.out
      have heb0 := hbe.lt
      clear hpd hHeld hbe
      by_cases hth : t = h
      · have hres : inF n E h (bs.take (k + 1)) = fun p => inF n E h (bs.take k) p || (rB n (swapE E) h f p && rB n E (-1) 0 p) := by rw [HSU.out, if_pos hth]
        have HRES := Lib.hid hres
        subst hth
        clear hres
        go_wp2_with ((with_reducible show wpList _ _ _ (⟨none, .store 58 (.tmp 10) (.tmp 36), _, _, _, _⟩ :: _) _ _); refine wpList_store_new rfl _ _ _ rfl _ _ cs rfl rfl (by rw [HL.out]; exact size_edge) (by rw [HL.out]; rfl) H1.out ?_)
        revert hpx e0 e1 heb0
        generalize wz.alloc (.cells cs.toArray 58) = wy
        generalize wz.heap.size = eb
        intro e0 e1 heb0 hpx
        have hpd := hpx.drewN 1
        have hHeld : (wy.drewN 1).cell? ⟨w.heap.size, 0, none⟩ = some (.int .i64 (n : Int)) ∧ (wy.drewN 1).cell? ⟨w.heap.size, 1, none⟩ = some (.int .i64 exit) ∧ (wy.drewN 1).cell? ⟨w.heap.size, 2, none⟩ = some (.slice (some ade) E.length c) ∧ (wy.drewN 1).cell? ⟨eb, 0, none⟩ = some (.int .i64 (f : Int)) := ⟨hpx.gv.cells.1, hpx.gv.cells.2.1, hpx.gv.cells.2.2, e0⟩
        have heb : eb < (wy.drewN 1).heap.size := heb0
        have hsz9 : w.heap.size < (wy.drewN 1).heap.size := hpd.gv.g.lt
        clear hpx e0 e1
        refine wp_region_front (S := fun w' => w'.cell? ⟨w.heap.size, 0, none⟩ = some (.int .i64 (n : Int)) ∧ w'.cell? ⟨w.heap.size, 1, none⟩ = some (.int .i64 exit) ∧ w'.cell? ⟨w.heap.size, 2, none⟩ = some (.slice (some ade) E.length c) ∧ w'.cell? ⟨eb, 0, none⟩ = some (.int .i64 (f : Int))) 4 5 (by kernel_rfl) (by kernel_rfl) (by decide) rfl (by kernel_rfl) (by kernel_rfl) (fun _ _ _ h => h) (.inl ⟨by rfl, fun w' => by rfl⟩) ?_
        simp only [Act.put, List.setIfInBounds_toArray, List.set_cons_zero, List.set_cons_succ]
        change Front _ _ _ _ _ _ _ _ _ (wy.drewN 1)
        revert hpd hHeld heb hsz9
        generalize wy.drewN 1 = wz
        intro hpd hHeld heb hsz9
        refine Front.take 0 (v := ?_) rfl (by decide) (by kernel_rfl) (by kernel_rfl) (fun _ _ _ h => h) rfl hHeld ?_ ?_
        case refine_2 => intro w' hSw; obtain ⟨q1, q2, q3, q4⟩ := hSw; go_simp <;> with_reducible rfl
        simp only [Act.put, List.setIfInBounds_toArray, List.set_cons_zero, List.set_cons_succ]
        refine Front.take 2 (v := ?_) rfl (by decide) (by kernel_rfl) (by kernel_rfl) (fun _ _ _ h => h) rfl hHeld ?_ ?_
        case refine_2 => intro w' hSw; obtain ⟨q1, q2, q3, q4⟩ := hSw; go_simp <;> with_reducible rfl
        simp only [Act.put, List.setIfInBounds_toArray, List.set_cons_zero, List.set_cons_succ]
        refine Front.take 3 (v := ?_) rfl (by decide) (by kernel_rfl) (by kernel_rfl) (fun _ _ _ h => h) rfl hHeld ?_ ?_
        case refine_2 => intro w' hSw; obtain ⟨q1, q2, q3, q4⟩ := hSw; go_simp <;> with_reducible rfl
        simp only [Act.put, List.setIfInBounds_toArray, List.set_cons_zero, List.set_cons_succ]
        refine Front.one (i := 1) (by kernel_rfl) (by decide) ?_
        refine FrontStep.of rfl (fun K hK => ?_)
        go_simp
        refine (HTU.out _ hpd.gv).mono ?_
        rintro en w8 ⟨vT, rfl, hvT, hw8⟩
        refine hK _ w8 ⟨(hw8.cell hsz9).trans hHeld.1, (hw8.cell hsz9).trans hHeld.2.1, (hw8.cell hsz9).trans hHeld.2.2.1, (hw8.cell heb).trans hHeld.2.2.2⟩ ?_
        clear K hK hHeld
        have hp8 := hpd.step hw8
        refine Front.done (by kernel_rfl) ?_
        simp only [List.drop_succ_cons, List.drop_zero]
        clear hpd hw8 heb hsz9
        have hrt := HRT.out w8 vT hvT f hft.1
        have HR9 := Lib.hid hrt
        clear hrt hvT
        have c0 := hp8.gv.cells.1
        go_wp2_with (go_at_call 62; refine HR9.out.mono ?_; rintro en w9 ⟨gl, rfl, hgl, hgls, hw9⟩)
        have hp9 := hp8.step hw9
        have hibg : ib < gl := by have := hp8.i.lt; omega
        have hgl9 : Blk w9 gl 4 (boolRow n (rB n (swapE E) t f)) := hgl
        clear hp8 hgl hw9 hgls c0
        revert HRES hp9 hgl9
        generalize inF n E t (bs.take k) = Fk
        generalize rB n (swapE E) t f = L
        intro HRES hp9 hgl9
        go_loopw [12] (fun y wr => ∃ p : Nat, p ≤ n ∧ y = .int .i64 p ∧ LpS w wr n exit (.slice (some ade) E.length c) n ga ib (rB n E (-1) 0) (fun x => if x < p then Fk x || (L x && rB n E (-1) 0 x) else Fk x) ∧ Blk wr gl 4 (boolRow n L)) (fun y _ => n - (intOf y).toNat)
        case atStart => exact ⟨0, Nat.zero_le _, rfl, hp9.congr (fun j _ => by rw [if_neg (Nat.not_lt_zero j)]), hgl9⟩
        case round =>
          obtain ⟨p, hp, rfl, hq, hgl⟩ := hrel
          clear hp9 hgl9
          have c0 := hq.gv.cells.1
          by_cases hpn : p < n
          · have hpn1 : (p : Int) < (n : Int) := by omega
            have d1 := hq.i.cellAt (boolRow_at hpn)
            rw [if_neg (Nat.lt_irrefl p)] at d1
            have f1 := hq.i.frozen p
            have d2 := hgl.cellAt (boolRow_at hpn)
            have d3 := hq.a.cellAt (boolRow_at hpn)
            have hs := (hq.set p (Fk p || (L p && rB n E (-1) 0 p))).congr (F' := fun x => if x < p + 1 then Fk x || (L x && rB n E (-1) 0 x) else Fk x) (fun j _ => by
              show (if j = p then (Fk p || (L p && rB n E (-1) 0 p)) else if j < p then Fk j || (L j && rB n E (-1) 0 j) else Fk j) = if j < p + 1 then Fk j || (L j && rB n E (-1) 0 j) else Fk j
              by_cases e1 : j = p
              · subst e1; rw [if_pos rfl, if_pos (Nat.lt_succ_self _)]
              · by_cases e2 : j < p
                · rw [if_neg e1, if_pos e2, if_pos (by omega)]
                · rw [if_neg e1, if_neg e2, if_neg (by omega)])
            have hgf := fun u => hgl.far (p := ⟨ib, p, none⟩) (by show gl ≠ ib; omega) (.bool u)
            have HS := Lib.hid hs
            have HGF := Lib.hid hgf
            clear hs hgf hq hgl
            revert d1 d2 d3 HS
            generalize Fk p = b1
            generalize L p = b2
            generalize rB n E (-1) 0 p = b3
            intro d1 d2 d3 HS
            cases b1 with
            | true =>
              go_wp2
              go_roundw
              case rel => exact ⟨p + 1, by omega, by go_num, HS.out, HGF.out _⟩
              case measure => simp [intOf]; omega
            | false =>
              cases b2 with
              | false =>
                go_wp2
                go_roundw
                case rel => exact ⟨p + 1, by omega, by go_num, HS.out, HGF.out _⟩
                case measure => simp [intOf]; omega
              | true =>
                cases b3 with
                | true =>
                  go_wp2
                  go_roundw
                  case rel => exact ⟨p + 1, by omega, by go_num, HS.out, HGF.out _⟩
                  case measure => simp [intOf]; omega
                | false =>
                  go_wp2
                  go_roundw
                  case rel => exact ⟨p + 1, by omega, by go_num, HS.out, HGF.out _⟩
                  case measure => simp [intOf]; omega
          · obtain rfl : p = n := by omega
            have hfin := hq.congr (F' := inF p E t (bs.take (k + 1))) (fun j hj => by rw [if_pos hj, HRES.out])
            have HFIN := Lib.hid hfin
            clear hq hfin hgl
            go_wp2
            go_roundw
            case rel => exact ⟨k + 1, by omega, by go_num, HFIN.out⟩
            case measure => simp [intOf]; omega
      · have hres : inF n E h (bs.take (k + 1)) = inF n E h (bs.take k) := by rw [HSU.out, if_neg hth]
        have ht1 : ((t : Int) == (h : Int)) = false := by rw [beq_eq_false_iff_ne]; omega
        have ht2 : (t == h) = false := by simpa using hth
        have ht3 : ((t : Int) != (h : Int)) = true := by rw [bne_iff_ne]; omega
        have ht4 : (t != h) = true := by simpa using hth
        have HRES := Lib.hid hres
        clear hres hth
        go_wp2_with ((with_reducible show wpList _ _ _ (⟨none, .store 58 (.tmp 10) (.tmp 36), _, _, _, _⟩ :: _) _ _); refine wpList_store_new rfl _ _ _ rfl _ _ cs rfl rfl (by rw [HL.out]; exact size_edge) (by rw [HL.out]; rfl) H1.out ?_)
        go_roundw
        case rel => exact ⟨k + 1, by omega, by go_num, by rw [HRES.out]; exact hpx⟩
        case measure => simp [intOf]; omega
    · obtain rfl : k = bs.length := by omega
      rw [List.take_length] at hp
      clear HRT HTU HE HEL HBS HCB hlt hk
      revert hp
      generalize hFe : inF n E h bs = F
      intro hp
      have HFE := Lib.hid hFe
      clear hFe
      obtain ⟨w5, rfl⟩ : ∃ w5 : World, w5 = wr := ⟨_, rfl⟩
      go_wp2
      go_loopw [13, 14] (fun x y wr => ∃ (p : Nat) (vo : Value), p ≤ n ∧ vo = x ∧ y = .int .i64 p ∧ LpS w wr n exit (.slice A E.length c) n ga ib (rB n E (-1) 0) F ∧ wr.ownsRow w5.heap.size 3 1 vo ((List.range p).filter F).length (((List.range p).filter F).map natV) ∧ w5.heap.size ≤ wr.heap.size) (fun _ y _ => n - (intOf y).toNat)
      case atStart => exact ⟨0, _, Nat.zero_le _, rfl, rfl, hp, World.ownsRow_nil _ _ _ _, Nat.le_refl _⟩
      case round =>
        obtain ⟨p, vo, hpn, rfl, rfl, hq, hown, hsz⟩ := hrel
        have c0 := hq.gv.cells.1
        by_cases hlt : p < n
        · have hlt1 : (p : Int) < (n : Int) := by omega
          have d1 := hq.i.cellAt (boolRow_at hlt)
          have hsu : (List.range (p + 1)).filter F = (List.range p).filter F ++ if F p then [p] else [] := by
            rw [List.range_succ, List.filter_append, List.filter_cons]; rfl
          have hle : ((List.range p).filter F).length ≤ p := by
            have := List.length_filter_le F (List.range p)
            simpa using this
          have HSU := Lib.hid hsu
          clear hsu
          revert hle hown HSU d1
          generalize (List.range p).filter F = ps
          generalize F p = b
          intro hown d1 hle HSU
          cases b with
          | false =>
            have hd : wr.ownsRow w5.heap.size 3 1 vo ((List.range (p + 1)).filter F).length (((List.range (p + 1)).filter F).map natV) := by rw [HSU.out]; simpa using hown
            have HD := Lib.hid hd
            clear hd hown
            go_wp2
            go_roundw
            case rel => exact ⟨p + 1, vo, by omega, rfl, by go_num, hq, HD.out, hsz⟩
            case measure => simp [intOf]; omega
          | true =>
            have hO := hown.alloc (.cells #[.int .i64 (p : Int)] 3)
            have hnb := Blk.new wr 3 [.int .i64 (p : Int)]
            have hqa := hq.alloc (.cells #[.int .i64 (p : Int)] 3)
            have hsz2 : w5.heap.size ≤ (wr.alloc (.cells #[.int .i64 (p : Int)] 3)).heap.size := by rw [World.size_alloc]; omega
            have hib5 := hp.i.lt
            clear hq hown
            go_wp2_with (at_builtin; refine wpList_append_own_at _ rfl (.tmp 82) (.tmp 84) 27 rfl w5.heap.size 3 ie (.int .i64 0) 1 8 Try.underlying27 hi hz0 hz1 hz2 rfl (by decide) vo ps.length (ps.map natV) rfl hO ⟨wr.heap.size, 0, none⟩ 1 1 [.int .i64 (p : Int)] rfl rfl ?c1 ?c2 ?c3 ?c4 hsz2 ?_)
            case c2 => first | rfl | (intro u hu; simp at hu; subst hu; rfl)
            case c3 => simp only [maxLen]; omega
            case c4 => omega
            intro v' w6 hown' hgrow _ _
            have hlo := hqa.lo
            have hai := hqa.ai
            have hqx : LpS w w6 n exit (.slice A E.length c) n ga ib (rB n E (-1) 0) F := by
              have hbb : Below w5.heap.size (wr.alloc (.cells #[.int .i64 (p : Int)] 3)) w6 := (Below.refl _ _).grown hgrow hsz2 (fun j hj => (hO.lt j hj).1)
              refine ⟨⟨hqa.gv.g.below hbb (by omega), hqa.gv.bel.trans (hbb.mono (by omega))⟩, hqa.a.below hbb (by omega), hqa.i.below hbb hib5, hlo, hai⟩
            have hsz6 : w5.heap.size ≤ w6.heap.size := by have := hgrow.size; omega
            have hown2 : w6.ownsRow w5.heap.size 3 1 v' ((List.range (p + 1)).filter F).length (((List.range (p + 1)).filter F).map natV) := by
              rw [HSU.out]
              simp only [if_true, List.length_append, List.map_append]
              exact hown'
            have HO2 := Lib.hid hown2
            clear hown' hown2 hgrow hO hnb hqa hsz2 d1
            go_wp2
            go_roundw
            case rel => exact ⟨p + 1, v', by omega, rfl, by go_num, hqx, HO2.out, hsz6⟩
            case measure => simp [intOf]; omega
        · obtain rfl : p = n := by omega
          have hown2 : wr.ownsRow w.heap.size 3 1 vo ((List.range p).filter F).length (((List.range p).filter F).map natV) := ⟨hown.1, hown.2.imp id fun ⟨g, cap, cur, h1, h2, h3⟩ => ⟨g, cap, cur, h1, Nat.le_trans hp.gv.bel.size h2, h3⟩⟩
          have HN := Lib.hid hown2
          have hbe := hq.gv.bel
          clear hown hown2
          go_wp2
          go_ret
          exact ⟨_, rfl, by rw [HFE.out]; exact HN.out, hbe⟩
end Go.Proofs.Ytngfoinceakgdaa

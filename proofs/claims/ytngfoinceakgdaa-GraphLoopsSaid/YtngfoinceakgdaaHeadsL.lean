/- The law GraphHeads, walked. -/
import Derived.Test.YtngfoinceakgdaaCutsL
import Derived.Test.YtngfoinceakgdaaSorted
namespace Go.Proofs.Ytngfoinceakgdaa
open Go.RowKit Go.Shelf

theorem info_loop2 : (Try.prog.info? 45).map (·.size) = some 2 := by kernel_rfl
/-- What a natural loop is. -/
structure LoopI (n : Nat) (E : List (Nat × Nat)) (q : Nat) (pts : List Nat) : Prop where
  ent : ∃ e ∈ backsOf n E, (E.getD e (0, 0)).2 = q ∧ (E.getD e (0, 0)).1 ∈ pts
  mem : q ∈ pts
  sorted : pts.Pairwise (· < ·)
  len : pts.length ≤ n
  dom : ∀ p ∈ pts, p < n ∧ RchE n E p ∧ domB n E 0 p q = true
  edge : ∀ f t, (f, t) ∈ E → RchE n E f → t ≠ q → t ∈ pts → f ∈ pts
theorem mem_tails {E : List (Nat × Nat)} {bl : List Nat} {q a : Nat} : a ∈ tailsOf E bl q ↔ ∃ e ∈ bl, (E.getD e (0, 0)).2 = q ∧ (E.getD e (0, 0)).1 = a := by
  unfold tailsOf
  rw [List.mem_map]
  constructor
  · rintro ⟨e, he, rfl⟩
    rw [List.mem_filter] at he
    exact ⟨e, he.1, by simpa using he.2, rfl⟩
  · rintro ⟨e, he, h1, rfl⟩
    exact ⟨e, List.mem_filter.2 ⟨he, by simpa using h1⟩, rfl⟩
theorem mem_points {n : Nat} {E : List (Nat × Nat)} {bl : List Nat} {q p : Nat} : p ∈ pointsOf n E bl q ↔ p < n ∧ (p = q ∨ ((∃ a ∈ tailsOf E bl q, Rch (rx n E) (fun x => x ≠ q) a p) ∧ RchE n E p)) := by
  unfold pointsOf
  rw [List.mem_filter, List.mem_range, Bool.or_eq_true, beq_iff_eq, Bool.and_eq_true, bP_iff, bP_iff]
theorem loopI {n : Nat} {exit : Int} {E : List (Nat × Nat)} (hg : GOk n exit E) {q : Nat} {pts : List Nat} (hx : (q, pts) ∈ loopsOf n E (backsOf n E) n) : LoopI n E q pts := by
  unfold loopsOf at hx
  rw [List.mem_filterMap] at hx
  obtain ⟨q', hq', h⟩ := hx
  split at h
  · cases h
  · rename_i hne
    cases h
    have hqn := List.mem_range.1 hq'
    obtain ⟨a, ha⟩ : ∃ a, a ∈ tailsOf E (backsOf n E) q := List.exists_mem_of_ne_nil _ hne
    obtain ⟨e, he, h2, h1⟩ := mem_tails.1 ha
    obtain ⟨hel, hd⟩ := mem_backs.1 he
    rw [h1, h2] at hd
    have hrq : RchE n E q := dom_reach hd.1 hd.2
    have hadj : ∀ {x y : Nat}, y ∈ rx n E x ↔ (y, x) ∈ E := fun {x y} => hg.mem_rv
    have htl : ∀ b ∈ tailsOf E (backsOf n E) q, DomE n E q b := fun b hb => by
      obtain ⟨e, he, h2, h1⟩ := mem_tails.1 hb
      have := (mem_backs.1 he).2
      rw [h1, h2] at this
      exact this
    have han : a < n := hd.1.lt hg.next_lt hg.n1
    refine ⟨⟨e, he, h2, ?_⟩, mem_points.2 ⟨hqn, .inl rfl⟩, ?_, ?_, fun p hp => ?_, fun f t hft hf htq ht => ?_⟩
    · rw [h1]
      refine mem_points.2 ⟨han, ?_⟩
      by_cases e : a = q
      · exact .inl e
      · exact .inr ⟨⟨a, ha, .refl e⟩, hd.1⟩
    · unfold pointsOf
      exact List.Pairwise.filter _ List.pairwise_lt_range
    · unfold pointsOf
      exact Nat.le_trans (List.length_filter_le _ _) (by simp)
    · obtain ⟨hpn, h3⟩ := mem_points.1 hp
      rcases h3 with rfl | ⟨⟨b, hb, hbp⟩, hrp⟩
      · exact ⟨hpn, hrq, domB_iff.2 ⟨hrq, fun k => k.ok_right rfl⟩⟩
      · refine ⟨hpn, hrp, domB_iff.2 ⟨hrp, fun k => ?_⟩⟩
        have key : ∀ {y : Nat}, Rch (rx n E) (fun x => x ≠ q) b y → Rch (nx n E) (fun x => x ≠ q) 0 y → Rch (nx n E) (fun x => x ≠ q) 0 b := by
          intro y h
          induction h with
          | refl _ => exact fun h => h
          | @step u v hbu hv hok ih => exact fun h => ih (.step h (hg.mem_nx.2 (hadj.1 hv)) hbu.ok_right)
        exact (htl b hb).2 (key hbp k)
    · obtain ⟨htn, h3⟩ := mem_points.1 ht
      refine mem_points.2 ⟨(hg.lt _ hft).1, ?_⟩
      by_cases hfq : f = q
      · exact .inl hfq
      · rcases h3 with rfl | ⟨⟨b, hb, hbt⟩, -⟩
        · exact absurd rfl htq
        · exact .inr ⟨⟨b, hb, .step hbt (hadj.2 hft) hfq⟩, hf⟩
theorem loops_le (n : Nat) (E : List (Nat × Nat)) (bl : List Nat) : (loopsOf n E bl n).length ≤ n := by
  unfold loopsOf
  exact Nat.le_trans (List.length_filterMap_le _ _) (by simp)
/-- Does a back edge enter the loop from one of its points? -/
def entP (E : List (Nat × Nat)) (q : Nat) (pts : List Nat) (e : Nat) : Bool := decide ((E.getD e (0, 0)).2 = q) && decide ((E.getD e (0, 0)).1 ∈ pts)
theorem LoopI.any {n : Nat} {E : List (Nat × Nat)} {q : Nat} {pts : List Nat} (h : LoopI n E q pts) : (backsOf n E).any (entP E q pts) = true := by
  obtain ⟨e, he, h1, h2⟩ := h.ent
  exact List.any_eq_true.2 ⟨e, he, by unfold entP; rw [decide_eq_true h1, decide_eq_true h2]; rfl⟩

set_option maxRecDepth 100000 in
set_option maxHeartbeats 8000000 in
theorem headsL_any (w : World) (v : Value) (n exit : Int) (es : List (Int × Int)) (hv : Edges w.heap.size w v es) :
    Calls Try.prog 11 #[.agg #[.int .i64 n, .int .i64 exit, v]] w fun en w' => en = .returned (.bool true) ∧ Below w.heap.size w w' := by
  have hgo := fun (W : World) (h : GV w W n exit v) => good_any W v n exit es (h.edges hv)
  have hg0 := GV.start w n exit v
  obtain ⟨A, c, rfl, hlc, -, hm, hes⟩ := id hv.shape
  have HGO := Lib.hid hgo
  clear hgo
  by_cases hgood : (few n es && decide (chk n exit es = 0)) = true
  · rw [hgood] at HGO
    rw [Bool.and_eq_true, decide_eq_true_eq] at hgood
    obtain ⟨hfew, hc⟩ := hgood
    obtain ⟨N, E, rfl, rfl, hg⟩ := chk_ok hc
    have hn1 := hg.n1
    have hn512 := hg.n512
    have hlE := hg.len
    have hlen0 : (castE E).length = E.length := castE_length E
    rw [hlen0] at hlc hm hg0 HGO hv ⊢
    have HE := Lib.hid (Edges.nat hes)
    have hd0 := fun (W : World) (h : GV w W N exit (.slice A E.length c)) => loops_sem W.heap.size W _ (h.edges hv) (Nat.le_refl _) hg
    have hd1 := fun (W : World) (h : GV w W N exit (.slice A E.length c)) => dom_sem W.heap.size W _ (h.edges hv) (Nat.le_refl _) hg
    have hd2 := fun (W : World) (h : GV w W N exit (.slice A E.length c)) => back_sem W.heap.size W _ (h.edges hv) (Nat.le_refl _) hg
    have hr1 := fun (W : World) (h : GV w W N exit (.slice A E.length c)) => reach_sem W.heap.size W _ (h.edges hv) (Nat.le_refl _) hg 0 hn1
    have hLI := fun (q : Nat) (pts : List Nat) (h : (q, pts) ∈ loopsOf N E (backsOf N E) N) => loopI hg h
    have hLn := loops_le N E (backsOf N E)
    have hbl := fun e (h : e ∈ backsOf N E) => (mem_backs.1 h).1
    have hbn := backs_le N E
    have HD0 := Lib.hid hd0
    have HD1 := Lib.hid hd1
    have HD2 := Lib.hid hd2
    have HR1 := Lib.hid hr1
    have HLI := Lib.hid hLI
    have HBL := Lib.hid hbl
    have HG := Lib.hid hg
    clear hd0 hd1 hd2 hr1 hLI hbl hv hes hlen0 hfew hc hg
    go_enter Try.func11, Try.ntmps11
    go_upto_region 4 with (first
      | (go_at_call 28; refine (HGO.out _ hg0).mono ?_; rintro en w1 ⟨rfl, hw1⟩; have hg1 := hg0.step hw1; obtain ⟨c0, c1, c2⟩ := hg1.cells)
      | (go_at_call 24; refine (HD0.out _ hg1).mono ?_; rintro en w2 ⟨vl, rfl, hvl, hw2⟩; have hg2 := hg1.step hw2; clear c0 c1 c2; obtain ⟨c0, c1, c2⟩ := hg2.cells))
    go_upto_region 5 with (go_at_call 18; refine (HD1.out _ hg2).mono ?_; rintro en w3 ⟨vd, res, rfl, hvd, hid, hw3⟩; have hg3 := hg2.step hw3; have hvl3 := (LV.below hvl hw3).more hw3.size; clear c0 c1 c2; obtain ⟨c0, c1, c2⟩ := hg3.cells)
    go_upto_region 6 with (go_at_call 22; refine (HD2.out _ hg3).mono ?_; rintro en w4 ⟨vb, rfl, hvb, hw4⟩; have hg4 := hg3.step hw4; have hvl4 := (LV.below hvl3 hw4).more hw4.size; have hvd4 := (Ints.below hvd hw4).more hw4.size; clear c0 c1 c2; obtain ⟨c0, c1, c2⟩ := hg4.cells)
    go_upto_region 7 with (go_at_call 31; refine (HR1.out _ hg4).mono ?_; rintro en w5 ⟨va, la, rfl, hva, hla, hall, hw5⟩; have hg5 := hg4.step hw5; have hvl5 := (LV.below hvl4 hw5).more hw5.size; have hvd5 := (Ints.below hvd4 hw5).more hw5.size; have hvb5 := (Nats.below hvb hw5).more hw5.size; clear c0 c1 c2; obtain ⟨c0, c1, c2⟩ := hg5.cells)
    obtain ⟨Al, cl, rfl, -, -, hcl⟩ := hvl5
    obtain ⟨Ad, cd, rfl, -⟩ := Ints.shapeN hvd5 hid.len
    obtain ⟨Aa, ca, rfl, hca⟩ := Bools.shapeN hva hla
    obtain ⟨Ab, cb, rfl, -, -, -, hcb⟩ := Sl.shape hvb5
    have hch := fun (W : World) (hb : Below w5.heap.size w5 W) (p : Nat) => chain_any W.heap.size W _ res (p : Int) ((Ints.below hvd5 hb).more hb.size) (Nat.le_refl _) (by rw [hid.len]; omega)
    have hcs := chain_spec hid HG.out.next_lt hn1 (D := domB N E 0) (fun _ _ => domB_iff)
    have hkey : ∀ p q, RchE N E p → domB N E 0 p q = true → ∃ ds : List Nat, chainF res (res.length + 1) [] (p : Int) = (ds.map (fun d : Nat => (d : Int)), true) ∧ (ds.map fun d : Nat => (d : Int)).contains (q : Int) = true := fun p q hpr hpq => by
      obtain ⟨ds, h1, h2⟩ := hcs (res.length + 1) p [] hpr (by have := cntD_le N (domB N E 0) p; rw [hid.len]; omega)
      exact ⟨ds, by simpa using h1, by rw [contains_map, decide_eq_true_iff, h2]; exact hpq⟩
    have hL1 : decide ((N : Int) < ((loopsOf N E (backsOf N E) N).length : Int)) = false := by rw [decide_eq_false_iff_not]; omega
    have hL2 : decide (N < (loopsOf N E (backsOf N E) N).length) = false := by rw [decide_eq_false_iff_not]; omega
    have HCL := Lib.hid hcl
    have HCA := Lib.hid hca
    have HCB := Lib.hid hcb
    have HCH := Lib.hid hch
    have HKEY := Lib.hid hkey
    have HALL := Lib.hid hall
    clear hcl hca hcb hch hcs hkey hall hid hla hvl4 hvl3 hvl hvd4 hvd hvd5 hvb hvb5 hva hg0 hg1 hg2 hg3 hg4 hw1 hw2 hw3 hw4 hw5 HD0 HD1 HD2 HR1 HGO
    revert HCL HCB HLI HBL hLn hL1 hL2 hbn
    have HANY : Hid (∀ q pts, LoopI N E q pts → (backsOf N E).any (entP E q pts) = true) := Lib.hid (fun q pts h => h.any)
    revert HANY
    generalize loopsOf N E (backsOf N E) N = L
    generalize backsOf N E = bl
    intro HANY hLn hbn HLI HBL hL1 hL2 HCL HCB
    go_wp2
    clear c0 c1 c2 hL1 hL2
    go_loopw [77] (fun y wr => ∃ j : Nat, j ≤ L.length ∧ y = .int .i64 j ∧ Below w5.heap.size w5 wr) (fun y _ => L.length - (intOf y).toNat)
    case atStart => exact ⟨0, Nat.zero_le _, rfl, Below.refl _ _⟩
    case round =>
      obtain ⟨j, hjL, rfl, hb0⟩ := hrel
      have hga := hg5.step hb0
      by_cases hjl : j < L.length
      · have hjl1 : (j : Int) < (L.length : Int) := by omega
        have hLj : L[j]? = some L[j] := List.getElem?_eq_getElem hjl
        have hLm := List.getElem_mem hjl
        revert hLj hLm
        generalize L[j] = lp
        intro hLj hLm
        obtain ⟨q, pts⟩ := lp
        have hLI := HLI.out q pts hLm
        obtain ⟨adl, ul, rfl, hbl, hl0, hl1, hnp⟩ := HCL.out j _ hLj
        obtain ⟨Dp, cp, rfl, -, -, hmp, -⟩ := Sl.shape hnp
        simp only at hl0 hl1 hnp
        have d0 := (hb0.cell (p := adl.add (j * 2)) (by rw [block_add]; exact hbl)).trans hl0
        have d1 := (hb0.cell (p := adl.add (j * 2 + 1)) (by rw [block_add]; exact hbl)).trans hl1
        have hcr : ∀ (i : Nat) (u : Value), [Value.int .i64 (q : Int), .slice Dp pts.length cp][i]? = some u → wr.cell? ((adl.add (j * 2)).add i) = some u := fun i u hi => by
          match i, hi with
          | 0, hi => cases hi; rw [addrZero]; exact d0
          | 1, hi => cases hi; rw [add_add']; exact d1
        have hbl2 := Blk.new wr 45 [Value.int .i64 (q : Int), .slice Dp pts.length cp]
        have hba := hb0.alloc hb0.size (.cells [Value.int .i64 (q : Int), .slice Dp pts.length cp].toArray 45)
        have HC := Lib.hid hcr
        clear hLj hLm hl0 hl1 d0 d1 hcr hga
        have harms : True := trivial
        go_wp2_with (first
          | ((with_reducible show wpList _ _ _ (⟨some 80, .load 45 (.tmp 79), _, _, _, _⟩ :: _) _ _); refine wpList_load_list rfl _ _ rfl (adl.add (j * 2)) rfl [Value.int .i64 (q : Int), .slice Dp pts.length cp] _ HC.out Try.underlying45 rfl info_loop2 ?_)
          | ((with_reducible show wpList _ _ _ (⟨none, .store 45 (.tmp 12) (.tmp 80), _, _, _, _⟩ :: _) _ _); refine wpList_store_new rfl _ _ _ rfl _ _ [Value.int .i64 (q : Int), .slice Dp pts.length cp] rfl rfl info_loop2 rfl (by intro u hu; simp at hu; rcases hu with rfl | rfl <;> rfl) ?_))
        have hga := hg5.step hba
        have e0 := hbl2.cellAt (i := 0) rfl
        have e1 := hbl2.cellAt (i := 1) rfl
        have heb := hbl2.lt
        have hpt := (Nats.below hnp hba).more hba.size
        clear hbl2 hnp hb0 hbl HC harms
        simp only [List.toArray] at hba hga e0 e1 heb hpt
        revert hba hga e0 e1 heb hpt
        generalize wr.alloc (.cells #[Value.int .i64 (q : Int), .slice Dp pts.length cp] 45) = wa
        generalize wr.heap.size = eb
        intro hba hga e0 e1 heb hpt
        go_loopw [13, 83] (fun x y wr => ∃ (m : Nat) (b : Bool), m ≤ bl.length ∧ y = .int .i64 m ∧ x = .bool b ∧ (bl.take m).any (entP E q pts) = b ∧ Below wa.heap.size wa wr) (fun _ y _ => bl.length - (intOf y).toNat)
        case atStart => exact ⟨0, false, Nat.zero_le _, rfl, rfl, rfl, Below.refl _ _⟩
        case round =>
          obtain ⟨m, b, hm2, rfl, rfl, hany, hbw⟩ := hrel
          have hgw := hga.step hbw
          have k0 := (hbw.cell (p := ⟨eb, 0, none⟩) heb).trans e0
          have k1 := (hbw.cell (p := ⟨eb, 1, none⟩) heb).trans e1
          have k2 := hgw.g.cellAt (i := 2) rfl
          have hb5 := hba.trans (hbw.mono hba.size)
          have hptw := Nats.below hpt hbw
          by_cases hml : m < bl.length
          · have hml1 : (m : Int) < (bl.length : Int) := by omega
            have hbm : bl[m]? = some bl[m] := List.getElem?_eq_getElem hml
            have hel := HBL.out _ (List.getElem_mem hml)
            have htk : (bl.take (m + 1)).any (entP E q pts) = (b || entP E q pts bl[m]) := by
              rw [List.take_succ_eq_append_getElem hml, List.any_append, hany]; simp
            revert hbm hel htk
            generalize bl[m] = e
            intro hbm hel htk
            obtain ⟨adb, ub, rfl, hbb, hcb, hub⟩ := HCB.out m e hbm
            cases hub
            have k3 := (hb5.cell (p := adb.add m) (by rw [block_add]; exact hbb)).trans hcb
            have hEe : E[e]? = some E[e] := List.getElem?_eq_getElem hel
            have hentP : entP E q pts e = (decide (E[e].2 = q) && decide (E[e].1 ∈ pts)) := by unfold entP; rw [List.getD_eq_getElem?_getD, hEe]; rfl
            rw [hentP] at htk
            revert hEe htk
            generalize E[e] = fe
            intro htk hEe
            obtain ⟨f, t⟩ := fe
            obtain ⟨ade, cs, rfl, hab, hcl, hcc, hc0, hc1, hone⟩ := HE.out e _ hEe
            have g0 := (hgw.bel.cell (p := (ade.add (e * 21)).add 0) (by rw [block_add, block_add]; omega)).trans (hcc 0 _ hc0)
            have g1 := (hgw.bel.cell (p := (ade.add (e * 21)).add 1) (by rw [block_add, block_add]; omega)).trans (hcc 1 _ hc1)
            rw [addrZero] at g0
            rw [addrOne] at g1
            simp only at htk
            have hel1 : (e : Int) < (E.length : Int) := by omega
            have hel2 : decide ((E.length : Int) ≤ (e : Int)) = false := by rw [decide_eq_false_iff_not]; omega
            have hel3 : decide (E.length ≤ e) = false := by rw [decide_eq_false_iff_not]; omega
            have HTK := Lib.hid htk
            clear hbm hel hentP hcb hcl hcc hc0 hc1 hone hEe htk hany hgw hb5
            cases b with
            | true =>
              go_wp2
              go_quiet (fail)
              go_wp2
              go_roundw
              case rel => exact ⟨m + 1, true, by omega, by go_num, rfl, HTK.out, below_drewN' hbw _⟩
              case measure => simp [intOf]; omega
            | false =>
              by_cases htq : t = q
              · have hcon := contains_any wa.heap.size wr.drew (.slice Dp pts.length cp) (pts.map fun x : Nat => (x : Int)) (f : Int) (Nats.ints hptw)
                rw [contains_map] at hcon
                have hres : (bl.take (m + 1)).any (entP E q pts) = decide (f ∈ pts) := by rw [HTK.out, decide_eq_true htq]; simp
                revert hcon hres
                generalize decide (f ∈ pts) = bf
                intro hcon hres
                have HCON := Lib.hid hcon
                have HRES := Lib.hid hres
                subst htq
                clear hcon hres hptw
                go_upto_region 18 with fail
                go_region_held3 (fun w' => w'.cell? ⟨w.heap.size, 2, none⟩ = some (.slice (some ade) E.length c) ∧ w'.cell? (ade.add (e * 21)) = some (.int .i64 (f : Int)) ∧ w'.cell? ⟨(ade.add (e * 21)).block, (ade.add (e * 21)).off + 1, none⟩ = some (.int .i64 (t : Int)) ∧ w'.cell? ⟨eb, 0, none⟩ = some (.int .i64 (t : Int)) ∧ w'.cell? ⟨eb, 1, none⟩ = some (.slice Dp pts.length cp))
                  (first | exact ⟨ho2.cellAt k2, ho2.cellAt g0, ho2.cellAt g1, ho2.cellAt k0, ho2.cellAt k1⟩ | exact ⟨k2, g0, g1, k0, k1⟩)
                  ((go_at_call 34; refine HCON.out.mono ?_; rintro en w9 ⟨rfl, ho2⟩))
                have hbw9 := hbw.drew.trans (ho2.below hbw.drew.size (fun _ _ f => f))
                go_wp2
                go_roundw
                case rel => exact ⟨m + 1, bf, by omega, by go_num, rfl, HRES.out, hbw9⟩
                case measure => simp [intOf]; omega
              · have hres : (bl.take (m + 1)).any (entP E q pts) = false := by rw [HTK.out, decide_eq_false htq]; rfl
                have ht1 : ((t : Int) == (q : Int)) = false := by rw [beq_eq_false_iff_ne]; omega
                have ht2 : (t == q) = false := by simpa using htq
                have ht3 : decide ((t : Int) = (q : Int)) = false := by rw [decide_eq_false_iff_not]; omega
                have HRES := Lib.hid hres
                clear hres htq
                go_wp2
                go_quiet (fail)
                go_wp2
                go_roundw
                case rel => exact ⟨m + 1, false, by omega, by go_num, rfl, HRES.out, below_drewN' hbw _⟩
                case measure => simp [intOf]; omega
          · obtain rfl : m = bl.length := by omega
            rw [List.take_length, HANY.out q pts hLI] at hany
            subst hany
            have hcon := contains_any wa.heap.size wr (.slice Dp pts.length cp) (pts.map fun x : Nat => (x : Int)) (q : Int) (Nats.ints hptw)
            rw [contains_map, decide_eq_true hLI.mem] at hcon
            have hsor := fun (W : World) (ho : Only (fun _ => False) wr W) => isSorted_any wa.heap.size W (.slice Dp pts.length cp) pts (Nats.below hptw (ho.below hbw.size (fun _ _ f => f))) hLI.sorted
            have HCON := Lib.hid hcon
            have HSOR := Lib.hid hsor
            clear hcon hsor hptw k2
            go_wp2_with (first
              | (go_at_call 34; refine HCON.out.mono ?_; rintro en w9 ⟨rfl, ho9⟩; have i0 := ho9.cellAt k0; have i1 := ho9.cellAt k1)
              | (go_at_call 42; refine (HSOR.out _ ho9).mono ?_; rintro en w10 ⟨rfl, ho10⟩; have j0 := ho10.cellAt i0; have j1 := ho10.cellAt i1))
            have hbw10 := hbw.trans ((ho9.trans ho10 (fun _ _ f => f)).below hbw.size (fun _ _ f => f))
            clear k0 k1 i0 i1 j0 j1 ho9 ho10 hbw hgw hb5 HSOR HCON
            have hdom := hLI.dom
            have hedge := hLI.edge
            have hmem := hLI.mem
            have HDOM := Lib.hid hdom
            have HEDGE := Lib.hid hedge
            clear hdom hedge hLI
            obtain ⟨w11, rfl⟩ : ∃ w11 : World, w11 = wr := ⟨_, rfl⟩
            go_loopw [139] (fun y wr => ∃ m : Nat, m ≤ pts.length ∧ y = .int .i64 m ∧ Below wa.heap.size wa wr) (fun y _ => pts.length - (intOf y).toNat)
            case atStart => exact ⟨0, Nat.zero_le _, rfl, hbw10⟩
            case round =>
              obtain ⟨m, hmp2, rfl, hbw⟩ := hrel
              clear hbw10
              have k0 := (hbw.cell (p := ⟨eb, 0, none⟩) heb).trans e0
              have k1 := (hbw.cell (p := ⟨eb, 1, none⟩) heb).trans e1
              have hb5 := hba.trans (hbw.mono hba.size)
              by_cases hml : m < pts.length
              · have hml1 : (m : Int) < (pts.length : Int) := by omega
                obtain ⟨adp, hAe, hbp, hcp⟩ := Nats.at hpt hml
                subst hAe
                have k3 := (hbw.cell (p := adp.add m) (by rw [block_add]; exact hbp)).trans hcp
                have hpm : pts.getD m 0 ∈ pts := by rw [List.getD_eq_getElem?_getD, List.getElem?_eq_getElem hml]; exact List.getElem_mem hml
                have hdp := HDOM.out _ hpm
                revert k3 hdp
                clear hcp hpm
                generalize pts.getD m 0 = p
                intro k3 hdp
                obtain ⟨ds, hc1, hc2⟩ := HKEY.out p q hdp.2.1 hdp.2.2
                have hch := HCH.out wr hb5 p
                rw [hc1] at hch
                have HCH2 := Lib.hid hch
                have HC2 := Lib.hid hc2
                clear hc1 hc2 hch hdp
                go_wp2_with (first
                  | (go_at_call 33; refine HCH2.out.mono ?_; rintro en w8 ⟨vo, rfl, hvo, hw8⟩; have hbw8 := hbw.trans (hw8.mono hbw.size); have j0 := (hbw8.cell (p := ⟨eb, 0, none⟩) heb).trans e0)
                  | (go_at_call 34; refine (contains_any w8.heap.size w8 vo _ (q : Int) hvo).mono ?_; rintro en w9 ⟨rfl, ho9⟩; have hbw9 := hbw8.trans (ho9.below hbw8.size (fun _ _ f => f)); rw [HC2.out]))
                go_roundw
                case rel => exact ⟨m + 1, by omega, by go_num, hbw9⟩
                case measure => simp [intOf]; omega
              · obtain rfl : m = pts.length := by omega
                have hgw := hga.step hbw
                have k2 := hgw.g.cellAt (i := 2) rfl
                go_wp2
                clear k0 k1 k2 hb5 hgw
                obtain ⟨w12, rfl⟩ : ∃ w12 : World, w12 = wr := ⟨_, rfl⟩
                go_loopw [162] (fun y wr => ∃ m : Nat, m ≤ E.length ∧ y = .int .i64 m ∧ Below wa.heap.size wa wr) (fun y _ => E.length - (intOf y).toNat)
                case atStart => exact ⟨0, Nat.zero_le _, rfl, hbw⟩
                case round =>
                  obtain ⟨k, hkE, rfl, hbk⟩ := hrel
                  clear hbw
                  have hb5 := hba.trans (hbk.mono hba.size)
                  by_cases hkl : k < E.length
                  · have hkl1 : (k : Int) < (E.length : Int) := by omega
                    have hgw := hga.step hbk
                    have hek : E[k]? = some E[k] := List.getElem?_eq_getElem hkl
                    have hlt := HG.out.lt _ (List.getElem_mem hkl)
                    have hin := List.getElem_mem hkl
                    revert hek hlt hin
                    generalize E[k] = x
                    intro hek hlt hin
                    obtain ⟨f, t⟩ := x
                    simp only at hlt
                    obtain ⟨ad, cs, rfl, hab, hcl, hcc, hc0, hc1, hone⟩ := HE.out k _ hek
                    have hcr : ∀ j v, cs[j]? = some v → wr.cell? ((ad.add (k * 21)).add j) = some v := fun j v hj => (hgw.bel.cell (by rw [block_add, block_add]; omega)).trans (hcc j v hj)
                    have hbe := hbk.alloc hbk.size (.cells cs.toArray 58)
                    have k0 := (hbe.cell (p := ⟨eb, 0, none⟩) heb).trans e0
                    have k1 := (hbe.cell (p := ⟨eb, 1, none⟩) heb).trans e1
                    obtain ⟨ada, hAa, hba2, hca2⟩ := HCA.out f hlt.1
                    subst hAa
                    have k3 := ((hba.trans (hbe.mono hba.size)).cell (p := ada.add f) (by rw [block_add]; exact hba2)).trans hca2
                    have hft : (f : Int) < (N : Int) := by omega
                    have hptk := Nats.below hpt hbe
                    have HC := Lib.hid hcr
                    have HL := Lib.hid hcl
                    have H1 := Lib.hid hone
                    clear hcc hcr hcl hone hek hca2 hgw
                    cases hlf : la.getD f false with
                    | false =>
                      rw [hlf] at k3
                      clear hlf hptk hin
                      go_wp2_with (first
                        | ((with_reducible show wpList _ _ _ (⟨some 165, .load 58 (.tmp 164), _, _, _, _⟩ :: _) _ _); refine wpList_load_list rfl _ _ rfl (ad.add (k * 21)) rfl cs _ HC.out Try.underlying58 rfl (by rw [HL.out]; exact size_edge) ?_)
                        | ((with_reducible show wpList _ _ _ (⟨none, .store 58 (.tmp 21) (.tmp 165), _, _, _, _⟩ :: _) _ _); refine wpList_store_new rfl _ _ _ rfl _ _ cs rfl rfl (by rw [HL.out]; exact size_edge) (by rw [HL.out]; rfl) H1.out ?_))
                      go_roundw
                      case rel => exact ⟨k + 1, by omega, by go_num, hbe⟩
                      case measure => simp [intOf]; omega
                    | true =>
                      rw [hlf] at k3
                      by_cases htq : t = q
                      · subst htq
                        clear hlf hptk hin
                        go_wp2_with (first
                          | ((with_reducible show wpList _ _ _ (⟨some 165, .load 58 (.tmp 164), _, _, _, _⟩ :: _) _ _); refine wpList_load_list rfl _ _ rfl (ad.add (k * 21)) rfl cs _ HC.out Try.underlying58 rfl (by rw [HL.out]; exact size_edge) ?_)
                          | ((with_reducible show wpList _ _ _ (⟨none, .store 58 (.tmp 21) (.tmp 165), _, _, _, _⟩ :: _) _ _); refine wpList_store_new rfl _ _ _ rfl _ _ cs rfl rfl (by rw [HL.out]; exact size_edge) (by rw [HL.out]; rfl) H1.out ?_))
                        go_roundw
                        case rel => exact ⟨k + 1, by omega, by go_num, hbe⟩
                        case measure => simp [intOf]; omega
                      · have ht1 : ((t : Int) != (q : Int)) = true := by rw [bne_iff_ne]; omega
                        have ht2 : ((t : Int) == (q : Int)) = false := by rw [beq_eq_false_iff_ne]; omega
                        have ht3 : (t != q) = true := by simpa using htq
                        have ht4 : (t == q) = false := by simpa using htq
                        have hcon := contains_any wa.heap.size (wr.alloc (.cells cs.toArray 58)) (.slice Dp pts.length cp) (pts.map fun x : Nat => (x : Int)) (t : Int) (Nats.ints hptk)
                        rw [contains_map] at hcon
                        by_cases htp : t ∈ pts
                        · rw [decide_eq_true htp] at hcon
                          have hfp := HEDGE.out f t hin ((HALL.out f).1 hlf) htq htp
                          have hcon2 := fun (W : World) (ho : Only (fun _ => False) (wr.alloc (.cells cs.toArray 58)) W) => contains_any wa.heap.size W (.slice Dp pts.length cp) (pts.map fun x : Nat => (x : Int)) (f : Int) (Ints.only (Nats.ints hptk) ho hbe.size)
                          rw [contains_map, decide_eq_true hfp] at hcon2
                          have HCON := Lib.hid hcon
                          have HCON2 := Lib.hid hcon2
                          clear hcon hcon2 hlf hptk hin htp hfp htq
                          go_wp2_with (first
                            | ((with_reducible show wpList _ _ _ (⟨some 165, .load 58 (.tmp 164), _, _, _, _⟩ :: _) _ _); refine wpList_load_list rfl _ _ rfl (ad.add (k * 21)) rfl cs _ HC.out Try.underlying58 rfl (by rw [HL.out]; exact size_edge) ?_)
                            | ((with_reducible show wpList _ _ _ (⟨none, .store 58 (.tmp 21) (.tmp 165), _, _, _, _⟩ :: _) _ _); refine wpList_store_new rfl _ _ _ rfl _ _ cs rfl rfl (by rw [HL.out]; exact size_edge) (by rw [HL.out]; rfl) H1.out ?_)
                            | (go_at_call 34; (with_reducible refine HCON.out.mono ?_); rintro en w9 ⟨rfl, ho9⟩; have i1 := ho9.cellAt k1; have i2 := ho9.cellAt ((Blk.new wr 58 cs).cellAt hc0))
                            | (go_at_call 34; (with_reducible refine (HCON2.out _ ho9).mono ?_); rintro en w10 ⟨rfl, ho10⟩))
                          have hbf := hbe.trans ((ho9.trans ho10 (fun _ _ f => f)).below hbe.size (fun _ _ f => f))
                          go_roundw
                          case rel => exact ⟨k + 1, by omega, by go_num, hbf⟩
                          case measure => simp [intOf]; omega
                        · rw [decide_eq_false htp] at hcon
                          have HCON := Lib.hid hcon
                          clear hcon hlf hptk hin htp htq
                          go_wp2_with (first
                            | ((with_reducible show wpList _ _ _ (⟨some 165, .load 58 (.tmp 164), _, _, _, _⟩ :: _) _ _); refine wpList_load_list rfl _ _ rfl (ad.add (k * 21)) rfl cs _ HC.out Try.underlying58 rfl (by rw [HL.out]; exact size_edge) ?_)
                            | ((with_reducible show wpList _ _ _ (⟨none, .store 58 (.tmp 21) (.tmp 165), _, _, _, _⟩ :: _) _ _); refine wpList_store_new rfl _ _ _ rfl _ _ cs rfl rfl (by rw [HL.out]; exact size_edge) (by rw [HL.out]; rfl) H1.out ?_)
                            | (go_at_call 34; (with_reducible refine HCON.out.mono ?_); rintro en w9 ⟨rfl, ho9⟩))
                          have hbf := hbe.trans (ho9.below hbe.size (fun _ _ f => f))
                          go_roundw
                          case rel => exact ⟨k + 1, by omega, by go_num, hbf⟩
                          case measure => simp [intOf]; omega
                  · obtain rfl : k = E.length := by omega
                    go_wp2
                    go_roundw
                    case rel => exact ⟨j + 1, by omega, by go_num, hb5⟩
                    case measure => simp [intOf]; omega
      · obtain rfl : j = L.length := by omega
        go_wp2_with (go_at_call 14; refine (awake_any _).mono ?_; rintro en w10 ⟨rfl, hw10⟩; have hg10 := hga.step hw10)
        go_ret
        exact ⟨rfl, hg10.bel⟩
  · have hgood' : (few n es && decide (chk n exit es = 0)) = false := by simpa using hgood
    rw [hgood'] at HGO
    clear hgood hgood' hes hv
    go_enter Try.func11, Try.ntmps11
    go_wp2_with (first
      | (go_at_call 28; refine (HGO.out _ hg0).mono ?_; rintro en w1 ⟨rfl, hw1⟩; have hg1 := hg0.step hw1)
      | (go_at_call 14; refine (awake_any w1).mono ?_; rintro en w2 ⟨rfl, hw2⟩; have hg2 := hg1.step hw2))
    go_ret
    exact ⟨rfl, hg2.bel⟩
end Go.Proofs.Ytngfoinceakgdaa

/- The law GraphPaths, walked. -/
import Derived.Test.YtngfoinceakgdaaCutsL
import Derived.Test.YtngfoinceakgdaaArg8
import Derived.Laws.OwnMore
namespace Go.Proofs.Ytngfoinceakgdaa
open Go.RowKit Go.Shelf

/-- The points of a path so far: whoever keeps off them all reaches its end. -/
def PathI (n : Nat) (E : List (Nat × Nat)) (ps : List Nat) (a : Nat) : Prop := a < n ∧ Rch (nx n E) (fun _ => True) 0 a ∧ ∀ d, d ∉ ps → Rch (nx n E) (fun q => q ≠ d) 0 a
theorem PathI.start {n : Nat} {E : List (Nat × Nat)} (hn : 0 < n) : PathI n E [0] 0 := ⟨hn, .refl trivial, fun d hd => .refl (fun e => hd (by simp [e]))⟩
theorem PathI.next {n : Nat} {exit : Int} {E : List (Nat × Nat)} (hg : GOk n exit E) {ps : List Nat} {a t : Nat} (h : PathI n E ps a) (he : (a, t) ∈ E) : PathI n E (ps ++ [t]) t := by
  refine ⟨(hg.lt _ he).2, .step h.2.1 (hg.mem_nx.2 he) trivial, fun d hd => ?_⟩
  rw [List.mem_append, not_or] at hd
  exact .step (h.2.2 d hd.1) (hg.mem_nx.2 he) (fun e => hd.2 (by simp [e]))
theorem contains_nat (ps : List Nat) (d : Nat) : (ps.map fun q : Nat => (q : Int)).contains (d : Int) = decide (d ∈ ps) := contains_map ps d
theorem Natss.rowN {B n : Nat} {w : World} {v : Value} {xss : List (List Nat)} (h : Natss B w v xss) (hl : xss.length = n) : ∃ A c, v = .slice A n c ∧ ∀ (j : Nat) (l : List Nat), xss[j]? = some l → ∃ ad D e, A = some ad ∧ ad.block < B ∧ w.cell? (ad.add j) = some (.slice D l.length e) ∧ ∀ (i x : Nat), l[i]? = some x → ∃ bd, D = some bd ∧ bd.block < B ∧ w.cell? (bd.add i) = some (.int .i64 (x : Int)) := by
  obtain ⟨A, c, rfl, -, -, -, hc⟩ := Sl.shape h
  subst hl
  refine ⟨A, c, rfl, fun j l hj => ?_⟩
  obtain ⟨ad, u, rfl, hb, hcl, hn⟩ := hc j l hj
  obtain ⟨D, e, rfl, -, -, -, hd⟩ := Sl.shape hn
  exact ⟨ad, D, e, rfl, hb, hcl, fun i x hx => by
    obtain ⟨bd, u, rfl, hb, hcl, hu⟩ := hd i x hx
    cases hu
    exact ⟨bd, rfl, hb, hcl⟩⟩

set_option maxRecDepth 100000 in
set_option maxHeartbeats 8000000 in
theorem pathsL_any (w : World) (v : Value) (n exit : Int) (es : List (Int × Int)) (hv : Edges w.heap.size w v es) (vc : Value) (zs : List Nat) (hz : Sl R8 w.heap.size w vc zs) :
    Calls Try.prog 10 #[.agg #[.int .i64 n, .int .i64 exit, v], vc] w fun en w' => en = .returned (.bool true) ∧ Below w.heap.size w w' := by
  have hgo := fun (W : World) (h : GV w W n exit v) => good_any W v n exit es (h.edges hv)
  have hg0 := GV.start w n exit v
  obtain ⟨A, c, rfl, hlc, -, hm, hes⟩ := id hv.shape
  obtain ⟨Az, cz, rfl, -, -, hmz, hzc⟩ := hz.shape
  have HGO := Lib.hid hgo
  have HZ := Lib.hid hzc
  clear hgo hz hzc
  by_cases hgood : (few n es && decide (chk n exit es = 0)) = true
  · rw [hgood] at HGO
    rw [Bool.and_eq_true, decide_eq_true_eq] at hgood
    obtain ⟨hfew, hc⟩ := hgood
    obtain ⟨N, E, rfl, rfl, hg⟩ := chk_ok hc
    have hn1 := hg.n1
    have hn512 := hg.n512
    have hlE := hg.len
    have hlen0 : (castE E).length = E.length := castE_length E
    rw [hlen0] at hlc hm hg0 HGO hv ⊢
    have HE := Lib.hid (Edges.nat hes)
    by_cases hzl : zs.length ≤ 60
    · have hzl1 : ¬ (60 < (zs.length : Int)) := by omega
      have hzl2 : decide (60 < (zs.length : Int)) = false := by rw [decide_eq_false_iff_not]; omega
      have hzl3 : decide (60 < zs.length) = false := by rw [decide_eq_false_iff_not]; omega
      have hd0 := fun (W : World) (h : GV w W N exit (.slice A E.length c)) => out_ok W.heap.size W _ N exit E (h.edges hv) (Nat.le_refl _) hg
      have hd1 := fun (W : World) (h : GV w W N exit (.slice A E.length c)) => dom_sem W.heap.size W _ (h.edges hv) (Nat.le_refl _) hg
      have hr1 := fun (W : World) (h : GV w W N exit (.slice A E.length c)) => reach_sem W.heap.size W _ (h.edges hv) (Nat.le_refl _) hg 0 hn1
      have HD0 := Lib.hid hd0
      have HD1 := Lib.hid hd1
      have HR1 := Lib.hid hr1
      obtain ⟨ie, hi, hz0, hz1, hz2⟩ := info_parts info_int
      have HG := Lib.hid hg
      clear hd0 hd1 hr1 hv hes hlen0 hfew hc hg
      go_enter Try.func10, Try.ntmps10
      go_upto_region 4 with (first
        | (go_at_call 28; refine (HGO.out _ hg0).mono ?_; rintro en w1 ⟨rfl, hw1⟩; have hg1 := hg0.step hw1; obtain ⟨c0, c1, c2⟩ := hg1.cells)
        | (go_at_call 35; refine (HD0.out _ hg1).mono ?_; rintro en w2 ⟨vo, rfl, hvo, hw2⟩; have hg2 := hg1.step hw2; clear c0 c1 c2; obtain ⟨c0, c1, c2⟩ := hg2.cells))
      go_upto_region 5 with (go_at_call 18; refine (HD1.out _ hg2).mono ?_; rintro en w3 ⟨vd, res, rfl, hvd, hid, hw3⟩; have hg3 := hg2.step hw3; have hvo3 := (Natss.below hvo hw3).more hw3.size; clear c0 c1 c2; obtain ⟨c0, c1, c2⟩ := hg3.cells)
      go_upto_region 6 with (go_at_call 31; refine (HR1.out _ hg3).mono ?_; rintro en w4 ⟨va, la, rfl, hva, hla, hall, hw4⟩; have hg4 := hg3.step hw4; have hvo4 := (Natss.below hvo3 hw4).more hw4.size; have hvd4 := (Ints.below hvd hw4).more hw4.size; clear c0 c1 c2; obtain ⟨c0, c1, c2⟩ := hg4.cells)
      have hol : (shapeOf N E).out.length = N := by simp [shapeOf]
      obtain ⟨Ao, co, rfl, hco⟩ := Natss.rowN hvo4 hol
      obtain ⟨Ad, cd, rfl, -⟩ := Ints.shapeN hvd4 hid.len
      obtain ⟨Aa, ca, rfl, hca⟩ := Bools.shapeN hva hla
      have hch := fun (W : World) (hb : Below w4.heap.size w4 W) (p : Nat) => chain_any W.heap.size W _ res (p : Int) ((Ints.below hvd4 hb).more hb.size) (Nat.le_refl _) (by rw [hid.len]; omega)
      have hcs := chain_spec hid HG.out.next_lt hn1 (D := domB N E 0) (fun _ _ => domB_iff)
      have hkey : ∀ p, Rch (nx N E) (fun _ => True) 0 p → ∃ ds : List Nat, chainF res (res.length + 1) [] (p : Int) = (ds.map (fun d : Nat => (d : Int)), true) ∧ ∀ d, d ∈ ds ↔ domB N E 0 p d = true := fun p hpr => by
        obtain ⟨ds, h1, h2⟩ := hcs (res.length + 1) p [] hpr (by have := cntD_le N (domB N E 0) p; rw [hid.len]; omega)
        exact ⟨ds, by simpa using h1, h2⟩
      have HCO := Lib.hid hco
      have HCA := Lib.hid hca
      have HCH := Lib.hid hch
      have HKEY := Lib.hid hkey
      have HALL := Lib.hid hall
      have hz4 : ∀ (j : Nat) (x : Nat), zs[j]? = some x → ∃ ad u, Az = some ad ∧ ad.block < w.heap.size ∧ w4.cell? (ad.add j) = some u ∧ R8 w4 u x := fun j x hx => by
        obtain ⟨ad, u, rfl, hb, hcl, hr⟩ := HZ.out j x hx
        exact ⟨ad, u, rfl, hb, (hg4.bel.cell (by rw [block_add]; exact hb)).trans hcl, hr⟩
      have HZ4 := Lib.hid hz4
      clear hol hco hca hch hcs hkey hall hid hla hvo4 hvd4 hva hvo hvo3 hvd hg0 hg1 hg2 hg3 hw1 hw2 hw3 hw4 hz4 HZ HD0 HD1 HR1 HGO
      have hgb := hg4.alloc (.cells #[.int .i64 0] 3)
      have hpb : (w4.alloc (.cells #[.int .i64 0] 3)).ownsRow w4.heap.size 3 1 (.slice (some ⟨w4.heap.size, 0, none⟩) 1 1) [0].length ([0].map natV) := World.ownsRow_lit w4 #[.int .i64 0] 1 (Nat.le_refl _) (by simp [maxLen]) rfl
      have hbb : Below w4.heap.size w4 (w4.alloc (.cells #[.int .i64 0] 3)) := (Below.refl _ _).alloc (Nat.le_refl _) _
      go_wp2
      clear c0 c1 c2
      go_loopw [11, 12, 74] (fun x y z wr => ∃ (k a : Nat) (ps : List Nat) (vp : Value), k ≤ zs.length ∧ vp = x ∧ y = .int .i64 (a : Nat) ∧ z = .int .i64 k ∧ PathI N E ps a ∧ ps.length = k + 1 ∧ wr.ownsRow w4.heap.size 3 1 vp ps.length (ps.map natV) ∧ Below w4.heap.size w4 wr) (fun _ _ z _ => zs.length - (intOf z).toNat)
      case atStart => exact ⟨0, 0, [0], _, Nat.zero_le _, rfl, rfl, rfl, PathI.start hn1, rfl, hpb, hbb⟩
      case round =>
        obtain ⟨k, a, ps, vp, hk, rfl, rfl, rfl, hpi, hpl, hown, hbl⟩ := hrel
        clear hgb hpb hbb
        obtain ⟨haN, har, hpd⟩ := id hpi
        have haN1 : (a : Int) < (N : Int) := by omega
        have hga := hg4.step hbl
        obtain ⟨l, hl⟩ : ∃ l, l = idxs Prod.fst E a := ⟨_, rfl⟩
        have hlo : (shapeOf N E).out[a]? = some l := by rw [hl]; simp [shapeOf, haN]
        obtain ⟨ado, Do, eo, rfl, hbo, hco, hro⟩ := HCO.out a l hlo
        have d1 := (hbl.cell (p := ado.add a) (by rw [block_add]; exact hbo)).trans hco
        clear hco hlo
        by_cases hkl : k < zs.length
        · have hkl1 : (k : Int) < (zs.length : Int) := by omega
          obtain ⟨adz, uz, rfl, hbz, hcz, rfl, hz256⟩ := HZ4.out k _ (List.getElem?_eq_getElem hkl)
          have d2 := (hbl.cell (p := adz.add k) (by rw [block_add]; have := hg4.bel.size; omega)).trans hcz
          clear hcz
          revert d2 hz256
          generalize zs[k] = cv
          intro d2 hz256
          by_cases hl0 : l.length = 0
          · have hl1 : l = [] := List.eq_nil_of_length_eq_zero hl0
            subst hl1
            clear hl0 hl
            simp only [List.length_nil] at d1
            obtain ⟨ds, hc1, hc2⟩ := HKEY.out a har
            have hch := HCH.out wr hbl a
            rw [hc1] at hch
            have h0in : (ds.map fun d : Nat => (d : Int)).contains ((0 : Nat) : Int) = true := by
              rw [contains_map, decide_eq_true_iff, hc2, domB_iff]
              exact ⟨har, fun k => k.ok_left rfl⟩
            have hsub : ∀ d ∈ ds, (ps.map fun q : Nat => (q : Int)).contains (d : Int) = true := fun d hd => by
              rw [contains_nat, decide_eq_true_iff]
              by_cases hdp : d ∈ ps
              · exact hdp
              · exact absurd (hpd d hdp) (domB_iff.1 ((hc2 d).1 hd)).2
            have hown2 : wr.ownsRow w4.heap.size 3 1 vp (ps.map fun q : Nat => (q : Int)).length ((ps.map fun q : Nat => (q : Int)).map intV) := by rw [List.length_map, List.map_map]; exact hown
            have hps := Sl.of_own (R := RInt) (xs := ps.map fun q : Nat => (q : Int)) intV (fun _ _ => rfl) hown2
            have HCH2 := Lib.hid hch
            have H0 := Lib.hid h0in
            have HSUB := Lib.hid hsub
            have HPS := Lib.hid hps
            clear hc1 hc2 hch h0in hsub hps hown hown2 hpd hpi har hro
            go_wp2_with (first
              | (go_at_call 33; refine HCH2.out.mono ?_; rintro en w8 ⟨vh, rfl, hvh, hw8⟩; have hb8 := hbl.trans (hw8.mono hbl.size))
              | (go_at_call 34; refine (contains_any w8.heap.size w8 vh _ ((0 : Nat) : Int) hvh).mono ?_; rintro en w9 ⟨rfl, hw9⟩; have hb9 := hb8.trans (hw9.below hb8.size (fun _ _ f => f)); rw [H0.out]; have hdl : ds.length ≤ 9223372036854775807 := (by obtain ⟨_, _, _, _, _, h, _⟩ := Sl.shape hvh; rw [List.length_map] at h; exact h); obtain ⟨Ah, ch, rfl, hchh⟩ := Ints.shapeN (Ints.only hvh hw9 (Nat.le_refl _)) (List.length_map _); have HCHH := Lib.hid hchh; clear hchh))
            have hvp9 := (Sl.keep HPS.out (fun p hp => ((hw8.trans (hw9.below hw8.size (fun _ _ f => f))).cell hp)) (fun _ _ e => e) : Ints wr.heap.size w9 vp _)
            have HVP9 := Lib.hid hvp9
            have hwsz : wr.heap.size ≤ w9.heap.size := Nat.le_trans hw8.size hw9.size
            clear hvp9 hvh
            obtain ⟨w5, rfl⟩ : ∃ w5 : World, w5 = wr := ⟨_, rfl⟩
            go_loopw [148] (fun y wx => ∃ j : Nat, j ≤ ds.length ∧ y = .int .i64 j ∧ Only (fun _ => False) w9 wx) (fun y _ => ds.length - (intOf y).toNat)
            case atStart => exact ⟨0, Nat.zero_le _, rfl, Only.refl _ _⟩
            case round =>
              obtain ⟨j, hj, rfl, ho⟩ := hrel
              by_cases hjl : j < ds.length
              · have hjl1 : (j : Int) < (ds.length : Int) := by omega
                obtain ⟨adh, rfl, hbh, hcj⟩ := HCHH.out j hjl
                have hgj : getI (ds.map fun d : Nat => (d : Int)) j = (ds[j] : Nat) := by
                  unfold getI
                  rw [List.getD_eq_getElem?_getD, List.getElem?_map, List.getElem?_eq_getElem hjl]; rfl
                rw [hgj] at hcj
                have hin := HSUB.out _ (List.getElem_mem hjl)
                have d2 := ho.cellAt hcj
                clear hcj hgj
                revert hin d2
                generalize ds[j] = dj
                intro hin d2
                have HIN := Lib.hid hin
                clear hin
                go_wp2_with (go_at_call 34; refine (contains_any w5.heap.size _ vp _ ((dj : Nat) : Int) (Ints.only HVP9.out ho hwsz)).mono ?_; rintro en w10 ⟨rfl, hw10⟩; rw [HIN.out])
                go_roundw
                case rel => exact ⟨j + 1, by omega, by go_num, ho.trans hw10 (fun _ _ f => f)⟩
                case measure => simp [intOf]; omega
              · obtain rfl : j = ds.length := by omega
                have hbx := hb9.trans (ho.below hb9.size (fun _ _ f => f))
                have hgx := hg4.step hbx
                go_wp2_with (go_at_call 14; refine (awake_any _).mono ?_; rintro en w10 ⟨rfl, hw10⟩; have hg10 := hgx.step hw10)
                go_ret
                exact ⟨rfl, hg10.bel⟩
          · have hlp : 0 < l.length := by omega
            have hml0 : cv % l.length < l.length := Nat.mod_lt _ hlp
            obtain ⟨mi, hmi⟩ : ∃ mi, mi = cv % l.length := ⟨_, rfl⟩
            have hml : mi < l.length := by rw [hmi]; exact hml0
            obtain ⟨e, he⟩ : ∃ e, e = l[mi] := ⟨_, rfl⟩
            have hle : l[mi]? = some e := by rw [he]; exact List.getElem?_eq_getElem hml
            have hmem := List.mem_of_getElem? hle
            rw [hl] at hmem
            obtain ⟨⟨a', t⟩, hEe, ha'⟩ := (mem_idxs _ _ _ _).1 hmem
            simp only at ha'
            subst ha'
            obtain ⟨bdo, rfl, hbd, hcd⟩ := hro _ _ hle
            have hel : e < E.length := (List.getElem?_eq_some_iff.1 hEe).1
            have hpn := hpi.next HG.out (List.mem_of_getElem? hEe)
            obtain ⟨ade, cs, rfl, hab, hcl, hcc, hc0, hc1, hone⟩ := HE.out e _ hEe
            have g0 := (hga.bel.cell (p := (ade.add (e * 21)).add 0) (by rw [block_add, block_add]; omega)).trans (hcc 0 _ hc0)
            have g1 := (hga.bel.cell (p := (ade.add (e * 21)).add 1) (by rw [block_add, block_add]; omega)).trans (hcc 1 _ hc1)
            rw [addrZero] at g0
            rw [addrOne] at g1
            obtain ⟨adr, rfl, hbr, hcr⟩ := HCA.out t hpn.1
            rw [(HALL.out t).2 hpn.2.1] at hcr
            have hrem : (cv : Int) % (l.length : Int) = (mi : Int) := by rw [hmi]; rfl
            have hrem2 : Int.tmod (cv : Int) (l.length : Int) = (mi : Int) := by rw [Int.tmod_eq_emod_of_nonneg (by omega), hmi]; rfl
            have hml1 : (mi : Int) < (l.length : Int) := by omega
            have d3 := (hbl.cell (p := bdo.add mi) (by rw [block_add]; exact hbd)).trans hcd
            have hl0i : ((l.length : Int) == 0) = false := by rw [beq_eq_false_iff_ne]; omega
            have hl0n : (l.length == 0) = false := by rw [beq_eq_false_iff_ne]; omega
            have hl0e : ¬ ((l.length : Int) = 0) := by omega
            have hl0m : ¬ (l.length = 0) := by omega
            have d4 := (hbl.cell (p := adr.add t) (by rw [block_add]; exact hbr)).trans hcr
            have hel1 : (e : Int) < (E.length : Int) := by omega
            have hel2 : decide ((E.length : Int) ≤ (e : Int)) = false := by rw [decide_eq_false_iff_not]; omega
            have hel3 : decide (E.length ≤ e) = false := by rw [decide_eq_false_iff_not]; omega
            have htN : (t : Int) < (N : Int) := by have := hpn.1; omega
            have hO := hown.alloc (.cells #[.int .i64 (t : Int)] 3)
            have hnb := Blk.new wr 3 [.int .i64 (t : Int)]
            have c2 := hga.g.cellAt (i := 2) rfl
            have HPN := Lib.hid hpn
            have HPL := Lib.hid hpl
            have hpl2 : ps.length ≤ 100 := by omega
            clear hmi hml0 he hle hmem hEe hl hcc hc0 hc1 hone hcl hcd hpd hpi har hown hpl hl0 hpn
            have hsz : w4.heap.size ≤ (wr.alloc (.cells #[.int .i64 (t : Int)] 3)).heap.size := by rw [World.size_alloc]; have := hbl.size; omega
            have hba := hbl.alloc hbl.size (.cells #[.int .i64 (t : Int)] 3)
            go_wp2
            go_quiet (fail)
            go_wp2_with (at_builtin; refine wpList_append_own_at _ rfl (.tmp 123) (.tmp 125) 27 rfl w4.heap.size 3 ie (.int .i64 0) 1 8 Try.underlying27 hi hz0 hz1 hz2 rfl (by decide) vp ps.length (ps.map natV) rfl hO ⟨wr.heap.size, 0, none⟩ 1 1 [.int .i64 (t : Int)] rfl rfl ?c1 ?c2 ?c3 ?c4 hsz ?_)
            case c1 =>
              intro j u hj
              rw [add_none]
              exact hnb.cellAt hj
            case c2 => intro u hu; simp at hu; subst hu; rfl
            case c3 => simp only [maxLen]; omega
            case c4 => omega
            intro v' w5 hown' hgrow _ _
            have hbx : Below w4.heap.size w4 w5 := (below_drewN' hba nq).grown hgrow hsz (fun j hj => (hO.lt j hj).1)
            have d5 := (hbx.cell (p := adr.add t) (by rw [block_add]; exact hbr)).trans hcr
            have hown2 : w5.ownsRow w4.heap.size 3 1 v' (ps ++ [t]).length ((ps ++ [t]).map natV) := by
              rw [List.length_append, List.map_append]
              exact hown'
            have HO2 := Lib.hid hown2
            clear hown' hown2 hgrow hO hnb hba hsz d1 d2 d3 d4 hcr
            go_wp2
            go_roundw
            case rel => exact ⟨k + 1, t, ps ++ [t], v', by omega, rfl, rfl, by go_num, HPN.out, by rw [List.length_append, HPL.out]; rfl, HO2.out, hbx⟩
            case measure => simp [intOf]; omega
        · obtain rfl : k = zs.length := by omega
          clear hl
          obtain ⟨ds, hc1, hc2⟩ := HKEY.out a har
          have hch := HCH.out wr hbl a
          rw [hc1] at hch
          have h0in : (ds.map fun d : Nat => (d : Int)).contains ((0 : Nat) : Int) = true := by
            rw [contains_map, decide_eq_true_iff, hc2, domB_iff]
            exact ⟨har, fun k => k.ok_left rfl⟩
          have hsub : ∀ d ∈ ds, (ps.map fun q : Nat => (q : Int)).contains (d : Int) = true := fun d hd => by
            rw [contains_nat, decide_eq_true_iff]
            by_cases hdp : d ∈ ps
            · exact hdp
            · exact absurd (hpd d hdp) (domB_iff.1 ((hc2 d).1 hd)).2
          have hown2 : wr.ownsRow w4.heap.size 3 1 vp (ps.map fun q : Nat => (q : Int)).length ((ps.map fun q : Nat => (q : Int)).map intV) := by rw [List.length_map, List.map_map]; exact hown
          have hps := Sl.of_own (R := RInt) (xs := ps.map fun q : Nat => (q : Int)) intV (fun _ _ => rfl) hown2
          have HCH2 := Lib.hid hch
          have H0 := Lib.hid h0in
          have HSUB := Lib.hid hsub
          have HPS := Lib.hid hps
          clear hc1 hc2 hch h0in hsub hps hown hown2 hpd hpi har hro
          go_wp2_with (first
            | (go_at_call 33; refine HCH2.out.mono ?_; rintro en w8 ⟨vh, rfl, hvh, hw8⟩; have hb8 := hbl.trans (hw8.mono hbl.size))
            | (go_at_call 34; refine (contains_any w8.heap.size w8 vh _ ((0 : Nat) : Int) hvh).mono ?_; rintro en w9 ⟨rfl, hw9⟩; have hb9 := hb8.trans (hw9.below hb8.size (fun _ _ f => f)); rw [H0.out]; have hdl : ds.length ≤ 9223372036854775807 := (by obtain ⟨_, _, _, _, _, h, _⟩ := Sl.shape hvh; rw [List.length_map] at h; exact h); obtain ⟨Ah, ch, rfl, hchh⟩ := Ints.shapeN (Ints.only hvh hw9 (Nat.le_refl _)) (List.length_map _); have HCHH := Lib.hid hchh; clear hchh))
          have hvp9 := (Sl.keep HPS.out (fun p hp => ((hw8.trans (hw9.below hw8.size (fun _ _ f => f))).cell hp)) (fun _ _ e => e) : Ints wr.heap.size w9 vp _)
          have HVP9 := Lib.hid hvp9
          have hwsz : wr.heap.size ≤ w9.heap.size := Nat.le_trans hw8.size hw9.size
          clear hvp9 hvh
          obtain ⟨w5, rfl⟩ : ∃ w5 : World, w5 = wr := ⟨_, rfl⟩
          go_loopw [148] (fun y wx => ∃ j : Nat, j ≤ ds.length ∧ y = .int .i64 j ∧ Only (fun _ => False) w9 wx) (fun y _ => ds.length - (intOf y).toNat)
          case atStart => exact ⟨0, Nat.zero_le _, rfl, Only.refl _ _⟩
          case round =>
            obtain ⟨j, hj, rfl, ho⟩ := hrel
            by_cases hjl : j < ds.length
            · have hjl1 : (j : Int) < (ds.length : Int) := by omega
              obtain ⟨adh, rfl, hbh, hcj⟩ := HCHH.out j hjl
              have hgj : getI (ds.map fun d : Nat => (d : Int)) j = (ds[j] : Nat) := by
                unfold getI
                rw [List.getD_eq_getElem?_getD, List.getElem?_map, List.getElem?_eq_getElem hjl]; rfl
              rw [hgj] at hcj
              have hin := HSUB.out _ (List.getElem_mem hjl)
              have d2 := ho.cellAt hcj
              clear hcj hgj
              revert hin d2
              generalize ds[j] = dj
              intro hin d2
              have HIN := Lib.hid hin
              clear hin
              go_wp2_with (go_at_call 34; refine (contains_any w5.heap.size _ vp _ ((dj : Nat) : Int) (Ints.only HVP9.out ho hwsz)).mono ?_; rintro en w10 ⟨rfl, hw10⟩; rw [HIN.out])
              go_roundw
              case rel => exact ⟨j + 1, by omega, by go_num, ho.trans hw10 (fun _ _ f => f)⟩
              case measure => simp [intOf]; omega
            · obtain rfl : j = ds.length := by omega
              have hbx := hb9.trans (ho.below hb9.size (fun _ _ f => f))
              have hgx := hg4.step hbx
              go_wp2_with (go_at_call 14; refine (awake_any _).mono ?_; rintro en w10 ⟨rfl, hw10⟩; have hg10 := hgx.step hw10)
              go_ret
              exact ⟨rfl, hg10.bel⟩
    · have hzl1 : 60 < (zs.length : Int) := by omega
      clear hv hes HZ HE hlen0 hfew hc hg
      go_enter Try.func10, Try.ntmps10
      go_wp2_with (first
        | (go_at_call 28; refine (HGO.out _ hg0).mono ?_; rintro en w1 ⟨rfl, hw1⟩; have hg1 := hg0.step hw1)
        | (go_at_call 14; refine (awake_any w1).mono ?_; rintro en w2 ⟨rfl, hw2⟩; have hg2 := hg1.step hw2))
      go_ret
      exact ⟨rfl, hg2.bel⟩
  · have hgood' : (few n es && decide (chk n exit es = 0)) = false := by simpa using hgood
    rw [hgood'] at HGO
    clear hgood hgood' hes hv HZ
    go_enter Try.func10, Try.ntmps10
    go_wp2_with (first
      | (go_at_call 28; refine (HGO.out _ hg0).mono ?_; rintro en w1 ⟨rfl, hw1⟩; have hg1 := hg0.step hw1)
      | (go_at_call 14; refine (awake_any w1).mono ?_; rintro en w2 ⟨rfl, hw2⟩; have hg2 := hg1.step hw2))
    go_ret
    exact ⟨rfl, hg2.bel⟩
end Go.Proofs.Ytngfoinceakgdaa

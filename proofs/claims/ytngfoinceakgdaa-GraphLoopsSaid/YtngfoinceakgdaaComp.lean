/- Package graph: Components. -/
import Derived.Test.YtngfoinceakgdaaLoopD
import Derived.Test.YtngfoinceakgdaaQuietR
import Derived.WalkMore
import Derived.Shelf.RegionOpen
import Derived.RangeFuncCalls
import Derived.Test.YtngfoinceakgdaaPlain2
import Derived.Deep.RegionHeld3
namespace Go.Proofs.Ytngfoinceakgdaa
open Go.RowKit Go.Shelf

attribute [local go_sem] Oper.semAt_some

theorem add_zero' (a : Addr) : a.add 0 = a := by unfold Addr.add; simp
theorem below_succ {p : Nat → Prop} {k : Nat} (h : ∀ j, j < k → p j) (h2 : p k) : ∀ j, j < k + 1 → p j := fun j hj => by
  by_cases e : j = k
  · exact e ▸ h2
  · exact h j (by omega)
theorem keeps_drewN (B : Nat) (W : World) (k : Nat) : KeepsFrom B W (W.drewN k) := ⟨Nat.le_refl _, fun _ _ _ h _ => h⟩
theorem succ_val (k : Nat) : Value.int .i64 ((k : Int) + 1) = .int .i64 ((k + 1 : Nat) : Int) := by go_num

set_option maxRecDepth 100000
set_option maxHeartbeats 16000000
theorem components_ok (B : Nat) (w : World) (v : Value) (n : Nat) (exit : Int) (E : List (Nat × Nat)) (hv : Edges B w v (castE E)) (hB : B ≤ w.heap.size) (hg : GOk n exit E) (k : Nat) (t : List Bool × List Nat) (r : List Bool × List (List Nat))
    (hd : foldO (dfsV (shapeOf n E).next (-1) k) (List.range n) (List.replicate n false, []) = some t) (hlen : t.2.length ≤ 100000) (hord : ∀ x ∈ t.2, x < n)
    (hgl : ∀ (sn : List Bool) (p : Nat) (u : List Bool × List Nat), sn.length = n → grpV ((shapeOf n E).rev 0).next k (sn, []) p = some u → u.2.length ≤ 1000000) (hr : grpsF ((shapeOf n E).rev 0).next k n t.2 = some r) (hrn : r.2.Nodup) (hr0 : 0 < r.2.length)
    (hgn : ∀ g ∈ sortG r.2, g ≠ []) (hgx : ∀ g ∈ sortG r.2, ∀ x ∈ g, x < n) :
    Calls Try.prog 15 #[.agg #[.int .i64 (n : Int), .int .i64 exit, v]] w fun en w' => ∃ vo, en = .returned (.tuple #[vo, .int .i64 0]) ∧ Ints w'.heap.size w' vo (compF (shapeOf n E) (sortG r.2)) ∧ Below w.heap.size w w' := by
  obtain ⟨A, c, rfl, hlc, -, hm, hes⟩ := id hv.shape
  have hcheck := fun w1 (h1 : Below w.heap.size w w1) => check_any B w1 n exit _ _ (hv.below (h1.mono hB)) (by have := h1.size; omega)
  have hnew := fun w1 (h1 : Below w.heap.size w w1) => newShape_any B w1 n exit _ E (hv.below (h1.mono hB)) (by have := h1.size; omega) hg.n512 hg.lt hg.len
  rw [hg.chk] at hcheck
  have HC := Lib.hid hcheck
  have HN := Lib.hid hnew
  have HG := Lib.hid hg
  have hn512 := hg.n512
  have hn1 := hg.n1
  have hgroups := fun (w2 : World) (sa : Nat) (hs : IsShape w2.heap.size w2 sa (shapeOf n E)) => groups_any w2.heap.size w2 sa n exit E hs (Nat.le_refl _) hg k t r hd hlen hord hgl hr hrn hr0
  have HGR := Lib.hid hgroups
  have HGN := Lib.hid hgn
  have HGX := Lib.hid hgx
  clear hcheck hnew hg hes hv hlc hgroups hd hgl hr hgn hgx
  have hmk := make_one (P := Try.prog) 27 3 (.int .i64 0) 8 Try.underlying27 info_int rfl n (by omega) (by omega)
  generalize sortG r.2 = gs at HGR HGN HGX ⊢
  clear hrn hr0
  refine (callsIn_wide (n := 5)).1 (callsIn_of_wp_marks Try.func15 rfl trivial (wpIn_wide.2 ?_) rfl)
  simp only [Try.ntmps15, List.size_toArray, List.length_cons, List.length_nil, Nat.reduceAdd, Nat.reduceSub, Array.replicate_succ, Array.replicate_zero, List.push_toArray, List.append_toArray, List.nil_append, List.cons_append]
  go_upto_region 4 with (go_at_call 30; refine (HC.out _ ((Below.refl _ _).alloc (Nat.le_refl _) _)).mono ?_; rintro en w1 ⟨rfl, hb1⟩)
  have hb2 : Below w.heap.size w w1 := ((Below.refl _ w).alloc (Nat.le_refl _) _).trans (hb1.mono (by rw [World.size_alloc]; omega))
  have hgc : w1.cell? ⟨w.heap.size, 0, none⟩ = some (.int .i64 (n : Int)) ∧ w1.cell? ⟨w.heap.size, 1, none⟩ = some (.int .i64 exit) ∧ w1.cell? ⟨w.heap.size, 2, none⟩ = some (.slice A (castE E).length c) := by
    have hblk := (Blk.newAt w 24 #[.int .i64 (n : Int), .int .i64 exit, .slice A (castE E).length c] rfl).below hb1 (by rw [World.size_alloc]; omega)
    exact ⟨hblk.cellAt rfl, hblk.cellAt rfl, hblk.cellAt rfl⟩
  obtain ⟨hg0, hg1, hg2⟩ := hgc
  clear hb1
  go_upto_region 5 with (go_at_call 47; refine (HN.out _ hb2).mono ?_; rintro en w2 ⟨sb, rfl, hsh, hb3⟩)
  have hb4 := hb2.trans (hb3.mono hb2.size)
  clear hg0 hg1 hg2 hb3
  go_upto_region 6 with (go_at_call 48; refine (HGR.out w2 sb hsh).mono ?_; rintro en w3 ⟨vg, rfl, hgv, hb5⟩)
  obtain ⟨hsa, vf, vt, vo, vi, hblk, -, -, -, -⟩ := id hsh
  have hblk3 := hblk.below hb5 hsa
  have d0 := hblk3.cellAt (i := 0) rfl
  simp only [shapeOf] at d0
  have hsz : sb < w3.heap.size := hblk3.lt
  have n0 : w3.heap.size ≠ sb := by omega
  have n1 : w3.heap.size + 1 ≠ sb := by omega
  have n2 : w3.heap.size + 1 + 1 ≠ sb := by omega
  have n3 : w3.heap.size + 1 + 1 + 1 ≠ sb := by omega
  clear hblk3 hblk
  have hgv3 : Natss w3.heap.size w3 vg gs := hgv
  clear hgv
  go_cut [7, 8] from 30 to 40 (fun s7 s8 wx => ∃ a7 a8 go gn, s7 = .pointer (some ⟨a7, 0, none⟩) ∧ s8 = .pointer (some ⟨a8, 0, none⟩) ∧ CS w3 wx a7 a8 go gn n (List.replicate n 0) (List.replicate n (-1)))
  case first =>
    go_region_held3 (fun w' => w'.cell? ⟨sb, 0, none⟩ = some (.int .i64 (n : Int))) (simp (maxDischargeDepth := 12) [*, World.cell?_alloc_some, World.cell?_setCell_far]) ((go_at_call 49; refine (repeat_any _ _ (-1) n hn1 (by omega) (by first | exact Blk.newAt _ _ _ (by simp) | exact (Blk.newAt _ _ _ (by simp)).alloc _ | exact ((Blk.newAt _ _ _ (by simp)).alloc _).alloc _ | exact (((Blk.newAt _ _ _ (by simp)).alloc _).alloc _).alloc _)).mono ?_; rintro en w5 ⟨g5, rfl, hg5, hgs5, hb5'⟩; obtain ⟨hcc, hff⟩ := bcell hb5'; have hcs : w5.cell? ⟨sb, 0, none⟩ = some (.int .i64 (n : Int)) := (hcc sb 0 (by simp; omega)).trans (by simp (maxDischargeDepth := 12) [*]); have hz5 := hb5'.size; simp only [World.size_alloc, World.size_drew] at hz5; have z0 : w3.heap.size < w5.heap.size := (by omega); (try have z1 : w3.heap.size + 1 < w5.heap.size := (by omega)); (try have z2 : w3.heap.size + 1 + 1 < w5.heap.size := (by omega)); (try have z3 : w3.heap.size + 1 + 1 + 1 < w5.heap.size := (by omega)); have zs : sb < w5.heap.size := (by omega); have y0 : w5.heap.size ≠ sb := (by omega); have y1 : w5.heap.size + 1 ≠ sb := (by omega); have y2 : w5.heap.size + 1 + 1 ≠ sb := (by omega)))
    all_goals
      go_wp2_with fail
      go_meet
      apply Exists.intro; apply Exists.intro; apply Exists.intro; apply Exists.intro
      refine ⟨rfl, rfl, ?_⟩
      apply CS.start
      all_goals (repeat (first
        | (with_reducible exact hg5)
        | (with_reducible exact Below.refl _ _)
        | (with_reducible refine Blk.drew ?_)
        | (with_reducible refine Below.drew ?_)
        | (with_reducible refine Blk.new1 ?_; (first | rfl | (simp; done)))
        | (with_reducible refine Blk.newA ?_; (first | rfl | (simp; done)))
        | (with_reducible refine Blk.set1 (u0 := .slice none 0 0) ?_)
        | (with_reducible refine Blk.alloc ?_ _)
        | (with_reducible refine Blk.far ?_ ?_ _; rotate_left; focus (first | (simp; done) | (simp; omega) | (have q1 := hgs5; simp only [World.size_alloc, World.size_drew] at q1; simp; omega)))
        | (with_reducible refine Blk.below ?_ hb5' ?_; rotate_left; focus (first | omega | (simp; done) | (simp; omega)))
        | (with_reducible refine Below.alloc ?_ ?_ _; rotate_left; focus (first | omega | (simp; done) | (simp; omega)))
        | (with_reducible refine Below.setCell ?_ ?_ _; rotate_left; focus (first | omega | (simp; done) | (simp; omega)))
        | (with_reducible refine Below.trans ?_ (Below.mono hb5' ?_); rotate_left; focus (first | omega | (simp; done) | (simp; omega)))
        | (have q1 := hgs5; have q2 := hg5.lt; simp only [World.size_alloc, World.size_drew] at q1; omega)))
  case rest =>
    obtain ⟨a7, a8, go, gn, rfl, rfl, hcs⟩ := hcut
    obtain ⟨Ag, cg, rfl, -, -, hmg, -⟩ := Sl.shape hgv3
    rw [← ofP_zero n gs] at hcs
    clear d0 hmk n0 n1 n2 n3
    generalize (castE E).length = le
    go_wp2
    go_loopw [43] (fun y wr => ∃ m : Nat, m ≤ gs.length ∧ y = .int .i64 m ∧ CS w3 wr a7 a8 go gn n (ofP n gs m) (List.replicate n (-1))) (fun y _ => gs.length - (intOf y).toNat)
    case atStart => exact ⟨0, Nat.zero_le _, rfl, hcs⟩
    case round =>
      obtain ⟨m, hm, rfl, hc1⟩ := hrel
      clear hcs
      by_cases hlt : m < gs.length
      · have hlt1 : (m : Int) < (gs.length : Int) := by omega
        obtain ⟨ad, Ak, ck, rfl, hab, hac, hnk, hmk⟩ := Natss.at hgv3 hlt
        have hac' := (hc1.bel.cell (p := ad.add m) (by rw [block_add]; exact hab)).trans hac
        have hof := ofP_succ n gs m hlt
        have hgx := HGX.out _ (List.getElem_mem hlt)
        have hmem : m < 9223372036854775807 := by omega
        clear hac
        revert hof hgx hac' hnk hmk
        generalize gs[m] = g
        intro hnk hmk hac' hof hgx
        have HOF := Lib.hid hof
        have HX := Lib.hid hgx
        have HNK := Lib.hid hnk
        clear hof hgx hnk
        go_wp2
        obtain ⟨w7, rfl⟩ : ∃ w7 : World, w7 = wr := ⟨_, rfl⟩
        go_loopw [50] (fun y wr => ∃ j : Nat, j ≤ g.length ∧ y = .int .i64 j ∧ CS w3 wr a7 a8 go gn n (fillOf (ofP n gs m) (g.take j) m) (List.replicate n (-1))) (fun y _ => g.length - (intOf y).toNat)
        case atStart => exact ⟨0, Nat.zero_le _, rfl, hc1⟩
        case round =>
          obtain ⟨j, hj, rfl, hc2⟩ := hrel
          clear hc1 hac'
          by_cases hjl : j < g.length
          · have hjl1 : (j : Int) < (g.length : Int) := by omega
            obtain ⟨ad2, rfl, hab2, hac2⟩ := Nats.at HNK.out hjl
            have hgd : g.getD j 0 = g[j] := by rw [List.getD_eq_getElem?_getD, List.getElem?_eq_getElem hjl]; rfl
            rw [hgd] at hac2
            have hac3 := (hc2.bel.cell (p := ad2.add j) (by rw [block_add]; exact hab2)).trans hac2
            have hfs := fillOf_succ (ofP n gs m) g m j hjl
            have hpn := HX.out _ (List.getElem_mem hjl)
            clear hgd hac2
            revert hac3 hfs hpn
            generalize g[j] = p
            intro hac3 hfs hpn
            have c7 := hc2.v7.cellAt (i := 0) rfl
            have cp := hc2.ofCell hpn
            have fp := hc2.o.frozen p
            have hpn1 : (p : Int) < (n : Int) := by omega
            have hst := hc2.setOf p m
            rw [← hfs] at hst
            have HST := Lib.hid hst
            clear hfs hst
            go_wp2
            go_roundw
            case rel => exact ⟨j + 1, by omega, by go_num, HST.out⟩
            case measure => simp [intOf]; omega
          · obtain rfl : j = g.length := by omega
            rw [List.take_length, ← HOF.out] at hc2
            go_wp2
            go_roundw
            case rel => exact ⟨m + 1, by omega, by go_num, hc2⟩
            case measure => simp [intOf]; omega
      · obtain rfl : m = gs.length := by omega
        rw [ofP_all] at hc1
        have hcs3 : CS w3 wr a7 a8 go gn n (ofF n gs) (numAt (shapeOf n E) gs 0) := hc1
        have hsh3 : IsShape w3.heap.size w3 sb (shapeOf n E) := (hsh.below hb5).more hb5.size
        have HSH := Lib.hid hsh3
        clear hc1 hsh hsh3
        go_wp2
        refine wp_loop_defs (D0 := []) (fun kx T Ds W => ∃ cnt : Nat, cnt ≤ gs.length ∧ kx = gs.length - cnt ∧ IsF3 (.pointer (some ⟨sb, 0, none⟩)) (.slice Ag gs.length cg) (.pointer (some ⟨a7, 0, none⟩)) (.pointer (some ⟨a8, 0, none⟩)) (.int .i64 cnt) T ∧
          CS w3 W a7 a8 go gn n (ofF n gs) (numAt (shapeOf n E) gs cnt) ∧ DsOk w3.heap.size Ds W) gs.length ⟨0, Nat.zero_le _, rfl, ⟨rfl, rfl, rfl, rfl, rfl, rfl⟩, hcs3, DsOk.nil _ _⟩ ?_
        rintro kx T Ds W ⟨cnt, hcnt, rfl, hF, hc3, hds⟩ K3 hK3
        clear hcs3
        have HK3 := Lib.hid hK3
        clear hK3
        obtain ⟨u, rfl⟩ := hF.out
        by_cases hcl : cnt < gs.length
        · have hcl1 : (cnt : Int) < (gs.length : Int) := by omega
          clear hF
          go_wp2
          go_step3
          go_wp2
          go_step3
          go_wp2
          refine wp_loop_defs (D0 := Ds) (fun kx T Ds W => ∃ kk : Nat, kk ≤ gs.length ∧ kx = gs.length - kk ∧
            IsF4 (.pointer (some ⟨sb, 0, none⟩)) (.slice Ag gs.length cg) (.pointer (some ⟨a7, 0, none⟩)) (.pointer (some ⟨a8, 0, none⟩)) (.int .i64 cnt) (.slice Ag gs.length cg) (.int .i64 gs.length) (.int .i64 kk) T ∧
            CS w3 W a7 a8 go gn n (ofF n gs) (numAt (shapeOf n E) gs cnt) ∧ DsOk w3.heap.size Ds W ∧ ∀ j, j < kk → freeF (shapeOf n E) (ofF n gs) gs (numAt (shapeOf n E) gs cnt) j = false) gs.length
            ⟨0, Nat.zero_le _, rfl, ⟨rfl, rfl, rfl, rfl, rfl, rfl, rfl, rfl, rfl⟩, hc3, hds, fun j hj => absurd hj (Nat.not_lt_zero j)⟩ ?_
          rintro kx T Ds W ⟨kk, hkk, rfl, hF, hc4, hds, hfr⟩ K4 hK4
          have HK4 := Lib.hid hK4
          have HFR := Lib.hid hfr
          clear hK4 hc3 hfr
          obtain ⟨u, rfl⟩ := hF.out
          clear hF
          by_cases hkl : kk < gs.length
          · have hkl1 : (kk : Int) < (gs.length : Int) := by omega
            obtain ⟨ad, Ak, ck, rfl, hab, hac, hnk, hmk⟩ := Natss.at hgv3 hkl
            have hac' := (hc4.bel.cell (p := ad.add kk) (by rw [block_add]; exact hab)).trans hac
            have hgx := HGX.out _ (List.getElem_mem hkl)
            have hgn := HGN.out _ (List.getElem_mem hkl)
            have hget : gs[kk]? = some gs[kk] := List.getElem?_eq_getElem hkl
            clear hac
            revert hget hgx hgn hac' hnk hmk
            generalize gs[kk] = g
            intro hnk hmk hac' hgx hgn hget
            have hg0 : 0 < g.length := List.length_pos_iff.2 hgn
            obtain ⟨adk, rfl, habk, hack⟩ := Nats.at hnk hg0
            have hgd : g.getD 0 0 = g[0] := by rw [List.getD_eq_getElem?_getD, List.getElem?_eq_getElem hg0]; rfl
            have hp0 : g.getD 0 0 < n := by rw [hgd]; exact hgx _ (List.getElem_mem hg0)
            have hfree := freeF_at (s := shapeOf n E) (ofs := ofF n gs) (num := numAt (shapeOf n E) gs cnt) hget
            clear hgd hgn
            revert hp0 hack hfree
            generalize g.getD 0 0 = p0
            intro hack hp0 hfree
            have hc5 := hc4.alloc (.cells #[.int .i64 (kk : Int)] 3)
            have c8 := hc5.v8.cellAt (i := 0) rfl
            have cn := hc5.numCell hp0
            have hp01 : (p0 : Int) < (n : Int) := by omega
            have hack2 := (hc5.bel.cell (p := adk.add 0) (by rw [block_add]; exact habk)).trans hack
            rw [add_zero'] at hack2
            have HX := Lib.hid hgx
            have HNK := Lib.hid hnk
            have HFE := Lib.hid hfree
            have HGET := Lib.hid hget
            clear hgx hnk hfree hget hack
            rcases Int.lt_or_le (getI (numAt (shapeOf n E) gs cnt) p0) 0 with hneg | hpos
            · have hdec : decide (0 ≤ getI (numAt (shapeOf n E) gs cnt) p0) = false := by simpa using hneg
              have hnn : ¬ (0 ≤ getI (numAt (shapeOf n E) gs cnt) p0) := by omega
              have HNEG := Lib.hid hneg
              clear hneg
              go_upto_region 22 with fail
              go_quiet (fail)
              go_wp2
              have hb14 := (Blk.new W 3 [.int .i64 (kk : Int)]).drewN nq
              have hc7 := hc5.drewN nq
              have hd7 := (hds.alloc (.cells #[.int .i64 (kk : Int)] 3)).drewN nq
              have h14 : w3.heap.size ≤ W.heap.size := hc4.bel.size
              clear hc5 c8 cn hack2 hac' hc4 hds
              revert hb14 hc7 hd7
              generalize (W.alloc (.cells #[.int .i64 (kk : Int)] 3)).drewN nq = W7
              generalize W.heap.size = a14 at h14
              intro hb14 hc7 hd7
              refine wp_loop_defs (D0 := Ds) (fun kx T Ds W' => ∃ j : Nat, j ≤ g.length ∧ kx = g.length - j ∧
                IsF5 (.pointer (some ⟨sb, 0, none⟩)) (.slice (some ad) gs.length cg) (.pointer (some ⟨a7, 0, none⟩)) (.pointer (some ⟨a8, 0, none⟩)) (.int .i64 cnt) (.pointer (some ⟨a14, 0, none⟩)) (.slice (some adk) g.length ck) (.slice (some ad) gs.length cg) (.int .i64 gs.length) (.int .i64 kk) (.slice (some adk) g.length ck) (.int .i64 g.length) (.int .i64 j) T ∧
                CS w3 W' a7 a8 go gn n (ofF n gs) (numAt (shapeOf n E) gs cnt) ∧ DsOk w3.heap.size Ds W' ∧ Blk W' a14 3 [.int .i64 (kk : Int)] ∧ (g.take j).any (blockP (shapeOf n E) (ofF n gs) (numAt (shapeOf n E) gs cnt) kk) = false) g.length
                ⟨0, Nat.zero_le _, rfl, ⟨rfl, rfl, rfl, rfl, rfl, rfl, rfl, rfl, rfl, rfl, rfl, rfl, rfl, rfl⟩, hc7, hd7, hb14, rfl⟩ ?_
              rintro kx T Ds W ⟨j, hj, rfl, hF, hc8, hds, hb8, hnb⟩ K5 hK5
              have HK5 := Lib.hid hK5
              have HNB := Lib.hid hnb
              clear hK5 hnb hc7 hd7 hb14
              obtain ⟨u, rfl⟩ := hF.out
              clear hF
              by_cases hjl : j < g.length
              · have hjl1 : (j : Int) < (g.length : Int) := by omega
                obtain ⟨ad2, he2, hab2, hac2⟩ := Nats.at HNK.out hjl
                cases he2
                have hgd : g.getD j 0 = g[j] := by rw [List.getD_eq_getElem?_getD, List.getElem?_eq_getElem hjl]; rfl
                rw [hgd] at hac2
                have hac3 := (hc8.bel.cell (p := adk.add j) (by rw [block_add]; exact hab2)).trans hac2
                have hpn := HX.out _ (List.getElem_mem hjl)
                have hnx := any_take_succ' (f := blockP (shapeOf n E) (ofF n gs) (numAt (shapeOf n E) gs cnt) kk) hjl HNB.out
                have hyx := any_of_get (f := blockP (shapeOf n E) (ofF n gs) (numAt (shapeOf n E) gs cnt) kk) hjl
                clear hgd hac2
                revert hac3 hpn hnx hyx
                generalize g[j] = p
                intro hac3 hpn hnx hyx
                have HNX := Lib.hid hnx
                have HYX := Lib.hid hyx
                clear hnx hyx
                go_wp2_with (go_at_call 50; refine (next_any _ _ _).mono ?_; rintro en w1 ⟨rfl, rfl⟩)
                refine wpIn_wide (n := 5).1 ?_
                have HBs := Lib.hid ((Blk.new W 88 [.pointer (some ⟨sb, 0, none⟩)]).alloc (.cells #[.int .i64 (p : Int)] 3))
                have HBp := Lib.hid (Blk.new (W.alloc (.cells #[.pointer (some ⟨sb, 0, none⟩)] 88)) 3 [.int .i64 (p : Int)])
                rw [World.size_alloc] at HBp
                have hc9 := (hc8.alloc (.cells #[.pointer (some ⟨sb, 0, none⟩)] 88)).alloc (.cells #[.int .i64 (p : Int)] 3)
                have hd9 := (hds.alloc (.cells #[.pointer (some ⟨sb, 0, none⟩)] 88)).alloc (.cells #[.int .i64 (p : Int)] 3)
                have hb9 := (hb8.alloc (.cells #[.pointer (some ⟨sb, 0, none⟩)] 88)).alloc (.cells #[.int .i64 (p : Int)] 3)
                have hlw : w3.heap.size ≤ W.heap.size := hc8.bel.size
                obtain ⟨W0, hW0⟩ : ∃ W0, W0 = (W.alloc (.cells #[.pointer (some ⟨sb, 0, none⟩)] 88)).alloc (.cells #[.int .i64 (p : Int)] 3) := ⟨_, rfl⟩
                have hs0 : W0.heap.size = W.heap.size + 2 := by rw [hW0]; simp
                rw [← hW0] at HBs HBp hc9 hd9 hb9 ⊢
                clear hW0 hc8 hds hb8 hac3
                have hpl : p < (shapeOf n E).out.length := by simp [shapeOf]; exact hpn
                have hdlt := hd9.lt
                have hnl := next_list 4 (by omega) W.heap.size (W.heap.size + 1) w3.heap.size sb p (shapeOf n E) hpl HG.out.shapeOk.hto W0 HBs.out HBp.out (HSH.out.below hc9.bel) (by omega)
                have HNL := Lib.hid hnl
                have HS0 := Lib.hid hs0
                clear hnl hs0
                refine wpIn_range_upd ((shapeOf n E).next p) rfl (by omega) rfl trivial (enters_of Try.func73 (by kernel_rfl) rfl)
                  HNL.out (fun h k => h.trans k)
                  (fun W l o o' hl h _ _ => NextKp.book (B := W0.heap.size) (by have := HS0.out; omega) (by have := HS0.out; omega) (by have := HS0.out; omega) W l o o' hl h) (Below.refl _ _) (fun _ => rfl)
                  (fun pre W => pre.any (badP (ofF n gs) (numAt (shapeOf n E) gs cnt) kk) = false ∧ CS w3 W a7 a8 go gn n (ofF n gs) (numAt (shapeOf n E) gs cnt) ∧ DsOk w3.heap.size Ds W ∧ Blk W a14 3 [.int .i64 (kk : Int)])
                  (fun c pre W => c = .exit 7 ∧ pre.any (badP (ofF n gs) (numAt (shapeOf n E) gs cnt) kk) = true ∧ CS w3 W a7 a8 go gn n (ofF n gs) (numAt (shapeOf n E) gs cnt) ∧ DsOk w3.heap.size Ds W ∧ Blk W a14 3 [.int .i64 (kk : Int)]) ?hI ?hIx ⟨rfl, hc9, hd9, hb9⟩
                  (fun x a => { (a.put (some 89) (.int .i64 (x : Int))).put (some 18) (.int .i64 (x : Int)) with defers := [] }) ?assign ?body ?done ?stop
                case hI =>
                  rintro pre W W' row ⟨h1, h2, h3, h4⟩ hg hrow
                  exact ⟨h1, keepCS h2 h3 h4 hg hrow hdlt (by have := HS0.out; omega)⟩
                case hIx =>
                  rintro c pre W W' row ⟨h0, h1, h2, h3, h4⟩ hg hrow
                  exact ⟨h0, h1, keepCS h2 h3 h4 hg hrow hdlt (by have := HS0.out; omega)⟩
                case assign =>
                  intro l x W K hK
                  gi_wp2
                  simpa [Act.put] using hK
                case body =>
                  rintro l pre q post W hys hWs ⟨h1, h2, h3, h4⟩
                  have hqn : q < n := HG.out.next_lt p hpn q (by rw [hys]; simp)
                  have hqn1 : (q : Int) < (n : Int) := by omega
                  have c7 := h2.v7.cellAt (i := 0) rfl
                  have c8 := h2.v8.cellAt (i := 0) rfl
                  have c14 := h4.cellAt (i := 0) rfl
                  have co := h2.ofCell hqn
                  have cn := h2.numCell hqn
                  have HH1 := Lib.hid h1
                  have HH2 := Lib.hid h2
                  have HH3 := Lib.hid h3
                  have HH4 := Lib.hid h4
                  have HQ := Lib.hid hys
                  clear h1 h2 h3 h4 hys
                  revert co cn
                  obtain ⟨oq, hoq⟩ : ∃ oq, oq = (ofF n gs).getD q 0 := ⟨_, rfl⟩
                  obtain ⟨nq, hnq⟩ : ∃ nq, nq = getI (numAt (shapeOf n E) gs cnt) q := ⟨_, rfl⟩
                  have hbadq : badP (ofF n gs) (numAt (shapeOf n E) gs cnt) kk q = (decide (oq ≠ kk) && decide (nq < 0)) := by rw [hoq, hnq]; rfl
                  rw [← hoq, ← hnq]
                  intro co cn
                  by_cases ho : oq = kk
                  · have hbad : badP (ofF n gs) (numAt (shapeOf n E) gs cnt) kk q = false := by rw [hbadq, decide_eq_false (fun h => h ho)]; rfl
                    have HBAD := Lib.hid hbad
                    clear hbad hbadq hoq hnq
                    subst ho
                    gi_wp2_with fail
                    refine wpIn_region_quietR (by kernel_rfl) (by kernel_rfl) (by kernel_rfl) ?_
                    repeat (gi_big_quiet_step (fail))
                    refine wpQuietIn_nil ?_
                    intro _ hw'
                    obtain ⟨nn, rfl⟩ := hw'
                    gi_wp2
                    exact ⟨keeps_drewN _ _ _, ⟨below_drewN' (Below.refl _ _) _, rfl, rfl⟩, any_snoc HH1.out HBAD.out, HH2.out.drewN _, HH3.out.drewN _, HH4.out.drewN _⟩
                  · have g1 : ((oq : Int) != (kk : Int)) = true := by simp; omega
                    have g2 : (oq == kk) = false := by simpa using ho
                    have g3 : ((oq : Int) == (kk : Int)) = false := by simp; omega
                    have g4 : ¬ ((oq : Int) = (kk : Int)) := by omega
                    rcases Int.lt_or_le nq 0 with hlt0 | hge0
                    · have hbad : badP (ofF n gs) (numAt (shapeOf n E) gs cnt) kk q = true := by rw [hbadq, decide_eq_true ho, decide_eq_true hlt0]; rfl
                      have hd1 : decide (nq < 0) = true := decide_eq_true hlt0
                      have HBAD := Lib.hid hbad
                      clear hbad hbadq hoq hnq
                      gi_wp2_with fail
                      refine wpIn_region_quietR (by kernel_rfl) (by kernel_rfl) (by kernel_rfl) ?_
                      repeat (gi_big_quiet_step (fail))
                      refine wpQuietIn_nil ?_
                      intro _ hw'
                      obtain ⟨nn, rfl⟩ := hw'
                      gi_wp2
                      exact ⟨keeps_drewN _ _ _, rfl, any_snoc HH1.out HBAD.out, HH2.out.drewN _, HH3.out.drewN _, HH4.out.drewN _⟩
                    · have hbad : badP (ofF n gs) (numAt (shapeOf n E) gs cnt) kk q = false := by rw [hbadq, decide_eq_true ho, decide_eq_false (by omega)]; rfl
                      have hd1 : decide (nq < 0) = false := decide_eq_false (by omega)
                      have HBAD := Lib.hid hbad
                      clear hbad hbadq hoq hnq
                      gi_wp2_with fail
                      refine wpIn_region_quietR (by kernel_rfl) (by kernel_rfl) (by kernel_rfl) ?_
                      repeat (gi_big_quiet_step (fail))
                      refine wpQuietIn_nil ?_
                      intro _ hw'
                      obtain ⟨nn, rfl⟩ := hw'
                      gi_wp2
                      exact ⟨keeps_drewN _ _ _, ⟨below_drewN' (Below.refl _ _) _, rfl, rfl⟩, any_snoc HH1.out HBAD.out, HH2.out.drewN _, HH3.out.drewN _, HH4.out.drewN _⟩
                case done =>
                  rintro D W hD ⟨h1, h2, h3, h4⟩ hdef
                  have hD3 : w3.heap.size ≤ D := by have := HS0.out; omega
                  go_wp2
                  refine HK5.out (g.length - (j + 1)) _ (D :: Ds) _ (by omega) ?_
                  exact ⟨j + 1, by omega, rfl, ⟨rfl, rfl, rfl, rfl, rfl, rfl, rfl, rfl, rfl, rfl, rfl, rfl, rfl, succ_val j⟩, h2, h3.cons hdef hD3 (fun D' h' => by have := hdlt D' h'; omega), h4, HNX.out h1⟩
                case stop =>
                  rintro D c pre post W hD hpp ⟨rfl, h1, h2, h3, h4⟩ hdef
                  have hD3 : w3.heap.size ≤ D := by have := HS0.out; omega
                  have hbl : blockP (shapeOf n E) (ofF n gs) (numAt (shapeOf n E) gs cnt) kk p = true := by unfold blockP; rw [hpp, List.any_append, h1]; rfl
                  have hff : freeF (shapeOf n E) (ofF n gs) gs (numAt (shapeOf n E) gs cnt) kk = false := by rw [HFE.out, HYX.out hbl]; simp
                  have HFF := Lib.hid hff
                  have HPP := Lib.hid hpp
                  have HH1 := Lib.hid h1
                  clear hff hbl h1 hpp
                  refine wpIn_wide.2 ?_
                  go_wp2
                  refine HK4.out (gs.length - (kk + 1)) _ (D :: Ds) _ (by omega) ?_
                  exact ⟨kk + 1, by omega, rfl, ⟨rfl, rfl, rfl, rfl, rfl, rfl, rfl, rfl, succ_val kk⟩, h2, h3.cons hdef hD3 (fun D' h' => by have := hdlt D' h'; omega), below_succ HFR.out HFF.out⟩
              · obtain rfl : j = g.length := by omega
                have hnb := HNB.out
                rw [List.take_length] at hnb
                have hff : freeF (shapeOf n E) (ofF n gs) gs (numAt (shapeOf n E) gs cnt) kk = true := by rw [HFE.out, hnb, decide_eq_true HNEG.out]; rfl
                have hrs := round_some cnt HGET.out HFR.out hff
                have hns := numAt_succ (shapeOf n E) gs cnt
                have hn' : (shapeOf n E).n = n := rfl
                rw [hn', hrs] at hns
                have HNS := Lib.hid hns
                clear hnb hff hrs hns hn'
                go_wp2
                obtain ⟨w9, rfl⟩ : ∃ w9 : World, w9 = W := ⟨_, rfl⟩
                go_loopw [106] (fun y wr => ∃ m : Nat, m ≤ g.length ∧ y = .int .i64 m ∧ CS w3 wr a7 a8 go gn n (ofF n gs) (setAll (numAt (shapeOf n E) gs cnt) (g.take m) cnt) ∧ DsOk w3.heap.size Ds wr) (fun y _ => g.length - (intOf y).toNat)
                case atStart => exact ⟨0, Nat.zero_le _, rfl, hc8, hds⟩
                case round =>
                  obtain ⟨m, hm, rfl, hc10, hd10⟩ := hrel
                  clear hc8 hds hb8
                  by_cases hml : m < g.length
                  · have hml1 : (m : Int) < (g.length : Int) := by omega
                    obtain ⟨ad2, he2, hab2, hac2⟩ := Nats.at HNK.out hml
                    cases he2
                    have hgd : g.getD m 0 = g[m] := by rw [List.getD_eq_getElem?_getD, List.getElem?_eq_getElem hml]; rfl
                    rw [hgd] at hac2
                    have hac3 := (hc10.bel.cell (p := adk.add m) (by rw [block_add]; exact hab2)).trans hac2
                    have hpn := HX.out _ (List.getElem_mem hml)
                    have hsa := setAll_succ (numAt (shapeOf n E) gs cnt) g cnt m hml
                    clear hgd hac2
                    revert hac3 hpn hsa
                    generalize g[m] = p
                    intro hac3 hpn hsa
                    have c8 := hc10.v8.cellAt (i := 0) rfl
                    have cn := hc10.numCell hpn
                    have fn := hc10.m.frozen p
                    have hpn1 : (p : Int) < (n : Int) := by omega
                    have hst := hc10.setNum p cnt
                    rw [← hsa] at hst
                    have HST := Lib.hid hst
                    clear hst hsa
                    go_wp2
                    go_roundw
                    case rel => exact ⟨m + 1, by omega, by go_num, HST.out, hd10.set hc10.m _⟩
                    case measure => simp [intOf]; omega
                  · obtain rfl : m = g.length := by omega
                    rw [List.take_length, ← HNS.out] at hc10
                    go_wp2
                    try rw [Exit.noGoto_normal]
                    go_wp2
                    refine HK3.out (gs.length - (cnt + 1)) _ Ds _ (by omega) ?_
                    exact ⟨cnt + 1, by omega, rfl, ⟨rfl, rfl, rfl, rfl, rfl, succ_val cnt⟩, hc10, hd10⟩
            · have hdec : decide (0 ≤ getI (numAt (shapeOf n E) gs cnt) p0) = true := by simpa using hpos
              have hff : freeF (shapeOf n E) (ofF n gs) gs (numAt (shapeOf n E) gs cnt) kk = false := by
                rw [HFE.out, decide_eq_false (by omega)]; rfl
              have HFF := Lib.hid hff
              clear hff
              go_upto_region 22 with fail
              go_quiet (fail)
              go_wp2
              refine HK4.out (gs.length - (kk + 1)) _ Ds _ (by omega) ?_
              exact ⟨kk + 1, by omega, rfl, ⟨rfl, rfl, rfl, rfl, rfl, rfl, rfl, rfl, succ_val kk⟩, hc5.drewN _, (hds.alloc _).drewN _, below_succ HFR.out HFF.out⟩
          · obtain rfl : kk = gs.length := by omega
            have hrn := round_none (s := shapeOf n E) cnt HFR.out
            have hns := numAt_succ (shapeOf n E) gs cnt
            have hn' : (shapeOf n E).n = n := rfl
            rw [hn', hrn] at hns
            rw [← hns] at hc4
            clear hns hrn hn'
            go_wp2
            rw [Exit.noGoto_normal]
            go_wp2
            refine HK3.out (gs.length - (cnt + 1)) _ Ds _ (by omega) ?_
            exact ⟨cnt + 1, by omega, rfl, ⟨rfl, rfl, rfl, rfl, rfl, succ_val cnt⟩, hc4, hds⟩
        · obtain rfl : cnt = gs.length := by omega
          have c8 := hc3.v8.cellAt (i := 0) rfl
          clear hF
          go_wp2
          show LeavesInM _ _ _ _ _ _ (collected Ds) .returning _
          refine leaves_collected Ds _ hds.nodup hds.at_ ?_
          intro w' ho
          refine ⟨_, results_tmp2 rfl _ _ _, _, rfl, ?_, ?_⟩
          · have hnot : gn ∉ Ds := fun hm => by
              have h1 := hds.at_ _ hm
              have h2 := hc3.m
              unfold Blk at h2
              rw [h2] at h1
              cases h1
            have hbk := hc3.m.only ho hnot
            have h := Sl.of_blk (R := RInt) (xs := numAt (shapeOf n E) gs gs.length) (c := n) intV (fun _ _ => rfl) hbk (by rw [hc3.ln]; exact Nat.le_refl _) (by unfold maxLen; omega) hbk.lt
            rw [hc3.ln] at h
            exact h
          · have h1 : Below w3.heap.size W w' := ho.below hc3.bel.size (fun b hb hm => by have := hds.lo b hm; omega)
            exact (hb4.trans (hb5.mono hb4.size)).trans ((hc3.bel.trans h1).mono (Nat.le_trans hb4.size hb5.size))
end Go.Proofs.Ytngfoinceakgdaa

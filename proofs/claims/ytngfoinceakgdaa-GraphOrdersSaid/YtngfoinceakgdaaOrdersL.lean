/- The law GraphOrders, walked. -/
import Derived.Test.YtngfoinceakgdaaCompact
import Derived.Test.YtngfoinceakgdaaChain
import Derived.Test.YtngfoinceakgdaaAwake
import Derived.StillTailTactics
import Derived.BigQuiet
import Derived.ProofKit
import Derived.OpenShut
namespace Go.Proofs.Ytngfoinceakgdaa
open Go.RowKit Go.Shelf

theorem castI (l : List Nat) (j : Nat) (hj : j < l.length) : getI (castL l) j = ((l.getD j 0 : Nat) : Int) := by
  unfold getI castL
  rw [List.getD_eq_getElem?_getD, List.getD_eq_getElem?_getD, List.getElem?_map, List.getElem?_eq_getElem hj]
  rfl
theorem orders_key {n : Nat} {exit : Int} {E : List (Nat × Nat)} {gs : List (List Nat)} (hg : GOk n exit E) (h : IsGroups (nx n E) n gs) : ∃ cl : List Nat, compF (shapeOf n E) gs = castL cl ∧ cl.length = n ∧ (∀ x ∈ sortN cl, x < gs.length) ∧ (∀ k, k < gs.length → k ∈ sortN cl) ∧ (sortN cl).Pairwise (· ≤ ·) ∧
    (∀ a b, (a, b) ∈ E → cl.getD b 0 ≤ cl.getD a 0) ∧ (∀ x y, x < n → y < n → (cl.getD x 0 = cl.getD y 0 ↔ Mut (nx n E) x y)) := by
  obtain ⟨h1, h2, h3, h4, h5⟩ := comp_ord hg h
  revert h1 h2 h3 h4 h5
  generalize compF (shapeOf n E) gs = C
  intro h1 h2 h3 h4 h5
  have hgl : (C.map Int.toNat).length = n := by simpa using h1
  have hC : C = castL (C.map Int.toNat) := by
    apply List.ext_getElem (by simp [castL])
    intro j hj _
    have hx := (h2 j (by omega)).1
    have e : getI C j = C[j] := by unfold getI; rw [List.getD_eq_getElem?_getD, List.getElem?_eq_getElem hj]; rfl
    rw [e] at hx
    simp only [castL, List.getElem_map]
    omega
  have hget : ∀ x, x < n → getI C x = (((C.map Int.toNat).getD x 0 : Nat) : Int) := fun x hx => by
    have := castI (C.map Int.toNat) x (by omega)
    rw [← hC] at this
    exact this
  refine ⟨C.map Int.toNat, hC, hgl, ?_, ?_, ?_, ?_, ?_⟩
  · intro x hx
    rw [sortN_mem] at hx
    obtain ⟨j, hj, rfl⟩ := List.mem_iff_getElem.1 hx
    have hj2 : j < n := by omega
    have := (h2 j hj2).2
    rw [hget j hj2, List.getD_eq_getElem?_getD, List.getElem?_eq_getElem hj] at this
    simp only [Option.getD_some] at this
    omega
  · intro k hk
    rw [sortN_mem]
    obtain ⟨x, hx, e⟩ := h3 k hk
    rw [hget x hx] at e
    have hx2 : x < (C.map Int.toNat).length := by omega
    rw [List.getD_eq_getElem?_getD, List.getElem?_eq_getElem hx2, Option.getD_some] at e
    have : (C.map Int.toNat)[x] = k := by omega
    rw [← this]
    exact List.getElem_mem hx2
  · have hp : (sortN (C.map Int.toNat)).Pairwise fun a b => decide (a ≤ b) = true := by
      unfold sortN
      refine List.pairwise_mergeSort (fun a b c => ?_) (fun a b => ?_) _
      · simp; omega
      · simp; omega
    exact hp.imp (fun h => by simpa using h)
  · intro a b hab
    have hb := hg.lt _ hab
    have := h4 a b hab
    rw [hget a hb.1, hget b hb.2] at this
    omega
  · intro x y hx hy
    rw [← h5 x y hx hy, hget x hx, hget y hy]
    omega

theorem Ints.shapeC {B n : Nat} {w : World} {v : Value} {l : List Nat} (h : Ints B w v (castL l)) (hl : l.length = n) : ∃ A c, v = .slice A n c ∧ n ≤ 9223372036854775807 ∧ ∀ j, j < n → ∃ ad, A = some ad ∧ ad.block < B ∧ w.cell? (ad.add j) = some (.int .i64 ((l.getD j 0 : Nat) : Int)) := by
  obtain ⟨A, c, rfl, -, -, hm, hc⟩ := h.shape
  have hcl : (castL l).length = n := by simp [castL, hl]
  rw [hcl] at hm ⊢
  refine ⟨A, c, rfl, hm, fun j hj => ?_⟩
  obtain ⟨ad, u, rfl, hb, hcl2, hu⟩ := hc j _ (List.getElem?_eq_getElem (by omega))
  cases hu
  refine ⟨ad, rfl, hb, ?_⟩
  rw [hcl2, ← castI l j (by omega)]
  unfold getI
  rw [List.getD_eq_getElem?_getD, List.getElem?_eq_getElem (by omega)]
  rfl
theorem Bools.shapeB {B n : Nat} {w : World} {v : Value} {l : List Bool} (h : Bools B w v l) (hl : l.length = n) : ∃ A c, v = .slice A n c ∧ ∀ j, j < n → ∃ ad, A = some ad ∧ ad.block < B ∧ w.cell? (ad.add j) = some (.bool (l.getD j false)) := by
  obtain ⟨A, c, rfl, -, -, -, hc⟩ := h.shape
  subst hl
  refine ⟨A, c, rfl, fun j hj => ?_⟩
  obtain ⟨ad, u, rfl, hb, hcl, hu⟩ := hc j _ (List.getElem?_eq_getElem hj)
  cases hu
  exact ⟨ad, rfl, hb, by rw [hcl, List.getD_eq_getElem?_getD, List.getElem?_eq_getElem hj]; rfl⟩

set_option maxRecDepth 100000 in
set_option maxHeartbeats 4000000 in
theorem ordersL_any (w : World) (v : Value) (n exit : Int) (es : List (Int × Int)) (hv : Edges w.heap.size w v es) (a : Int) (ha : (Lit.int .u8 a).wf = true) (b : Int) (hb : (Lit.int .u8 b).wf = true) :
    Calls Try.prog 12 #[.agg #[.int .i64 n, .int .i64 exit, v], .int .u8 a, .int .u8 b] w fun en w' => en = .returned (.bool true) ∧ Below w.heap.size w w' := by
  have hgo := fun (W : World) (h : GV w W n exit v) => good_any W v n exit es (h.edges hv)
  have hg0 := GV.start w n exit v
  obtain ⟨A, c, rfl, hlc, -, hm, hes⟩ := id hv.shape
  have HGO := Lib.hid hgo
  clear hgo
  by_cases hgood : (few n es && decide (chk n exit es = 0)) = true
  · rw [hgood] at HGO
    rw [Bool.and_eq_true, decide_eq_true_eq] at hgood
    obtain ⟨hfew, hc⟩ := hgood
    obtain ⟨N, E, rfl, rfl, hg⟩ := chk_ok hc
    have hn1 := hg.n1
    have hn512 := hg.n512
    have hlE := hg.len
    have hb8 := Go.bounds_u8 ha
    have hb9 := Go.bounds_u8 hb
    obtain ⟨an, rfl⟩ : ∃ an : Nat, a = an := ⟨a.toNat, by omega⟩
    obtain ⟨bn, rfl⟩ : ∃ bn : Nat, b = bn := ⟨b.toNat, by omega⟩
    have han : an < 256 := by omega
    have hbn : bn < 256 := by omega
    obtain ⟨p, hpp⟩ : ∃ p, p = an % N := ⟨_, rfl⟩
    obtain ⟨q, hqq⟩ : ∃ q, q = bn % N := ⟨_, rfl⟩
    have hpN : p < N := by rw [hpp]; exact Nat.mod_lt _ (by omega)
    have hqN : q < N := by rw [hqq]; exact Nat.mod_lt _ (by omega)
    have hrem : (an : Int) % (N : Int) = (p : Int) := by rw [hpp]; rfl
    have hrem2 : (bn : Int) % (N : Int) = (q : Int) := by rw [hqq]; rfl
    have hrem3 : Int.tmod (an : Int) (N : Int) = (p : Int) := by rw [Int.tmod_eq_emod_of_nonneg (by omega), hpp]; rfl
    have hrem4 : Int.tmod (bn : Int) (N : Int) = (q : Int) := by rw [Int.tmod_eq_emod_of_nonneg (by omega), hqq]; rfl
    have hlen0 : (castE E).length = E.length := castE_length E
    rw [hlen0] at hlc hm hg0 HGO hv ⊢
    have HE := Lib.hid (Edges.nat hes)
    have hcm := fun (W : World) (h : GV w W N exit (.slice A E.length c)) => comp_sem W.heap.size W _ (h.edges hv) (Nat.le_refl _) hg
    have hrp := fun (W : World) (h : GV w W N exit (.slice A E.length c)) => reach_sem W.heap.size W _ (h.edges hv) (Nat.le_refl _) hg p hpN
    have hrq := fun (W : World) (h : GV w W N exit (.slice A E.length c)) => reach_sem W.heap.size W _ (h.edges hv) (Nat.le_refl _) hg q hqN
    have HCM := Lib.hid hcm
    have HRP := Lib.hid hrp
    have HRQ := Lib.hid hrq
    have hnn : (0 : Int) < (N : Int) := by omega
    have hN0i : ((N : Int) == 0) = false := by rw [beq_eq_false_iff_ne]; omega
    have hN0n : (N == 0) = false := by rw [beq_eq_false_iff_ne]; omega
    have hN0e : ¬ ((N : Int) = 0) := by omega
    have hN0m : ¬ (N = 0) := by omega
    have HG := Lib.hid hg
    have hpN1 : (p : Int) < (N : Int) := by omega
    have hqN1 : (q : Int) < (N : Int) := by omega
    clear hcm hrp hrq hv hes hpp hqq hlen0 hfew hc hb8 hb9 ha hb hg
    go_enter Try.func12, Try.ntmps12
    go_upto_region 3 with (go_at_call 28; refine (HGO.out _ hg0).mono ?_; rintro en w1 ⟨rfl, hw1⟩; have hg1 := hg0.step hw1; obtain ⟨c0, c1, c2⟩ := hg1.cells)
    clear hg0 hw1
    go_upto_region 4 with (go_at_call 15; refine (HCM.out _ hg1).mono ?_; rintro en w2 ⟨vo, gs, rfl, hvo, hgs, hw2⟩)
    have hg2 := hg1.step hw2
    clear c0 c1 c2 hg1 hw2
    obtain ⟨cl, hcl, hln, hlt, hall, hsort, hedge, hmut⟩ := orders_key HG.out hgs
    rw [hcl] at hvo
    obtain ⟨Ac, cc, rfl, -, hcc⟩ := Ints.shapeC hvo hln
    have HHV := Lib.hid hvo
    have HCC := Lib.hid hcc
    have HLT := Lib.hid hlt
    have HALL := Lib.hid hall
    have HSO := Lib.hid hsort
    have HED := Lib.hid hedge
    have HMU := Lib.hid hmut
    have HLN := Lib.hid hln
    clear hcc hlt hall hsort hedge hmut hln hcl hvo hgs
    obtain ⟨c0, c1, c2⟩ := hg2.cells
    go_quiet (fail)
    have hg3 := hg2.drewN nq
    have hb3 : Below w2.heap.size w2 (w2.drewN nq) := below_drewN' (Below.refl _ _) nq
    clear hg2 hrem hrem2 hrem3 hrem4 han hbn c0 c1 c2
    revert hg3 hb3
    generalize w2.drewN nq = w3
    intro hg3 hb3
    obtain ⟨c0, c1, c2⟩ := hg3.cells
    go_upto_region 6 with ((with_reducible go_at_call 31); refine (HRP.out _ hg3).mono ?_; rintro en w4 ⟨vx, lx, rfl, hvx, hlx, hrx, hw4⟩)
    have hg4 := hg3.step hw4
    have hb4 := hb3.trans (hw4.mono hb3.size)
    clear c0 c1 c2 hg3 hb3 hw4
    obtain ⟨c0, c1, c2⟩ := hg4.cells
    go_upto_region 7 with ((with_reducible go_at_call 31); refine (HRQ.out _ hg4).mono ?_; rintro en w5 ⟨vy, ly, rfl, hvy, hly, hry, hw5⟩)
    have hg5 := hg4.step hw5
    have hb5 := hb4.trans (hw5.mono hb4.size)
    have hvx5 := (Bools.below hvx hw5).more hw5.size
    clear c0 c1 c2 hg4 hb4 hw5 hvx
    obtain ⟨c0, c1, c2⟩ := hg5.cells
    obtain ⟨Ax, cx, rfl, hcx⟩ := Bools.shapeB hvx5 hlx
    obtain ⟨Ay, cy, rfl, hcy⟩ := Bools.shapeB hvy hly
    have HCX := Lib.hid hcx
    have HCY := Lib.hid hcy
    have HRX := Lib.hid hrx
    have HRY := Lib.hid hry
    clear hcx hcy hrx hry hvx5 hvy hlx hly HRP HRQ HCM
    go_wp2
    clear c0 c1 c2
    go_loopw [81] (fun y wr => ∃ k : Nat, k ≤ E.length ∧ y = .int .i64 k ∧ GV w wr N exit (.slice A E.length c) ∧ Below w5.heap.size w5 wr) (fun y _ => E.length - (intOf y).toNat)
    case atStart => exact ⟨0, Nat.zero_le _, rfl, hg5, Below.refl _ _⟩
    case round =>
      obtain ⟨k, hk, rfl, hgw, hbw⟩ := hrel
      clear hg5
      by_cases hlt : k < E.length
      · have hlt1 : (k : Int) < (E.length : Int) := by omega
        have hek : E[k]? = some E[k] := List.getElem?_eq_getElem hlt
        revert hek
        generalize E[k] = x
        intro hek
        obtain ⟨f, t⟩ := x
        obtain ⟨ad, cs, rfl, hab, hcl, hcc, hc0, hc1, hone⟩ := HE.out k _ hek
        have hmem := List.mem_of_getElem? hek
        have hft := HG.out.lt _ hmem
        have hle := HED.out f t hmem
        obtain ⟨adc, rfl, hbc, e1⟩ := HCC.out f hft.1
        obtain ⟨adc', he', -, e2⟩ := HCC.out t hft.2
        cases he'
        have hcr : ∀ j v, cs[j]? = some v → wr.cell? ((ad.add (k * 21)).add j) = some v := fun j v hj => (hgw.bel.cell (by rw [block_add, block_add]; omega)).trans (hcc j v hj)
        have hgx := hgw.alloc (.cells cs.toArray 58)
        have hbx := hbw.alloc hbw.size (.cells cs.toArray 58)
        have hbe := Blk.new wr 58 cs
        have hbz := hb5.trans (hbx.mono hb5.size)
        have d1 := (hbz.cell (p := adc.add f) (by rw [block_add]; exact hbc)).trans e1
        have d2 := (hbz.cell (p := adc.add t) (by rw [block_add]; exact hbc)).trans e2
        have d3 := hbe.cellAt hc0
        have d4 := hbe.cellAt hc1
        have c2 := hgw.g.cellAt (i := 2) rfl
        have hf1 : (f : Int) < (N : Int) := by omega
        have ht1 : (t : Int) < (N : Int) := by omega
        revert d1 d2 hle
        generalize cl.getD f 0 = lf
        generalize cl.getD t 0 = lt
        intro hle d2 d1
        have hgt : decide ((lf : Int) < (lt : Int)) = false := by rw [decide_eq_false_iff_not]; omega
        have hgt2 : decide (lf < lt) = false := by rw [decide_eq_false_iff_not]; omega
        have hgt3 : ¬ lf < lt := by omega
        have HC := Lib.hid hcr
        have HL := Lib.hid hcl
        have H1 := Lib.hid hone
        clear hcc hcr hcl hone hek hbe hc0 hc1 e1 e2 hmem hft hle
        go_wp2_with (first
          | ((with_reducible show wpList _ _ _ (⟨some 84, .load 58 (.tmp 83), _, _, _, _⟩ :: _) _ _); refine wpList_load_list rfl _ _ rfl (ad.add (k * 21)) rfl cs _ HC.out Try.underlying58 rfl (by rw [HL.out]; exact size_edge) ?_)
          | ((with_reducible show wpList _ _ _ (⟨none, .store 58 (.tmp 16) (.tmp 84), _, _, _, _⟩ :: _) _ _); refine wpList_store_new rfl _ _ _ rfl _ _ cs rfl rfl (by rw [HL.out]; exact size_edge) (by rw [HL.out]; rfl) H1.out ?_))
        go_quiet (fail)
        go_wp2
        go_roundw
        case rel => exact ⟨k + 1, by omega, by go_num, hgx.drewN _, below_drewN' hbx _⟩
        case measure => simp [intOf]; omega
      · obtain rfl : k = E.length := by omega
        have hln := HLN.out
        have hsl : (sortN cl).length = N := by rw [sortN_length]; exact hln
        have hbz := hb5.trans (hbw.mono hb5.size)
        have hclo := fun (W : World) (hb : Below w2.heap.size w2 W) => clone_any W.heap.size W (.slice Ac N cc) cl ((HHV.out.below hb).more hb.size) (by omega) (by omega)
        have HCL := Lib.hid hclo
        have hcom := fun (W : World) (base : Nat) (v : Value) (h : W.ownsRow base 3 1 v (sortN cl).length ((sortN cl).map natV)) => compact_own W base v (sortN cl) gs.length h (by omega) (by omega) HSO.out HLT.out HALL.out
        have HCO := Lib.hid hcom
        clear hclo hcom HE HHV HED HLT HALL HSO
        go_upto_region 16 with (go_at_call 43; refine (HCL.out _ hbz).mono ?_; rintro en w6 ⟨vu, rfl, hown6, hw6⟩)
        have hg6 := hgw.step hw6
        have hs6 := hw6.size
        go_upto_region 17 with (go_at_call 44; refine (sort_own _ _ vu cl hown6 (by omega)).mono ?_; rintro en w7 ⟨rfl, hown7, hgr7⟩)
        have hw7 := hw6.grown hgr7 hs6 (fun j hj => (hown6.lt j hj).1)
        have hs7 := hw7.size
        rw [← sortN_length] at hown7
        clear hg6 hw6 hgr7 hown6
        obtain ⟨wq, rfl⟩ : ∃ wq : World, wq = wr := ⟨_, rfl⟩
        go_wp2_with (go_at_call 45; refine (HCO.out _ _ vu hown7).mono ?_; rintro en w8 ⟨vr, rfl, hvr, hw8⟩; obtain ⟨Ar, cr, rfl, hml, hcr⟩ := Ints.shapeC (n := gs.length) hvr (by simp))
        have hw78 := hw7.trans hw8
        have hg8 := hgw.step hw78
        have hb58 := hbw.trans (hw78.mono hbw.size)
        have hb28 := hb5.trans (hb58.mono hb5.size)
        have HCR := Lib.hid hcr
        clear hcr hvr hown7 hw7 hw8 hw78 hgw hbw hbz hb5 hs6 hs7
        go_loopw [104] (fun y wr => ∃ k : Nat, k ≤ gs.length ∧ y = .int .i64 k ∧ Below w8.heap.size w8 wr) (fun y _ => gs.length - (intOf y).toNat)
        case atStart => exact ⟨0, Nat.zero_le _, rfl, Below.refl _ _⟩
        case round =>
          obtain ⟨k, hk, rfl, hbl⟩ := hrel
          by_cases hlt : k < gs.length
          · have hlt1 : (k : Int) < (gs.length : Int) := by omega
            obtain ⟨adr, rfl, hbr, er⟩ := HCR.out k hlt
            have hrk : (List.range gs.length).getD k 0 = k := by
              rw [List.getD_eq_getElem?_getD, List.getElem?_range hlt]; rfl
            rw [hrk] at er
            have d1 := (hbl.cell (p := adr.add k) (by rw [block_add]; exact hbr)).trans er
            clear er
            go_wp2
            go_roundw
            case rel => exact ⟨k + 1, by omega, by go_num, hbl⟩
            case measure => simp [intOf]; omega
          · obtain rfl : k = gs.length := by omega
            have hgz := hg8.step hbl
            have hb5z := hb58.trans (hbl.mono hb58.size)
            have hb2z := hb28.trans (hbl.mono hb28.size)
            obtain ⟨ac, rfl, hbc, e1⟩ := HCC.out p hpN
            obtain ⟨ac', he', -, e2⟩ := HCC.out q hqN
            cases he'
            obtain ⟨ax, rfl, hbx, e3⟩ := HCX.out q hqN
            obtain ⟨ay, rfl, hby, e4⟩ := HCY.out p hpN
            have d1 := (hb2z.cell (p := ac.add p) (by rw [block_add]; exact hbc)).trans e1
            have d2 := (hb2z.cell (p := ac.add q) (by rw [block_add]; exact hbc)).trans e2
            have d3 := (hb5z.cell (p := ax.add q) (by rw [block_add]; exact hbx)).trans e3
            have d4 := (hb5z.cell (p := ay.add p) (by rw [block_add]; exact hby)).trans e4
            have hkey := HMU.out p q hpN hqN
            unfold Mut at hkey
            rw [← HRX.out q, ← HRY.out p] at hkey
            clear e1 e2 e3 e4 hg8 hb58 hb28 hb5z hb2z hk hlt
            revert d1 d2 d3 d4 hkey
            generalize cl.getD p 0 = cp
            generalize cl.getD q 0 = cq
            generalize lx.getD q false = bx
            generalize ly.getD p false = bY
            intro d1 d2 d3 d4 hkey
            cases bx with
            | false =>
              have hne : cp ≠ cq := fun e => by have := hkey.1 e; simp at this
              have hq1 : ((cp : Int) == (cq : Int)) = false := by rw [beq_eq_false_iff_ne]; omega
              have hq2 : (cp == cq) = false := by simpa using hne
              clear hkey hne
              go_upto_region 23 with fail
              go_still_tail 21, (by kernel_rfl)
              change wpList _ _ _ _ _ wr.drew
              have hgd := hgz.drew
              replace d1 : wr.drew.cell? (ac.add p) = _ := d1
              replace d2 : wr.drew.cell? (ac.add q) = _ := d2
              replace d3 : wr.drew.cell? (ax.add q) = _ := d3
              replace d4 : wr.drew.cell? (ay.add p) = _ := d4
              clear hgz
              revert d1 d2 d3 d4 hgd
              generalize wr.drew = wz
              intro hgd d1 d2 d3 d4
              go_wp2_with (go_at_call 14; refine (awake_any wz).mono ?_; rintro en w10 ⟨rfl, hw10⟩; have hg10 := hgd.step hw10)
              go_ret
              exact ⟨rfl, hg10.bel⟩
            | true =>
              cases bY with
              | false =>
                have hne : cp ≠ cq := fun e => by have := hkey.1 e; simp at this
                have hq1 : ((cp : Int) == (cq : Int)) = false := by rw [beq_eq_false_iff_ne]; omega
                have hq2 : (cp == cq) = false := by simpa using hne
                clear hkey hne
                go_upto_region 23 with fail
                go_still_tail 21, (by kernel_rfl)
                change wpList _ _ _ _ _ wr.drew
                have hgd := hgz.drew
                replace d1 : wr.drew.cell? (ac.add p) = _ := d1
                replace d2 : wr.drew.cell? (ac.add q) = _ := d2
                replace d3 : wr.drew.cell? (ax.add q) = _ := d3
                replace d4 : wr.drew.cell? (ay.add p) = _ := d4
                clear hgz
                revert d1 d2 d3 d4 hgd
                generalize wr.drew = wz
                intro hgd d1 d2 d3 d4
                go_wp2_with (go_at_call 14; refine (awake_any wz).mono ?_; rintro en w10 ⟨rfl, hw10⟩; have hg10 := hgd.step hw10)
                go_ret
                exact ⟨rfl, hg10.bel⟩
              | true =>
                have heq : cp = cq := hkey.2 ⟨rfl, rfl⟩
                subst heq
                clear hkey
                go_upto_region 23 with fail
                go_still_tail 21, (by kernel_rfl)
                change wpList _ _ _ _ _ wr.drew
                have hgd := hgz.drew
                replace d1 : wr.drew.cell? (ac.add p) = _ := d1
                replace d2 : wr.drew.cell? (ac.add q) = _ := d2
                replace d3 : wr.drew.cell? (ax.add q) = _ := d3
                replace d4 : wr.drew.cell? (ay.add p) = _ := d4
                clear hgz
                revert d1 d2 d3 d4 hgd
                generalize wr.drew = wz
                intro hgd d1 d2 d3 d4
                go_wp2_with (go_at_call 14; refine (awake_any wz).mono ?_; rintro en w10 ⟨rfl, hw10⟩; have hg10 := hgd.step hw10)
                go_ret
                exact ⟨rfl, hg10.bel⟩
  · have hgood' : (few n es && decide (chk n exit es = 0)) = false := by simpa using hgood
    rw [hgood'] at HGO
    clear hgood hgood' hes hv ha hb
    go_enter Try.func12, Try.ntmps12
    go_wp2_with (first
      | (go_at_call 28; refine (HGO.out _ hg0).mono ?_; rintro en w1 ⟨rfl, hw1⟩; have hg1 := hg0.step hw1)
      | (go_at_call 14; refine (awake_any w1).mono ?_; rintro en w2 ⟨rfl, hw2⟩; have hg2 := hg1.step hw2))
    go_ret
    exact ⟨rfl, hg2.bel⟩
end Go.Proofs.Ytngfoinceakgdaa

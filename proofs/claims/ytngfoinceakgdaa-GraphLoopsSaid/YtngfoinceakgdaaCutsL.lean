/- The law GraphCuts, walked. -/
import Derived.Test.YtngfoinceakgdaaChain
import Derived.Test.YtngfoinceakgdaaAwake
import Derived.Great.FillDense
import Derived.Great.Walk
import Derived.ProofKit
import Derived.OpenShut
namespace Go.Proofs.Ytngfoinceakgdaa
open Go.RowKit Go.Shelf

/-- The cells of a struct go into a row of the same size, one after the other. -/
theorem fold_cells (z : Array Value) (cs : List Value) (h : cs.length = z.size) : List.foldl (fun (cs : Array Value) (x : Value × Nat) => cs.setIfInBounds x.snd x.fst) z cs.zipIdx = cs.toArray := by
  obtain ⟨h1, h2⟩ := Great.foldl_set 0 cs 0 z
  simp only [Nat.zero_add] at h1 h2
  refine Array.ext_getElem? fun k => ?_
  have h3 := h2 k
  rw [h3]
  by_cases hk : k < cs.length
  · rw [if_pos ⟨Nat.zero_le _, hk, by omega⟩]; simp
  · rw [if_neg (fun h => hk h.2.1), Array.getElem?_eq_none (by omega), Array.getElem?_eq_none (by simp; omega)]

set_option maxRecDepth 100000 in
theorem built_edge (cs : List Value) (h : cs.length = 21) : Try.prog.builtSlice 58 1 [(0, .agg cs.toArray)] = some cs.toArray := by
  obtain ⟨ie, hi, hz0, hz1, -⟩ := info_parts info_edge
  unfold Program.builtSlice
  rw [hi]
  simp only [hz0]
  rw [if_neg (by rw [hz1]; omega), hz1]
  have hcs : (Value.agg cs.toArray).cells.size = 21 := by show cs.toArray.size = 21; simpa using h
  obtain ⟨r, hr, hsz, hk⟩ := Great.fill_dense (s := 21) (by omega) [.agg cs.toArray] 0 ((Array.range (1 * 21)).map (edge0.cells[· % edge0.cells.size]!)) (by intro v hv; simp at hv; subst hv; exact hcs) (by simp)
  have hr' : Instr.fill (fun i => some (i * 21, 21)) ((Array.range (1 * 21)).map (edge0.cells[· % edge0.cells.size]!)) [(0, .agg cs.toArray)] = some r := hr
  rw [hr']
  refine congrArg some (Array.ext_getElem? fun k => ?_)
  rw [hk k]
  by_cases hk21 : k < 21
  · rw [if_pos (by simp; omega)]
    have h1 : k / 21 - 0 = 0 := by omega
    have h2 : k % 21 = k := Nat.mod_eq_of_lt hk21
    rw [h1, h2]
    rfl
  · rw [if_neg (by simp; omega), Array.getElem?_eq_none (by simp; omega), Array.getElem?_eq_none (by simp; omega)]

/-- Rows of 21 cells that hold the edges E. -/
def RowsOf (rows : List (List Value)) (E : List (Nat × Nat)) : Prop := rows.length = E.length ∧
  ∀ (j : Nat) (r : List Value) (x : Nat × Nat), rows[j]? = some r → E[j]? = some x → r.length = 21 ∧ r[0]? = some (.int .i64 (x.1 : Int)) ∧ r[1]? = some (.int .i64 (x.2 : Int)) ∧ ∀ u ∈ r, u.oneCell' = true
theorem RowsOf.nil : RowsOf [] [] := ⟨rfl, fun j r x h => by simp at h⟩
theorem RowsOf.snoc {rows : List (List Value)} {E : List (Nat × Nat)} (h : RowsOf rows E) {r : List Value} {x : Nat × Nat} (h1 : r.length = 21) (h2 : r[0]? = some (.int .i64 (x.1 : Int))) (h3 : r[1]? = some (.int .i64 (x.2 : Int))) (h4 : ∀ u ∈ r, u.oneCell' = true) : RowsOf (rows ++ [r]) (E ++ [x]) := by
  refine ⟨by simp [h.1], fun j s y hs hy => ?_⟩
  by_cases hj : j < rows.length
  · rw [List.getElem?_append_left hj] at hs
    rw [List.getElem?_append_left (by rw [← h.1]; exact hj)] at hy
    exact h.2 j s y hs hy
  · have hj2 : j = rows.length := by
      have := (List.getElem?_eq_some_iff.1 hs).1
      simp at this; omega
    subst hj2
    rw [List.getElem?_append_right (Nat.le_refl _), Nat.sub_self] at hs
    rw [List.getElem?_append_right (by rw [h.1]; exact Nat.le_refl _), h.1, Nat.sub_self] at hy
    cases hs; cases hy
    exact ⟨h1, h2, h3, h4⟩
theorem RowsOf.edges {w : World} {base : Nat} {v : Value} {rows : List (List Value)} {E : List (Nat × Nat)} (h : RowsOf rows E) (ho : w.ownsRow base 58 21 v rows.length rows.flatten) : Edges w.heap.size w v (castE E) := by
  refine Edges.of_rows ho (by rw [castE_length]; exact h.1) (fun j r x hr hx => ?_)
  unfold castE at hx
  rw [List.getElem?_map, Option.map_eq_some_iff] at hx
  obtain ⟨y, hy, rfl⟩ := hx
  exact h.2 j r y hr hy
theorem RowsOf.all {rows : List (List Value)} {E : List (Nat × Nat)} (h : RowsOf rows E) : ∀ r ∈ rows, r.length = 21 := fun r hm => by
  obtain ⟨j, hj, rfl⟩ := List.mem_iff_getElem.1 hm
  have hj2 : j < E.length := by rw [← h.1]; exact hj
  exact (h.2 j _ _ (List.getElem?_eq_getElem hj) (List.getElem?_eq_getElem hj2)).1

/-- The edges that keep away from a point. -/
def lessE (v : Nat) (E : List (Nat × Nat)) : List (Nat × Nat) := E.filter fun x => x.2 != v && x.1 != v
theorem lessE_succ {v : Nat} {E : List (Nat × Nat)} {k : Nat} {x : Nat × Nat} (h : E[k]? = some x) : lessE v (E.take (k + 1)) = lessE v (E.take k) ++ if x.2 != v && x.1 != v then [x] else [] := by
  obtain ⟨hk, rfl⟩ := List.getElem?_eq_some_iff.1 h
  unfold lessE
  rw [List.take_succ_eq_append_getElem hk, List.filter_append]
  congr 1
  rw [List.filter_cons]
  rfl
theorem mem_lessE {v : Nat} {E : List (Nat × Nat)} {x : Nat × Nat} : x ∈ lessE v E ↔ x ∈ E ∧ x.2 ≠ v ∧ x.1 ≠ v := by
  unfold lessE
  rw [List.mem_filter]
  simp
theorem GOk.less {n : Nat} {exit : Int} {E : List (Nat × Nat)} (hg : GOk n exit E) (v : Nat) : GOk n exit (lessE v E) :=
  ⟨hg.n1, hg.n512, hg.x0, hg.xn, Nat.le_trans (List.length_filter_le _ _) hg.len, fun x hx => hg.lt x (mem_lessE.1 hx).1⟩
theorem less_reach {n : Nat} {exit : Int} {E : List (Nat × Nat)} (hg : GOk n exit E) {v p : Nat} (hv : v ≠ 0) : Rch (nx n (lessE v E)) (fun _ => True) 0 p ↔ Rch (nx n E) (fun q => q ≠ v) 0 p := by
  constructor
  · intro h
    have key : ∀ {a : Nat}, Rch (nx n (lessE v E)) (fun _ => True) 0 a → Rch (nx n E) (fun q => q ≠ v) 0 a := by
      intro a h
      induction h with
      | refl _ => exact .refl (Ne.symm hv)
      | @step b c _ hc _ ih =>
        have := mem_lessE.1 ((hg.less v).mem_nx.1 hc)
        exact .step ih (hg.mem_nx.2 this.1) this.2.1
    exact key h
  · intro h
    induction h with
    | refl _ => exact .refl trivial
    | @step b c hr hc hok ih => exact .step ih ((hg.less v).mem_nx.2 (mem_lessE.2 ⟨hg.mem_nx.1 hc, hok, hr.ok_right⟩)) trivial

theorem cut_key {n : Nat} {exit : Int} {E : List (Nat × Nat)} (hg : GOk n exit E) {v p : Nat} (hp : Rch (nx n E) (fun _ => True) 0 p) {bl : Bool} (hbl : bl = true ↔ Rch (nx n (lessE v E)) (fun _ => True) 0 p) : domB n E 0 p v = (!bl || (decide (p = v) || decide (v = 0))) := by
  rw [Bool.eq_iff_iff, domB_iff]
  by_cases hv : v = 0
  · subst hv
    simp only [decide_true, Bool.or_true, iff_true]
    refine ⟨hp, fun h => ?_⟩
    exact h.ok_left rfl
  · by_cases hpv : p = v
    · subst hpv
      simp only [decide_true, Bool.true_or, Bool.or_true, iff_true]
      exact ⟨hp, fun h => h.ok_right rfl⟩
    · rw [decide_eq_false hv, decide_eq_false hpv, Bool.or_false, Bool.or_false]
      have := less_reach hg (p := p) hv
      cases bl with
      | false => exact ⟨fun _ => rfl, fun _ => ⟨hp, fun h => by have := hbl.2 (this.2 h); cases this⟩⟩
      | true => exact ⟨fun h => absurd (this.1 (hbl.1 rfl)) h.2, fun h => by cases h⟩
theorem Ints.shapeN {B n : Nat} {w : World} {v : Value} {l : List Int} (h : Ints B w v l) (hl : l.length = n) : ∃ A c, v = .slice A n c ∧ ∀ j, j < n → ∃ ad, A = some ad ∧ ad.block < B ∧ w.cell? (ad.add j) = some (.int .i64 (getI l j)) := by
  obtain ⟨A, c, rfl, -, -, -, hc⟩ := h.shape
  subst hl
  refine ⟨A, c, rfl, fun j hj => ?_⟩
  obtain ⟨ad, u, rfl, hb, hcl, hu⟩ := hc j _ (List.getElem?_eq_getElem hj)
  cases hu
  exact ⟨ad, rfl, hb, by rw [hcl]; unfold getI; rw [List.getD_eq_getElem?_getD, List.getElem?_eq_getElem hj]; rfl⟩
theorem Bools.shapeN {B n : Nat} {w : World} {v : Value} {l : List Bool} (h : Bools B w v l) (hl : l.length = n) : ∃ A c, v = .slice A n c ∧ ∀ j, j < n → ∃ ad, A = some ad ∧ ad.block < B ∧ w.cell? (ad.add j) = some (.bool (l.getD j false)) := by
  obtain ⟨A, c, rfl, -, -, -, hc⟩ := h.shape
  subst hl
  refine ⟨A, c, rfl, fun j hj => ?_⟩
  obtain ⟨ad, u, rfl, hb, hcl, hu⟩ := hc j _ (List.getElem?_eq_getElem hj)
  cases hu
  exact ⟨ad, rfl, hb, by rw [hcl, List.getD_eq_getElem?_getD, List.getElem?_eq_getElem hj]; rfl⟩
theorem contains_map (ds : List Nat) (v : Nat) : (ds.map fun d : Nat => (d : Int)).contains (v : Int) = decide (v ∈ ds) := by
  rw [Bool.eq_iff_iff, List.contains_iff_mem, decide_eq_true_iff, List.mem_map]
  constructor
  · rintro ⟨d, hd, e⟩
    have : d = v := by omega
    subst this; exact hd
  · intro h; exact ⟨v, h, rfl⟩

/-- The graph that is cut. -/
structure CutS (w W : World) (n exit : Int) (v : Value) (lb : Nat) (vr : Value) (rows : List (List Value)) : Prop where
  gv : GV w W n exit v
  l : Blk W lb 24 [.int .i64 n, .int .i64 exit, vr]
  own : W.ownsRow (lb + 1) 58 21 vr rows.length rows.flatten
  lo : w.heap.size < lb
section
variable {w W W' : World} {n exit : Int} {v : Value} {lb : Nat} {vr : Value} {rows : List (List Value)}
theorem CutS.alloc (h : CutS w W n exit v lb vr rows) (o : Obj) : CutS w (W.alloc o) n exit v lb vr rows := ⟨h.gv.alloc o, h.l.alloc o, h.own.alloc o, h.lo⟩
theorem CutS.step (h : CutS w W n exit v lb vr rows) (hb : Below W.heap.size W W') : CutS w W' n exit v lb vr rows := ⟨h.gv.step hb, h.l.below hb h.l.lt, own_below h.own hb, h.lo⟩
end

set_option maxRecDepth 100000 in
set_option maxHeartbeats 4000000 in
theorem cutsL_any (w : World) (v : Value) (n exit : Int) (es : List (Int × Int)) (hv : Edges w.heap.size w v es) (a : Int) (ha : (Lit.int .u8 a).wf = true) :
    Calls Try.prog 8 #[.agg #[.int .i64 n, .int .i64 exit, v], .int .u8 a] w fun en w' => en = .returned (.bool true) ∧ Below w.heap.size w w' := by
  have hgo := fun (W : World) (h : GV w W n exit v) => good_any W v n exit es (h.edges hv)
  have hg0 := GV.start w n exit v
  obtain ⟨A, c, rfl, hlc, -, hm, hes⟩ := id hv.shape
  have HGO := Lib.hid hgo
  clear hgo
  by_cases hgood : (few n es && decide (chk n exit es = 0)) = true
  · rw [hgood] at HGO
    rw [Bool.and_eq_true, decide_eq_true_eq] at hgood
    obtain ⟨hfew, hc⟩ := hgood
    obtain ⟨N, E, rfl, rfl, hg⟩ := chk_ok hc
    have hn1 := hg.n1
    have hn512 := hg.n512
    have hlE := hg.len
    have hb8 := Go.bounds_u8 ha
    obtain ⟨an, rfl⟩ : ∃ an : Nat, a = an := ⟨a.toNat, by omega⟩
    have han : an < 256 := by omega
    obtain ⟨vv, hvv⟩ : ∃ vv, vv = an % N := ⟨_, rfl⟩
    have hvN : vv < N := by rw [hvv]; exact Nat.mod_lt _ (by omega)
    have hrem : (an : Int) % (N : Int) = (vv : Int) := by rw [hvv]; rfl
    have HREM := Lib.hid hrem
    have hlen0 : (castE E).length = E.length := castE_length E
    rw [hlen0] at hlc hm hg0 HGO hv ⊢
    have HE := Lib.hid (Edges.nat hes)
    have hd1 := fun (W : World) (h : GV w W N exit (.slice A E.length c)) => dom_sem W.heap.size W _ (h.edges hv) (Nat.le_refl _) hg
    have hr1 := fun (W : World) (h : GV w W N exit (.slice A E.length c)) => reach_sem W.heap.size W _ (h.edges hv) (Nat.le_refl _) hg 0 hn1
    have hr2 := fun (W : World) (vr : Value) (h : Edges W.heap.size W vr (castE (lessE vv E))) => reach_sem W.heap.size W vr h (Nat.le_refl _) (hg.less vv) 0 hn1
    have HD1 := Lib.hid hd1
    have HR1 := Lib.hid hr1
    have HR2 := Lib.hid hr2
    obtain ⟨ie, hi, hz0, hz1, hz2⟩ := info_parts info_edge
    have hnn : (0 : Int) < (N : Int) := by omega
    have HG := Lib.hid hg
    have hvN1 : (vv : Int) < (N : Int) := by omega
    clear hd1 hr1 hr2 hv hes hrem hvv hlen0 hfew hc hb8 ha hg
    go_enter Try.func8, Try.ntmps8
    go_upto_region 4 with (go_at_call 28; refine (HGO.out _ hg0).mono ?_; rintro en w1 ⟨rfl, hw1⟩; have hg1 := hg0.step hw1; obtain ⟨c0, c1, c2⟩ := hg1.cells)
    rw [HREM.out]
    clear HREM han
    have hcs : CutS w (w1.alloc (.cells #[.int .i64 (N : Int), .int .i64 exit, .slice none 0 0] 24)) N exit (.slice A E.length c) w1.heap.size (.slice none 0 0) [] :=
      ⟨hg1.alloc _, Blk.newAt w1 24 #[.int .i64 (N : Int), .int .i64 exit, nil0] rfl, World.ownsRow_nil _ _ _ _, by have := hg1.g.lt; omega⟩
    clear hg1 hg0 hw1
    obtain ⟨d0, d1, d2⟩ := hcs.gv.cells
    go_wp2
    clear c0 c1 c2 d0 d1 d2
    revert hcs
    generalize w1.alloc (.cells #[.int .i64 (N : Int), .int .i64 exit, .slice none 0 0] 24) = w2
    generalize w1.heap.size = lb
    intro hcs
    go_loopw [36] (fun y wr => ∃ (k : Nat) (vr : Value) (rows : List (List Value)), k ≤ E.length ∧ y = .int .i64 k ∧ RowsOf rows (lessE vv (E.take k)) ∧ CutS w wr N exit (.slice A E.length c) lb vr rows) (fun y _ => E.length - (intOf y).toNat)
    case atStart => exact ⟨0, .slice none 0 0, [], Nat.zero_le _, rfl, RowsOf.nil, hcs⟩
    case round =>
      obtain ⟨k, vr, rows, hk, rfl, hrw, hp⟩ := hrel
      clear hcs
      by_cases hlt : k < E.length
      · have hlt1 : (k : Int) < (E.length : Int) := by omega
        have hek : E[k]? = some E[k] := List.getElem?_eq_getElem hlt
        have hls := lessE_succ (v := vv) hek
        revert hek hls
        generalize E[k] = x
        intro hek hls
        obtain ⟨f, t⟩ := x
        obtain ⟨ad, cs, rfl, hab, hcl, hcc, hc0, hc1, hone⟩ := HE.out k _ hek
        have hcr : ∀ j v, cs[j]? = some v → wr.cell? ((ad.add (k * 21)).add j) = some v := fun j v hj => (hp.gv.bel.cell (by rw [block_add, block_add]; omega)).trans (hcc j v hj)
        have hpa := hp.alloc (.cells cs.toArray 58)
        have hbe := Blk.new wr 58 cs
        have hcr2 : ∀ j v, cs[j]? = some v → (wr.alloc (.cells cs.toArray 58)).cell? ((⟨wr.heap.size, 0, none⟩ : Addr).add j) = some v := fun j v hj => by rw [add_none]; exact hbe.cellAt hj
        have c2 := hp.gv.g.cellAt (i := 2) rfl
        have HC := Lib.hid hcr
        have HC2 := Lib.hid hcr2
        have HL := Lib.hid hcl
        have H1 := Lib.hid hone
        have HLS := Lib.hid hls
        have H0 := Lib.hid hc0
        have HT1 := Lib.hid hc1
        clear hcc hcr hcr2 hcl hone hek hls hbe hp
        by_cases htv : t = vv
        · have hres : lessE vv (E.take (k + 1)) = lessE vv (E.take k) := by rw [HLS.out]; simp [htv]
          have HRS := Lib.hid hres
          clear hres
          subst htv
          go_wp2_with (first
            | ((with_reducible show wpList _ _ _ (⟨some 39, .load 58 (.tmp 38), _, _, _, _⟩ :: _) _ _); refine wpList_load_list rfl _ _ rfl (ad.add (k * 21)) rfl cs _ HC.out Try.underlying58 rfl (by rw [HL.out]; exact size_edge) ?_)
            | ((with_reducible show wpList _ _ _ (⟨none, .store 58 (.tmp 8) (.tmp 39), _, _, _, _⟩ :: _) _ _); refine wpList_store_new rfl _ _ _ rfl _ _ cs rfl rfl (by rw [HL.out]; exact size_edge) (by rw [HL.out]; rfl) H1.out ?_))
          go_roundw
          case rel => exact ⟨k + 1, vr, rows, by omega, by go_num, by rw [HRS.out]; exact hrw, hpa⟩
          case measure => simp [intOf]; omega
        · have ht1 : ((t : Int) != (vv : Int)) = true := by rw [bne_iff_ne]; omega
          have ht2 : ((t : Int) == (vv : Int)) = false := by rw [beq_eq_false_iff_ne]; omega
          have ht3 : (t != vv) = true := by simpa using htv
          have ht4 : (t == vv) = false := by simpa using htv
          by_cases hfv : f = vv
          · have hres : lessE vv (E.take (k + 1)) = lessE vv (E.take k) := by rw [HLS.out]; simp [hfv]
            have HRS := Lib.hid hres
            clear hres htv
            subst hfv
            go_wp2_with (first
              | ((with_reducible show wpList _ _ _ (⟨some 39, .load 58 (.tmp 38), _, _, _, _⟩ :: _) _ _); refine wpList_load_list rfl _ _ rfl (ad.add (k * 21)) rfl cs _ HC.out Try.underlying58 rfl (by rw [HL.out]; exact size_edge) ?_)
              | ((with_reducible show wpList _ _ _ (⟨none, .store 58 (.tmp 8) (.tmp 39), _, _, _, _⟩ :: _) _ _); refine wpList_store_new rfl _ _ _ rfl _ _ cs rfl rfl (by rw [HL.out]; exact size_edge) (by rw [HL.out]; rfl) H1.out ?_))
            go_roundw
            case rel => exact ⟨k + 1, vr, rows, by omega, by go_num, by rw [HRS.out]; exact hrw, hpa⟩
            case measure => simp [intOf]; omega
          · have hf1 : ((f : Int) != (vv : Int)) = true := by rw [bne_iff_ne]; omega
            have hf2 : ((f : Int) == (vv : Int)) = false := by rw [beq_eq_false_iff_ne]; omega
            have hf3 : (f != vv) = true := by simpa using hfv
            have hf4 : (f == vv) = false := by simpa using hfv
            have hres : lessE vv (E.take (k + 1)) = lessE vv (E.take k) ++ [(f, t)] := by rw [HLS.out]; simp [htv, hfv]
            have hrows : RowsOf (rows ++ [cs]) (lessE vv (E.take (k + 1))) := by rw [hres]; exact hrw.snoc HL.out H0.out HT1.out H1.out
            have hrl : rows.length ≤ 1024 := by
              have h1 := hrw.1
              have h2 : (lessE vv (E.take k)).length ≤ (E.take k).length := List.length_filter_le _ _
              rw [List.length_take] at h2
              omega
            have hbt := built_edge cs HL.out
            have HBT := Lib.hid hbt
            have hpb := hpa.alloc (.cells cs.toArray 58)
            have hnb := Blk.newAt (N := wr.heap.size + 1) (wr.alloc (.cells cs.toArray 58)) 58 cs.toArray (by rw [World.size_alloc])
            have hO := hpb.own
            have hlc2 := hpa.l.cellAt (i := 2) rfl
            have hsz2 : lb + 1 ≤ ((wr.alloc (.cells cs.toArray 58)).alloc (.cells cs.toArray 58)).heap.size := hpb.l.lt
            have HROWS := Lib.hid hrows
            clear hres hrows htv hfv hbt
            go_wp2_with (first
              | ((with_reducible show wpList _ _ _ (⟨some 39, .load 58 (.tmp 38), _, _, _, _⟩ :: _) _ _); refine wpList_load_list rfl _ _ rfl (ad.add (k * 21)) rfl cs _ HC.out Try.underlying58 rfl (by rw [HL.out]; exact size_edge) ?_)
              | ((with_reducible show wpList _ _ _ (⟨none, .store 58 (.tmp 8) (.tmp 39), _, _, _, _⟩ :: _) _ _); refine wpList_store_new rfl _ _ _ rfl _ _ cs rfl rfl (by rw [HL.out]; exact size_edge) (by rw [HL.out]; rfl) H1.out ?_)
              | ((with_reducible show wpList _ _ _ (⟨some 52, .load 58 (.tmp 8), _, _, _, _⟩ :: _) _ _); refine wpList_load_list rfl _ _ rfl ⟨wr.heap.size, 0, none⟩ rfl cs _ HC2.out Try.underlying58 rfl (by rw [HL.out]; exact size_edge) ?_)
              | ((with_reducible show wpList _ _ _ (⟨some 53, .buildSlice 22 1 _, _, _, _, _⟩ :: _) _ _); refine Great.wpList_buildSliceTo rfl 22 58 1 _ rfl (wr.heap.size + 1) ?ca (some 53) rfl Try.underlying22 cs.toArray ?cb ?_)
              | (at_builtin; refine wpList_append_own_at _ rfl (.tmp 51) (.tmp 53) 22 rfl (lb + 1) 58 ie edge0 21 280 Try.underlying22 hi hz0 hz1 hz2 rfl (by decide) vr rows.length rows.flatten rfl hO ⟨wr.heap.size + 1, 0, none⟩ 1 1 cs rfl (by rw [HL.out]) ?c1 ?c2 ?c3 ?c4 hsz2 ?_))
            case cb =>
              go_simp
              exact HBT.out
            case c2 => exact H1.out
            case c3 => simp only [maxLen]; omega
            case c4 => omega
            intro v' w3 hown' hgrow _ _
            have hG := hpb.gv.g.keptOwn hgrow hO (by decide)
            have hL := hpb.l.keptOwn hgrow hO (by decide)
            have hlo := hpb.lo
            have hbx : Below w.heap.size w w3 := hpb.gv.bel.grown hgrow (by omega) (fun j hj => by have := (hO.lt j hj).1; omega)
            have d2 := hL.cellAt (i := 2) rfl
            have f2 := hL.frozen 2
            obtain ⟨g, cap, rfl⟩ := ownsRow_succ hown'
            have hfin : CutS w (w3.setCell ⟨lb, 2, none⟩ (.slice (some ⟨g, 0, none⟩) (rows.length + 1) cap)) N exit (.slice (some ad) E.length c) lb (.slice (some ⟨g, 0, none⟩) (rows.length + 1) cap) (rows ++ [cs]) := by
              refine ⟨⟨hG.far (by show w.heap.size ≠ lb; omega) _, hbx.setCell (by show w.heap.size ≤ lb; omega) _⟩, hL.set 2 _, ?_, hlo⟩
              have h := ownsRow_setCell_below (a := ⟨lb, 2, none⟩) hown' (by show lb < _; omega) (.slice (some ⟨g, 0, none⟩) (rows.length + 1) cap)
              rw [List.length_append, List.flatten_append]
              simpa using h
            have HFIN := Lib.hid hfin
            clear hG hL hbx hfin hown' hgrow hO hnb hpb hpa hlc2
            go_wp2
            go_roundw
            case rel => exact ⟨k + 1, _, rows ++ [cs], by omega, by go_num, HROWS.out, HFIN.out⟩
            case measure => simp [intOf]; omega
      · obtain rfl : k = E.length := by omega
        rw [List.take_length] at hrw
        have hvr := hrw.edges hp.own
        obtain ⟨c0, c1, c2⟩ := hp.gv.cells
        clear hi hz0 hz1 hz2 hrw hk hlt HE
        go_upto_region 12 with (go_at_call 18; refine (HD1.out _ hp.gv).mono ?_; rintro en w5 ⟨vd, res, rfl, hvd, hid, hw5⟩)
        have hp5 := hp.step hw5
        have hvr5 := (hvr.below hw5).more hw5.size
        clear c0 c1 c2 hp hvr
        obtain ⟨c0, c1, c2⟩ := hp5.gv.cells
        go_upto_region 13 with (go_at_call 31; refine (HR1.out _ hp5.gv).mono ?_; rintro en w6 ⟨va, la, rfl, hva, hla, hall, hw6⟩)
        have hp6 := hp5.step hw6
        have hvr6 := (hvr5.below hw6).more hw6.size
        have hvd6 := (Ints.below hvd hw6).more hw6.size
        clear c0 c1 c2 hp5 hvr5 hvd
        have l0 := hp6.l.cellAt (i := 0) rfl
        have l1 := hp6.l.cellAt (i := 1) rfl
        have l2 := hp6.l.cellAt (i := 2) rfl
        go_upto_region 14 with (go_at_call 31; refine (HR2.out _ vr hvr6).mono ?_; rintro en w7 ⟨vl, ll, rfl, hvl, hll, hleft, hw7⟩)
        have hp7 := hp6.step hw7
        have hvd7 := (Ints.below hvd6 hw7).more hw7.size
        have hva7 := (Bools.below hva hw7).more hw7.size
        clear l0 l1 l2 hp6 hvr6 hvd6 hva
        obtain ⟨c0, c1, c2⟩ := hp7.gv.cells
        obtain ⟨Ad, cd, rfl, hcd⟩ := Ints.shapeN hvd7 hid.len
        obtain ⟨Aa, ca, rfl, hca⟩ := Bools.shapeN hva7 hla
        obtain ⟨Al, cl, rfl, hcl⟩ := Bools.shapeN hvl hll
        have hgv := hp7.gv
        have hch := fun (W : World) (hb : Below w7.heap.size w7 W) (p : Nat) => chain_any W.heap.size W _ res (p : Int) ((Ints.below hvd7 hb).more hb.size) (Nat.le_refl _) (by rw [hid.len]; omega)
        have hcs := chain_spec hid HG.out.next_lt hn1 (D := domB N E 0) (fun _ _ => domB_iff)
        have hkey : ∀ p, Rch (nx N E) (fun _ => True) 0 p → ∃ ds : List Nat, chainF res (res.length + 1) [] (p : Int) = (ds.map (fun d : Nat => (d : Int)), true) ∧ (ds.map fun d : Nat => (d : Int)).contains (vv : Int) = (!ll.getD p false || (decide (p = vv) || decide (vv = 0))) := fun p hpr => by
          obtain ⟨ds, h1, h2⟩ := hcs (res.length + 1) p [] hpr (by have := cntD_le N (domB N E 0) p; rw [hid.len]; omega)
          refine ⟨ds, by simpa using h1, ?_⟩
          rw [contains_map, ← cut_key HG.out hpr (hleft p), Bool.eq_iff_iff, decide_eq_true_iff]
          exact h2 vv
        have hno : ∀ p, la.getD p false = false → getI res p = -1 := fun p hp => hid.no p fun h => by rw [(hall p).2 h] at hp; cases hp
        have HCD := Lib.hid hcd
        have HCA := Lib.hid hca
        have HCL := Lib.hid hcl
        have HCH := Lib.hid hch
        have HKEY := Lib.hid hkey
        have HNO := Lib.hid hno
        have HALL := Lib.hid hall
        clear hcd hca hcl hch hcs hkey hno hall hleft hid hla hll hp7 hvd7 hva7 hvl HR1 HR2 HD1 hw5 hw6 hw7
        go_wp2
        clear c0 c1 c2
        go_loopw [101] (fun y wr => ∃ p : Nat, p ≤ N ∧ y = .int .i64 p ∧ Below w7.heap.size w7 wr) (fun y _ => N - (intOf y).toNat)
        case atStart => exact ⟨0, Nat.zero_le _, rfl, Below.refl _ _⟩
        case round =>
          obtain ⟨p, hpN, rfl, hbl⟩ := hrel
          by_cases hpn : p < N
          · have hpn1 : (p : Int) < (N : Int) := by omega
            obtain ⟨ad1, rfl, hb1, e1⟩ := HCD.out p hpn
            obtain ⟨ad2, rfl, hb2, e2⟩ := HCA.out p hpn
            obtain ⟨ad3, rfl, hb3, e3⟩ := HCL.out p hpn
            have d1 := (hbl.cell (p := ad1.add p) (by rw [block_add]; exact hb1)).trans e1
            have d2 := (hbl.cell (p := ad2.add p) (by rw [block_add]; exact hb2)).trans e2
            clear e1 e2
            cases hla : la.getD p false with
            | false =>
              rw [hla] at d2
              rw [HNO.out p hla] at d1
              clear hla
              go_wp2
              go_roundw
              case rel => exact ⟨p + 1, by omega, by go_num, hbl⟩
              case measure => simp [intOf]; omega
            | true =>
              rw [hla] at d2
              obtain ⟨ds, hc1, hc2⟩ := HKEY.out p ((HALL.out p).1 hla)
              have hch := HCH.out wr hbl p
              rw [hc1] at hch
              have HC3 := Lib.hid hch
              have HB3 := Lib.hid hb3
              have HE3 := Lib.hid e3
              clear hla hc1 hch hb3 e3
              revert hc2 HE3
              generalize ll.getD p false = bl
              intro hc2 HE3
              cases bl with
              | false =>
                have hc2' : (ds.map fun d : Nat => (d : Int)).contains (vv : Int) = true := by rw [hc2]; rfl
                replace hc2 := hc2'
                clear hc2'
                have HC4 := Lib.hid hc2
                clear hc2
                go_wp2_with (first
                  | (go_at_call 33; refine HC3.out.mono ?_; rintro en w8 ⟨vo, rfl, hvo, hw8⟩; have hb8 := hbl.trans (hw8.mono hbl.size); have e3 := (hb8.cell (p := ad3.add p) (by rw [block_add]; exact HB3.out)).trans HE3.out)
                  | (go_at_call 34; refine (contains_any w8.heap.size w8 vo _ (vv : Int) hvo).mono ?_; rintro en w9 ⟨rfl, hw9⟩; have hb9 := hb8.trans (hw9.below hb8.size (fun _ _ f => f)); rw [HC4.out]))
                go_roundw
                case rel => exact ⟨p + 1, by omega, by go_num, hb9⟩
                case measure => simp [intOf]; omega
              | true =>
                by_cases hpv : p = vv
                · have hc2' : (ds.map fun d : Nat => (d : Int)).contains (vv : Int) = true := by rw [hc2, decide_eq_true hpv]; rfl
                  replace hc2 := hc2'
                  clear hc2'
                  have hpv1 : ((p : Int) == (vv : Int)) = true := by rw [beq_iff_eq]; omega
                  clear hpv
                  have HC4 := Lib.hid hc2
                  clear hc2
                  go_wp2_with (first
                    | (go_at_call 33; refine HC3.out.mono ?_; rintro en w8 ⟨vo, rfl, hvo, hw8⟩; have hb8 := hbl.trans (hw8.mono hbl.size); have e3 := (hb8.cell (p := ad3.add p) (by rw [block_add]; exact HB3.out)).trans HE3.out)
                    | (go_at_call 34; refine (contains_any w8.heap.size w8 vo _ (vv : Int) hvo).mono ?_; rintro en w9 ⟨rfl, hw9⟩; have hb9 := hb8.trans (hw9.below hb8.size (fun _ _ f => f)); rw [HC4.out]))
                  go_roundw
                  case rel => exact ⟨p + 1, by omega, by go_num, hb9⟩
                  case measure => simp [intOf]; omega
                · have hpv1 : ((p : Int) == (vv : Int)) = false := by rw [beq_eq_false_iff_ne]; omega
                  have hpv2 : (p == vv) = false := by simpa using hpv
                  by_cases hv0 : vv = 0
                  · have hc2' : (ds.map fun d : Nat => (d : Int)).contains (vv : Int) = true := by rw [hc2, decide_eq_true hv0]; simp
                    replace hc2 := hc2'
                    clear hc2'
                    have hv01 : ((vv : Int) == 0) = true := by simpa using hv0
                    clear hv0 hpv
                    have HC4 := Lib.hid hc2
                    clear hc2
                    go_wp2_with (first
                      | (go_at_call 33; refine HC3.out.mono ?_; rintro en w8 ⟨vo, rfl, hvo, hw8⟩; have hb8 := hbl.trans (hw8.mono hbl.size); have e3 := (hb8.cell (p := ad3.add p) (by rw [block_add]; exact HB3.out)).trans HE3.out)
                      | (go_at_call 34; refine (contains_any w8.heap.size w8 vo _ (vv : Int) hvo).mono ?_; rintro en w9 ⟨rfl, hw9⟩; have hb9 := hb8.trans (hw9.below hb8.size (fun _ _ f => f)); rw [HC4.out]))
                    go_roundw
                    case rel => exact ⟨p + 1, by omega, by go_num, hb9⟩
                    case measure => simp [intOf]; omega
                  · have hc2' : (ds.map fun d : Nat => (d : Int)).contains (vv : Int) = false := by rw [hc2, decide_eq_false hpv, decide_eq_false hv0]; rfl
                    replace hc2 := hc2'
                    clear hc2'
                    have hv01 : ((vv : Int) == 0) = false := by simpa using hv0
                    have hv02 : (vv == 0) = false := by simpa using hv0
                    clear hv0 hpv
                    have HC4 := Lib.hid hc2
                    clear hc2
                    go_wp2_with (first
                      | (go_at_call 33; refine HC3.out.mono ?_; rintro en w8 ⟨vo, rfl, hvo, hw8⟩; have hb8 := hbl.trans (hw8.mono hbl.size); have e3 := (hb8.cell (p := ad3.add p) (by rw [block_add]; exact HB3.out)).trans HE3.out)
                      | (go_at_call 34; refine (contains_any w8.heap.size w8 vo _ (vv : Int) hvo).mono ?_; rintro en w9 ⟨rfl, hw9⟩; have hb9 := hb8.trans (hw9.below hb8.size (fun _ _ f => f)); rw [HC4.out]))
                    go_roundw
                    case rel => exact ⟨p + 1, by omega, by go_num, hb9⟩
                    case measure => simp [intOf]; omega
          · obtain rfl : p = N := by omega
            have hga := hgv.step hbl
            go_wp2_with (go_at_call 14; refine (awake_any wr).mono ?_; rintro en w8 ⟨rfl, hw8⟩; have hg8 := hga.step hw8)
            go_ret
            exact ⟨rfl, hg8.bel⟩
  · have hgood' : (few n es && decide (chk n exit es = 0)) = false := by simpa using hgood
    rw [hgood'] at HGO
    clear hgood hgood' hes hv
    go_enter Try.func8, Try.ntmps8
    go_wp2_with (first
      | (go_at_call 28; refine (HGO.out _ hg0).mono ?_; rintro en w1 ⟨rfl, hw1⟩; have hg1 := hg0.step hw1)
      | (go_at_call 14; refine (awake_any w1).mono ?_; rintro en w2 ⟨rfl, hw2⟩; have hg2 := hg1.step hw2))
    go_ret
    exact ⟨rfl, hg2.bel⟩
end Go.Proofs.Ytngfoinceakgdaa

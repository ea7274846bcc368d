/- The laws' helper awake: its graph, its plain values, its walk. -/
import Derived.Test.YthaampinmelgaaaGreatDoorReached
import Derived.Test.YthaampinmelgaaaGreatDoorERows
import Derived.Test.YthaampinmelgaaaGreatDoorFront
import Derived.RangeFuncBox
import Derived.Test.YthaampinmelgaaaGreatDoorParse
import Derived.Test.YthaampinmelgaaaGreatDoorFormat
import Derived.Test.YthaampinmelgaaaGreatDoorCheckW
import Derived.Test.YthaampinmelgaaaGreatDoorWithin
import Derived.Test.YthaampinmelgaaaGreatDoorWtoV
import Derived.Test.YthaampinmelgaaaGreatDoorOrder
import Derived.Test.YthaampinmelgaaaGreatDoorOut
import Derived.Test.YthaampinmelgaaaGreatDoorEq
/-! The laws' shape: a graph out of pairs of numbers. -/
namespace Go.Proofs.YthaampinmelgaaaGreatDoor
open Go.RowKit Go.Shelf

/-- The graph that is being built. -/
structure SHP (w W : World) (n : Nat) (exit : Int) (vr : Value) (E : List (Nat × Nat)) : Prop where
  r : Blk W w.heap.size 24 [int0, int0, nil0]
  o : Blk W (w.heap.size + 1) 24 [.int .i64 (n : Int), .int .i64 exit, vr]
  own : W.ownsRow (w.heap.size + 1 + 1) 61 21 vr E.length (E.map edgeRow).flatten
  bel : Below w.heap.size w W
  sz : w.heap.size + 1 + 1 ≤ W.heap.size
theorem SHP.drew {w W : World} {n : Nat} {exit : Int} {vr : Value} {E : List (Nat × Nat)} (h : SHP w W n exit vr E) : SHP w W.drew n exit vr E := ⟨h.r, h.o, h.own, h.bel.drew, h.sz⟩
theorem SHP.alloc {w W : World} {n : Nat} {exit : Int} {vr : Value} {E : List (Nat × Nat)} (h : SHP w W n exit vr E) (x : Obj) : SHP w (W.alloc x) n exit vr E := ⟨h.r.alloc _, h.o.alloc _, h.own.alloc _, h.bel.alloc h.bel.size _, by rw [World.size_alloc]; have := h.sz; omega⟩

set_option maxRecDepth 100000 in
set_option maxHeartbeats 8000000 in
theorem shape_any (w : World) (n : Nat) (c : Nat) (ad : Addr) (E : List (Nat × Nat)) (hn1 : 1 ≤ n) (hn2 : n ≤ 512) (had : ad.block < w.heap.size) (hlE : E.length ≤ 1024)
    (hcs : ∀ k x, E[k]? = some x → w.cell? (ad.add (k * 2)) = some (.int .i64 (x.1 : Int)) ∧ w.cell? ((ad.add (k * 2)).add 1) = some (.int .i64 (x.2 : Int))) :
    Calls Tryz.prog 12 #[.int .i64 (n : Int), .slice (some ad) E.length c] w fun en w' => ∃ v', en = .returned (.agg #[.int .i64 (n : Int), .int .i64 ((n : Int) - 1), v']) ∧ Edges w'.heap.size w' v' (castE E) ∧ Below w.heap.size w w' := by
  have HE := Lib.hid hcs
  obtain ⟨ie, hi, hz0, hz1, hz2⟩ := info_parts info_edge
  have hn3 : (1 : Int) ≤ (n : Int) := by omega
  have hn4 : (n : Int) ≤ 512 := by omega
  clear hcs hn1 hn2
  go_enter Tryz.func12, Tryz.ntmps12
  go_wp2
  clear hn3 hn4
  obtain ⟨exit, hex⟩ : ∃ e : Int, (n : Int) - 1 = e := ⟨_, rfl⟩
  rw [hex]
  have HEX := Lib.hid hex
  clear hex
  go_loopw [14] (fun y wr => ∃ (k : Nat) (vr : Value), k ≤ E.length ∧ y = .int .i64 k ∧ SHP w wr n exit vr (E.take k)) (fun y _ => E.length - (intOf y).toNat)
  case atStart =>
    refine ⟨0, nil0, Nat.zero_le _, rfl, (Blk.newAt w 24 #[int0, int0, nil0] (by simp)).alloc _, Blk.newAt _ 24 #[.int .i64 (n : Int), .int .i64 exit, nil0] (by simp), World.ownsRow_nil _ _ _ _, ((Below.refl _ _).alloc (Nat.le_refl _) _).alloc (by simp) _, by simp⟩
  case round =>
    obtain ⟨k, vr, hk, rfl, hp⟩ := hrel
    by_cases hlt : k < E.length
    · have hlt1 : (k : Int) < (E.length : Int) := by omega
      have hek : E[k]? = some E[k] := List.getElem?_eq_getElem hlt
      have hps : E.take (k + 1) = E.take k ++ [E[k]] := List.take_succ_eq_append_getElem hlt
      have hpl : (E.take k).length = k := by simp; omega
      revert hek hps
      generalize E[k] = x
      intro hek hps
      obtain ⟨f, t⟩ := x
      obtain ⟨c0, c1⟩ := HE.out k _ hek
      have g0 := (hp.bel.cell (p := ad.add (k * 2)) (by rw [block_add]; exact had)).trans c0
      have g1 := (hp.bel.cell (p := (ad.add (k * 2)).add 1) (by rw [block_add, block_add]; exact had)).trans c1
      rw [addrOne] at g1
      have HPS := Lib.hid hps
      have HPL := Lib.hid hpl
      have HP := Lib.hid hp
      clear hps hpl hek c0 c1 hp
      go_upto_region 5 with fail
      have hm0 := HP.out.alloc (.cells #[.int .i64 (f : Int), .int .i64 (t : Int)] 40)
      have hbp := Blk.newAt wr 40 #[.int .i64 (f : Int), .int .i64 (t : Int)] rfl
      have q0 := hbp.cellAt (i := 0) rfl
      have q1 := hbp.cellAt (i := 1) rfl
      have q2 := hm0.o.cellAt (i := 2) rfl
      have hm1 := hm0.alloc (.cells (edgeRow (f, t)).toArray 61)
      have hb1 := Blk.new (wr.alloc (.cells #[.int .i64 (f : Int), .int .i64 (t : Int)] 40)) 61 (edgeRow (f, t))
      have hO := hm1.own
      rw [HPL.out] at hO
      have hsz := hm1.sz
      have HM1 := Lib.hid hm1
      have HB1 := Lib.hid hb1
      have HO := Lib.hid hO
      have HSZ := Lib.hid hsz
      clear hm0 hbp hm1 hb1 hO hsz
      go_wp2_with (at_builtin; refine wpList_append_own_at _ rfl (.tmp 19) (.tmp 25) 22 rfl (w.heap.size + 1 + 1) 61 ie edge0 21 280 Tryz.underlying22 hi hz0 hz1 hz2 rfl (by decide) vr k _ rfl HO.out ⟨_, 0, none⟩ 1 1 (edgeRow (f, t)) rfl rfl ?c1 ?c2 ?c3 ?c4 ?c5 ?_)
      case c1 =>
        intro j u hj
        exact hj
      case c2 => exact edgeRow_one _
      case c3 => simp only [maxLen]; omega
      case c4 => omega
      case c5 => have := HP.out.sz; omega
      intro v' w' hown' hgrow _ _
      have hm1 := HM1.out
      have hO := HO.out
      have hsz := HSZ.out
      obtain ⟨g, cap, rfl⟩ := ownsRow_succ hown'
      have hR := hm1.r.keptOwn hgrow hO (by decide)
      have hA := hm1.o.keptOwn hgrow hO (by decide)
      have d2 := hA.cellAt (i := 2) rfl
      have f2 := hA.frozen 2
      have hS := hA.set 2 (.slice (some ⟨g, 0, none⟩) (k + 1) cap)
      have hSo := ownsRow_setCell_below (a := ⟨w.heap.size + 1, 2, none⟩) hown' (by show w.heap.size + 1 < _; omega) (.slice (some ⟨g, 0, none⟩) (k + 1) cap)
      have hgs : w.heap.size + 1 + 1 ≤ w'.heap.size := Nat.le_trans hsz hgrow.size
      have hbx : Below w.heap.size w w' := hm1.bel.grown hgrow (by omega) (fun j hj => by have := (hO.lt j hj).1; omega)
      have hby := hbx.setCell (p := ⟨w.heap.size + 1, 2, none⟩) (by simp) (.slice (some ⟨g, 0, none⟩) (k + 1) cap)
      have hsz2 : w.heap.size + 1 + 1 ≤ w'.heap.size := hgs
      have hfin : SHP w (w'.setCell ⟨w.heap.size + 1, 2, none⟩ (.slice (some ⟨g, 0, none⟩) (k + 1) cap)) n exit (.slice (some ⟨g, 0, none⟩) (k + 1) cap) (E.take (k + 1)) := by
        refine ⟨hR.far (by show w.heap.size ≠ w.heap.size + 1; omega) _, hS, ?_, hby, by rw [World.size_setCell]; exact hsz2⟩
        rw [HPS.out, List.length_append, HPL.out, List.map_append, List.flatten_append]
        simpa using hSo
      have HFIN := Lib.hid hfin
      clear hR hA hS hSo hbx hby hfin hown' hgrow hO hm1 HB1 HM1 HO q0 q1 q2
      go_wp2
      go_roundw
      case rel => exact ⟨k + 1, _, by omega, by go_num, HFIN.out⟩
      case measure => simp [intOf]; omega
    · obtain rfl : k = E.length := by omega
      have o0 : wr.cell? ⟨w.heap.size + 1, 0, none⟩ = some (.int .i64 (n : Int)) := hp.o.cellAt rfl
      have o1 : wr.cell? ⟨w.heap.size + 1, 1, none⟩ = some (.int .i64 exit) := hp.o.cellAt rfl
      have o2 : wr.cell? ⟨w.heap.size + 1, 2, none⟩ = some vr := hp.o.cellAt rfl
      have r0 := hp.r.cellAt (i := 0) rfl
      have r1 := hp.r.cellAt (i := 1) rfl
      have r2 := hp.r.cellAt (i := 2) rfl
      have f0 := hp.r.frozen 0
      have f1 := hp.r.frozen 1
      have f2 := hp.r.frozen 2
      have hown := hp.own
      have hR := hp.r
      have hbel := hp.bel
      rw [List.take_length] at hown
      clear hp
      obtain ⟨Av, nv, cv, rfl⟩ : ∃ Av nv cv, vr = .slice Av nv cv := by
        obtain ⟨A, c, h, -⟩ := (Edges.of_edgeRows hown).shape
        exact ⟨_, _, _, h⟩
      go_wp2
      have hz := ((hR.set 0 (.int .i64 (n : Int))).set 1 (.int .i64 exit)).set 2 (.slice Av nv cv)
      have k0 := hz.cellAt (i := 0) rfl
      have k1 := hz.cellAt (i := 1) rfl
      have k2 := hz.cellAt (i := 2) rfl
      refine bodyPost_ret (v := .agg #[.int .i64 (n : Int), .int .i64 exit, .slice Av nv cv]) ?_ rfl ⟨.slice Av nv cv, by rw [HEX.out], ?_, ?_⟩
      · simp [results, Tryz.results12, go_sem, k0, k1, k2]
      · exact Edges.of_edgeRows (ownsRow_setCell_below (ownsRow_setCell_below (ownsRow_setCell_below hown (by show w.heap.size < _; omega) _) (by show w.heap.size < _; omega) _) (by show w.heap.size < _; omega) _)
      · exact ((hbel.setCell (by simp) _).setCell (by simp) _).setCell (by simp) _
end Go.Proofs.YthaampinmelgaaaGreatDoor

/-! Package wto: the example of the laws' helper, plain. No program here but words of the walks. -/
namespace Go.Proofs.YthaampinmelgaaaGreatDoor
open Go.RowKit

def ew : List (Nat × Nat) := [(0, 1), (1, 2), (2, 1), (2, 3), (1, 4), (3, 3)]
def lw : List El := [.mk 0 false [], .mk 1 true [.mk 2 false []], .mk 4 false [], .mk 3 true []]
def lw1 : List El := [.mk 0 false [], .mk 1 false [], .mk 2 false [], .mk 4 false [], .mk 3 true []]
def lw2 : List El := [.mk 0 false [], .mk 1 true [.mk 2 false []], .mk 3 true []]
def tw1 : ByteArray := ⟨#[48, 32, 49, 32, 50, 32, 52, 32, 40, 51, 41]⟩
def tw2 : ByteArray := ⟨#[48, 32, 40, 49, 32, 50, 41, 32, 40, 51, 41]⟩
theorem ew_visit : (visitV ew 20 ⟨List.replicate 5 0, [], 0⟩ [] 0).map (fun r => r.2.1) = some lw := by kernel_rfl
theorem ew_parse1 : parseL tw1 70 12 0 [] = .ok lw1 := by kernel_rfl
theorem ew_parse2 : parseL tw2 70 12 0 [] = .ok lw2 := by kernel_rfl
theorem ew_ins : insL lw 2 = some [1] := by kernel_rfl
theorem ew_chk : chkV 5 ew [true, true, true, true, true] lw = 0 := by kernel_rfl
theorem ew_chk1 : chkV 5 ew [true, true, true, true, true] lw1 = 14 := by kernel_rfl
theorem ew_chk2 : chkV 5 ew [true, true, true, true, true] lw2 = 20 := by kernel_rfl
theorem dig1 (u : Nat) (h : u < 10) : Lib.decDigits u = [UInt8.ofNat (48 + u)] := by rw [Lib.decDigits, dif_pos h]
theorem ew_fmt : fmtL lw = [48, 32, 40, 49, 32, 50, 41, 32, 52, 32, 40, 51, 41] := by
  simp [fmtL, lw, fmtsL, El.fmt, Lib.itoa, dig1, Lib.join]
def Rw : List Bool := [true, true, true, true, true]
theorem ew_dfs : ∃ o, foldO (dfsV (shapeOf 5 ew).next (-1) 20) [0] (List.replicate 5 false, []) = some (Rw, o) ∧ o.length ≤ 1000000 := by
  have h : (foldO (dfsV (shapeOf 5 ew).next (-1) 20) [0] (List.replicate 5 false, [])).map (fun t => (t.1, t.2.length)) = some (Rw, 5) := by kernel_rfl
  obtain ⟨t, ht, he⟩ := Option.map_eq_some_iff.1 h
  obtain ⟨R, o⟩ := t
  have h1 : R = Rw := congrArg Prod.fst he
  have h2 : o.length = 5 := congrArg Prod.snd he
  subst h1
  exact ⟨o, ht, by omega⟩
theorem ew_ok : GOk 5 4 ew := ⟨by decide, by decide, by decide, by decide, by decide, by decide⟩
theorem ew_order : ∃ r, visitV ew 20 ⟨List.replicate 5 0, [], 0⟩ [] 0 = some r ∧ r.2.1 = lw := Option.map_eq_some_iff.1 ew_visit
end Go.Proofs.YthaampinmelgaaaGreatDoor

/-! The laws' helper 'awake': the chapter's examples. -/
namespace Go.Proofs.YthaampinmelgaaaGreatDoor
open Go.RowKit Go.Shelf

/-- The example's graph in its variable. -/
structure AW (w W : World) (gb : Nat) (v : Value) : Prop where
  g : Blk W gb 24 [.int .i64 5, .int .i64 4, v]
  ed : Edges W.heap.size W v (castE ew)
  bel : Below w.heap.size w W
  lo : w.heap.size ≤ gb
theorem AW.step {w W W' : World} {gb : Nat} {v : Value} (h : AW w W gb v) (hb : Below W.heap.size W W') : AW w W' gb v :=
  ⟨h.g.below hb h.g.lt, (h.ed.below hb).more hb.size, h.bel.trans (hb.mono h.bel.size), h.lo⟩
theorem AW.cells {w W : World} {gb : Nat} {v : Value} (h : AW w W gb v) : W.cell? ⟨gb, 0, none⟩ = some (.int .i64 5) ∧ W.cell? ⟨gb, 1, none⟩ = some (.int .i64 4) ∧ W.cell? ⟨gb, 2, none⟩ = some v := ⟨h.g.cellAt rfl, h.g.cellAt rfl, h.g.cellAt rfl⟩
def EL (W : World) (v : Value) (l : List El) : Prop := Els (fun b => b < W.heap.size) W v l
theorem EL.step {W W' : World} {v : Value} {l : List El} (h : EL W v l) (hb : Below W.heap.size W W') : EL W' v l := (Els.under h hb (fun _ h => h)).mono (fun _ h => Nat.lt_of_lt_of_le h hb.size)

theorem aw_order {w W : World} {gb : Nat} {v : Value} (h : AW w W gb v) : Calls Tryz.prog 6 #[.agg #[.int .i64 5, .int .i64 4, v]] W fun en W' => ∃ vo, en = .returned (.tuple #[vo, .int .i64 0]) ∧ EL W' vo lw ∧ Below W.heap.size W W' := by
  obtain ⟨r, hr, hl⟩ := ew_order
  refine (order_ok _ W v 5 4 ew h.ed (Nat.le_refl _) ew_ok 20 r hr (by rw [hl]; decide)).mono ?_
  rintro en W' ⟨vo, rfl, h1, h2⟩
  rw [hl] at h1
  exact ⟨vo, rfl, h1.mono (fun b hb => hb.2), h2⟩
theorem aw_parse {t : ByteArray} {l : List El} (ht : t.size = 11) (hl : parseL t 70 12 0 [] = .ok l) (W : World) : Calls Tryz.prog 13 #[.string t] W fun en W' => ∃ vo, en = .returned (.tuple #[vo, .int .i64 0, .int .i64 0]) ∧ EL W' vo l ∧ Below W.heap.size W W' := by
  refine (parse_ok (b := t) (by omega) 70 W l (by rw [ht]; exact hl)).mono ?_
  rintro en W' ⟨vo, rfl, h1, h2⟩
  exact ⟨vo, rfl, h1.mono (fun b hb => hb.2.lt), h2⟩
theorem aw_within {W : World} {v : Value} (h : EL W v lw) : Calls Tryz.prog 14 #[v, .int .i64 2] W fun en W' => ∃ vo, en = .returned (.tuple #[vo, .int .i64 0]) ∧ W'.ownsRow (W.heap.size + 1) 3 1 vo 1 [.int .i64 1] ∧ Below W.heap.size W W' := by
  refine (within_any h (fun _ h => h) (by decide) 2).mono ?_
  rintro en W' ⟨vo, rfl, h1, h2⟩
  have e1 : wErr lw 2 = 0 := by unfold wErr; rw [ew_ins]; rfl
  have e2 : wHeads lw 2 = [1] := by unfold wHeads; rw [ew_ins]; rfl
  rw [e1]
  rw [e2] at h1
  exact ⟨vo, rfl, h1, h2⟩
theorem aw_check {w W : World} {gb : Nat} {v lv : Value} {l : List El} (h : AW w W gb v) (hl : EL W lv l) (hlen : (ptsL l).length ≤ 1000000) {e : Int} (he : chkV 5 ew Rw l = e) : Calls Tryz.prog 16 #[.agg #[.int .i64 5, .int .i64 4, v], lv] W fun en W' => en = .returned (.int .i64 e) ∧ Below W.heap.size W W' := by
  obtain ⟨o, ho, hol⟩ := ew_dfs
  rw [← he]
  exact check_ok _ W v lv 5 4 ew l h.ed (Nat.le_refl _) ew_ok Rw rfl (fun w1 h1 => reachable_ok _ w1 v 5 4 ew ((h.ed.below h1).more h1.size) (Nat.le_refl _) ew_ok 0 (by decide) 20 _ ho hol) hl (fun _ h => h) hlen
theorem itoa_small (w0 : World) : NumOk 0 w0 (fun p => 0 ≤ p ∧ p < 10) := by
  rintro p ⟨h0, h1⟩ W -
  obtain ⟨i, rfl⟩ : ∃ i : Nat, p = i := ⟨p.toNat, by omega⟩
  refine (Any.strconv_Itoa_small Tryz.lays171 i (by omega) W).mono ?_
  rintro en w' ⟨rfl, rfl⟩
  refine ⟨?_, Below.refl _ _⟩
  unfold Lib.itoa
  rw [if_neg (by omega), Int.toNat_natCast]
theorem aw_format {W : World} {v : Value} (h : EL W v lw) : Calls Tryz.prog 15 #[v] W fun en W' => en = .returned (.string ⟨#[48, 32, 40, 49, 32, 50, 41, 32, 52, 32, 40, 51, 41]⟩) ∧ Below W.heap.size W W' := by
  have := format_any (itoa_small W) h W (fun _ _ => rfl) (fun _ h => h) ((Below.refl W.heap.size W).mono (Nat.zero_le _)) (Nat.zero_le _) (by decide) (by rw [ew_fmt]; decide)
  rw [ew_fmt] at this
  exact this
theorem equal_true {B : Nat} {w : World} {v1 v2 : Value} {xs : List Int} (h1 : Ints B w v1 xs) (h2 : Ints B w v2 xs) :
    Calls Tryz.prog 17 #[v1, v2] w fun en w' => en = .returned (.bool true) ∧ Below w.heap.size w w' := by
  refine (equalI_any B w v1 v2 xs xs h1 h2).mono ?_
  rintro en w' ⟨rfl, ho⟩
  exact ⟨by simp, ho.below (Nat.le_refl _) (fun _ _ h => h)⟩
theorem ints_new (w : World) (l : List Int) (hl : l.length ≤ 1000) : Ints (w.alloc (.cells (l.map (Value.int .i64)).toArray 3)).heap.size (w.alloc (.cells (l.map (Value.int .i64)).toArray 3)) (.slice (some ⟨w.heap.size, 0, none⟩) l.length l.length) l :=
  Sl.of_blk (R := RInt) (Value.int .i64) (fun _ _ => rfl) (Blk.new w 3 (l.map (Value.int .i64))) (Nat.le_refl _) (by unfold maxLen; omega) (by simp)

set_option maxRecDepth 100000 in
set_option maxHeartbeats 8000000 in
theorem awake_any (w : World) : Calls Tryz.prog 5 #[] w fun en w' => en = .returned (.bool true) ∧ Below w.heap.size w w' := by
  have hlb := Blk.newAt w 40 #[.int .i64 0, .int .i64 1, .int .i64 1, .int .i64 2, .int .i64 2, .int .i64 1, .int .i64 2, .int .i64 3, .int .i64 1, .int .i64 4, .int .i64 3, .int .i64 3] rfl
  have hsh := shape_any (w.alloc (.cells #[.int .i64 0, .int .i64 1, .int .i64 1, .int .i64 2, .int .i64 2, .int .i64 1, .int .i64 2, .int .i64 3, .int .i64 1, .int .i64 4, .int .i64 3, .int .i64 3] 40)) 5 6 ⟨w.heap.size, 0, none⟩ ew (by decide) (by decide) hlb.lt (by decide) (fun k x hk => by
    match k, hk with
    | 0, hk => cases hk; exact ⟨hlb.cellAt (i := 0) rfl, hlb.cellAt (i := 1) rfl⟩
    | 1, hk => cases hk; exact ⟨hlb.cellAt (i := 2) rfl, hlb.cellAt (i := 3) rfl⟩
    | 2, hk => cases hk; exact ⟨hlb.cellAt (i := 4) rfl, hlb.cellAt (i := 5) rfl⟩
    | 3, hk => cases hk; exact ⟨hlb.cellAt (i := 6) rfl, hlb.cellAt (i := 7) rfl⟩
    | 4, hk => cases hk; exact ⟨hlb.cellAt (i := 8) rfl, hlb.cellAt (i := 9) rfl⟩
    | 5, hk => cases hk; exact ⟨hlb.cellAt (i := 10) rfl, hlb.cellAt (i := 11) rfl⟩
    | k + 6, hk => simp [ew] at hk)
  have HSH := Lib.hid hsh
  clear hsh hlb
  go_enter Tryz.func5, Tryz.ntmps5
  go_upto_region 2 with (go_at_call 12; refine HSH.out.mono ?_; rintro en w2 ⟨v, rfl, hed, hb2⟩; obtain ⟨Ag, cg, rfl, -⟩ := hed.shape)
  have hb3 : Below w.heap.size w w2 := ((Below.refl _ w).alloc (Nat.le_refl _) _).trans (hb2.mono (by rw [World.size_alloc]; omega))
  have hS3 : AW w (w2.alloc (.cells #[.int .i64 5, .int .i64 4, .slice Ag (castE ew).length cg] 24)) w2.heap.size (.slice Ag (castE ew).length cg) :=
    ⟨Blk.new w2 24 [.int .i64 5, .int .i64 4, .slice Ag (castE ew).length cg], (hed.below ((Below.refl w2.heap.size w2).alloc (Nat.le_refl _) _)).more (by simp), hb3.alloc hb3.size _, hb3.size⟩
  obtain ⟨c0, c1, c2⟩ := hS3.cells
  clear HSH hb2 hed hb3
  go_upto_region 3 with (go_at_call 6; refine (aw_order hS3).mono ?_; rintro en w4 ⟨vo, rfl, hlo, hb4⟩)
  have hS4 := hS3.step hb4
  clear c0 c1 c2
  obtain ⟨c0, c1, c2⟩ := hS4.cells
  clear hS3 hb4
  go_upto_region 4 with (go_at_call 13; refine (aw_parse (t := tw1) rfl ew_parse1 _).mono ?_; rintro en w5 ⟨v1, rfl, hl1, hb5⟩)
  have hS5 := hS4.step hb5
  clear c0 c1 c2
  obtain ⟨c0, c1, c2⟩ := hS5.cells
  replace hlo := EL.step hlo hb5
  clear hS4 hb5
  go_upto_region 5 with (go_at_call 13; refine (aw_parse (t := tw2) rfl ew_parse2 _).mono ?_; rintro en w6 ⟨v2, rfl, hl2, hb6⟩)
  have hS6 := hS5.step hb6
  clear c0 c1 c2
  obtain ⟨c0, c1, c2⟩ := hS6.cells
  replace hlo := EL.step hlo hb6
  replace hl1 := EL.step hl1 hb6
  clear hS5 hb6
  go_upto_region 6 with (go_at_call 14; refine (aw_within hlo).mono ?_; rintro en w7 ⟨vh, rfl, hvh, hb7⟩)
  have hS7 := hS6.step hb7
  clear c0 c1 c2
  obtain ⟨c0, c1, c2⟩ := hS7.cells
  replace hlo := EL.step hlo hb7
  replace hl1 := EL.step hl1 hb7
  replace hl2 := EL.step hl2 hb7
  clear hS6 hb7
  go_wp2_with fail
  refine (aw_format hlo).mono ?_
  rintro en w8 ⟨rfl, hb8⟩
  have hS8 := hS7.step hb8
  clear c0 c1 c2
  obtain ⟨c0, c1, c2⟩ := hS8.cells
  replace hlo := EL.step hlo hb8
  replace hl1 := EL.step hl1 hb8
  replace hl2 := EL.step hl2 hb8
  replace hvh := own_under hvh hb8
  clear hS7 hb8
  go_wp2_with fail
  refine (aw_check hS8 hlo (by decide) ew_chk).mono ?_
  rintro en w9 ⟨rfl, hb9⟩
  have hS9 := hS8.step hb9
  clear c0 c1 c2
  obtain ⟨c0, c1, c2⟩ := hS9.cells
  replace hl1 := EL.step hl1 hb9
  replace hl2 := EL.step hl2 hb9
  replace hvh := own_under hvh hb9
  clear hS8 hb9 hlo
  go_wp2_with fail
  refine (aw_check hS9 hl1 (by decide) ew_chk1).mono ?_
  rintro en w10 ⟨rfl, hb10⟩
  have hS10 := hS9.step hb10
  clear c0 c1 c2
  obtain ⟨c0, c1, c2⟩ := hS10.cells
  replace hl2 := EL.step hl2 hb10
  replace hvh := own_under hvh hb10
  clear hS9 hb10 hl1
  go_wp2_with fail
  refine (aw_check hS10 hl2 (by decide) ew_chk2).mono ?_
  rintro en w11 ⟨rfl, hb11⟩
  have hS11 := hS10.step hb11
  clear c0 c1 c2
  replace hvh := own_under hvh hb11
  clear hS10 hb11 hl2
  go_wp2_with fail
  have hbn := (Below.refl w11.heap.size w11).alloc (Nat.le_refl _) (.cells (([1] : List Int).map (Value.int .i64)).toArray 3)
  have hiv : Ints w11.heap.size w11 vh [1] := Sl.of_own (R := RInt) (Value.int .i64) (fun _ _ => rfl) hvh
  refine (equal_true ((Sl.keep hiv (fun p hp => hbn.cell hp) (fun _ _ h => h)).more hbn.size) (ints_new w11 [1] (by decide))).mono ?_
  rintro en w12 ⟨rfl, hb12⟩
  have hB12 : Below w.heap.size w w12 := hS11.bel.trans ((hbn.trans (hb12.mono (by rw [World.size_alloc]; omega))).mono hS11.bel.size)
  clear hS11 hbn hiv hb12 hvh
  go_wp2
  go_ret
  exact ⟨rfl, hB12⟩
end Go.Proofs.YthaampinmelgaaaGreatDoor

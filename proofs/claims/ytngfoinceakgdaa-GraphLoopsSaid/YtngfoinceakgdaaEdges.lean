/- The laws' helper 'edges': a graph with some edges. -/
import Derived.Test.YtngfoinceakgdaaERows
import Derived.Test.YtngfoinceakgdaaFam
import Derived.Deep.LoopGhost
import Derived.RangeFuncBox
namespace Go.Proofs.Ytngfoinceakgdaa
open Go.RowKit

def pairRow (x : Nat × Nat) : List Value := [.int .i64 (x.1 : Int), .int .i64 (x.2 : Int)]
theorem size_pair : (Try.prog.info? 87).map (·.size) = some 2 := by kernel_rfl

theorem pair_get : ∀ {E : List (Nat × Nat)} {j i : Nat} {x : Nat × Nat} {u : Value}, E[j]? = some x → (pairRow x)[i]? = some u → (E.map pairRow).flatten[j * 2 + i]? = some u
  | [], j, i, x, u, h, _ => by simp at h
  | y :: ys, j, i, x, u, h, hu => by
    have hi : i < 2 := (List.getElem?_eq_some_iff.1 hu).1
    rw [List.map_cons, List.flatten_cons]
    have hl : (pairRow y).length = 2 := rfl
    cases j with
    | zero =>
      cases h
      rw [List.getElem?_append_left (by omega)]
      rwa [Nat.zero_mul, Nat.zero_add]
    | succ j =>
      rw [List.getElem?_append_right (by omega), hl]
      have := pair_get (E := ys) (j := j) (i := i) (by simpa using h) hu
      rw [show (j + 1) * 2 + i - 2 = j * 2 + i by omega]
      exact this

theorem map_flatten_succ (f : Nat × Nat → List Value) (E : List (Nat × Nat)) (k : Nat) (h : k < E.length) : ((E.take (k + 1)).map f).flatten = ((E.take k).map f).flatten ++ f E[k] := by
  rw [List.take_succ_eq_append_getElem h, List.map_append, List.flatten_append]
  simp

set_option maxRecDepth 100000 in
set_option maxHeartbeats 2000000 in
theorem edges_any (w : World) (lb n : Nat) (exit : Int) (E : List (Nat × Nat)) (hE : E.length ≤ 1000) (hb : Blk w lb 87 (E.map pairRow).flatten) :
    Calls Try.prog 46 #[.int .i64 (n : Int), .int .i64 exit, .slice (some ⟨lb, 0, none⟩) E.length E.length] w fun en w' =>
      ∃ v, en = .returned (.agg #[.int .i64 (n : Int), .int .i64 exit, v]) ∧ w'.ownsRow (w.heap.size + 1 + 1) 58 21 v E.length (E.map edgeRow).flatten ∧ Below w.heap.size w w' := by
  obtain ⟨i0, hi, hz0, hz1, hz2⟩ := info_parts info_edge
  have hlb := hb.lt
  go_enter Try.func46, Try.ntmps46
  go_wp2
  go_loopw [15] (fun y wr => ∃ (k : Nat) (vr : Value), k ≤ E.length ∧ y = .int .i64 k ∧ Blk wr w.heap.size 24 [int0, int0, nil0] ∧ Blk wr (w.heap.size + 1) 24 [.int .i64 (n : Int), .int .i64 exit, vr] ∧ wr.ownsRow (w.heap.size + 1 + 1) 58 21 vr k ((E.take k).map edgeRow).flatten ∧ Below w.heap.size w wr ∧ w.heap.size + 1 + 1 ≤ wr.heap.size) (fun y _ => E.length - (intOf y).toNat)
  case atStart => exact ⟨0, nil0, Nat.zero_le _, rfl, (Blk.newAt w 24 #[int0, int0, nil0] rfl).alloc _, Blk.newAt _ 24 #[.int .i64 (n : Int), .int .i64 exit, nil0] (by simp), World.ownsRow_nil _ _ _ _, ((Below.refl _ _).alloc (Nat.le_refl _) _).alloc (by simp) _, by simp⟩
  case round =>
    obtain ⟨k, vr, hk, rfl, hb6, hb7, hown, hbel, hsz⟩ := hrel
    have hblk := hb.below hbel hlb
    by_cases hlt : k < E.length
    · have hlt1 : (k : Int) < (E.length : Int) := by omega
      have hek : E[k]? = some E[k] := List.getElem?_eq_getElem hlt
      have hfl := map_flatten_succ edgeRow E k hlt
      revert hek hfl
      generalize E[k] = x
      intro hek hfl
      obtain ⟨f, t⟩ := x
      have e0 : wr.cell? ⟨lb, k * 2, none⟩ = some (.int .i64 (f : Int)) := hblk.cellAt (pair_get (i := 0) hek rfl)
      have e1 : wr.cell? ⟨lb, k * 2 + 1, none⟩ = some (.int .i64 (t : Int)) := hblk.cellAt (pair_get (i := 1) hek rfl)
      have HFL := Lib.hid hfl
      have c7 := ((hb7.alloc (.cells #[.int .i64 (f : Int), .int .i64 (t : Int)] 87)).alloc (.cells (edgeRow (f, t)).toArray 58)).cellAt (i := 2) rfl
      have c7' := (hb7.alloc (.cells #[.int .i64 (f : Int), .int .i64 (t : Int)] 87)).cellAt (i := 2) rfl
      clear hek hfl hblk
      go_wp2_with (at_builtin; refine wpList_append_own_at _ rfl (.tmp 20) (.tmp 26) 22 rfl (w.heap.size + 1 + 1) 58 i0 edge0 21 280 Try.underlying22 hi hz0 hz1 hz2 rfl (by decide) vr k _ rfl ((hown.alloc _).alloc _) ⟨wr.heap.size + 1, 0, none⟩ 1 1 (edgeRow (f, t)) rfl rfl ?c1 ?c2 ?c3 ?c4 ?c5 ?_)
      case c1 =>
        intro j u hj
        have h := Blk.new (wr.alloc (.cells #[.int .i64 (f : Int), .int .i64 (t : Int)] 87)) 58 (edgeRow (f, t))
        rw [World.size_alloc] at h
        rw [add_none]
        exact h.cellAt hj
      case c2 => exact edgeRow_one _
      case c3 => simp only [maxLen]; omega
      case c4 => omega
      case c5 => simp; omega
      intro v' w' hown' hgrow _ _
      obtain ⟨g, cap, rfl⟩ := ownsRow_succ hown'
      have hO := (hown.alloc (.cells #[.int .i64 (f : Int), .int .i64 (t : Int)] 87)).alloc (.cells (edgeRow (f, t)).toArray 58)
      have hA7 := ((hb7.alloc (.cells #[.int .i64 (f : Int), .int .i64 (t : Int)] 87)).alloc (.cells (edgeRow (f, t)).toArray 58)).keptOwn hgrow hO (by decide)
      have hA6 := ((hb6.alloc (.cells #[.int .i64 (f : Int), .int .i64 (t : Int)] 87)).alloc (.cells (edgeRow (f, t)).toArray 58)).keptOwn hgrow hO (by decide)
      have d7 := hA7.cellAt (i := 2) rfl
      have g7 := hA7.frozen 2
      have hS7 := hA7.set 2 (.slice (some ⟨g, 0, none⟩) (k + 1) cap)
      have hS6 := hA6.far (p := ⟨w.heap.size + 1, 2, none⟩) (by simp) (.slice (some ⟨g, 0, none⟩) (k + 1) cap)
      have hSo := ownsRow_setCell_below (a := ⟨w.heap.size + 1, 2, none⟩) hown' (by simp) (.slice (some ⟨g, 0, none⟩) (k + 1) cap)
      have hbx : Below w.heap.size w w' := (((hbel.alloc hbel.size _).alloc (by simp; omega) _).grown hgrow (by simp; omega) (fun j hj => by have := (hown.lt j hj).1; omega))
      have hby := hbx.setCell (p := ⟨w.heap.size + 1, 2, none⟩) (by simp) (.slice (some ⟨g, 0, none⟩) (k + 1) cap)
      have hsz2 : w.heap.size + 1 + 1 ≤ w'.heap.size := by have := hgrow.size; simp at this; omega
      have HS7 := Lib.hid hS7
      have HS6 := Lib.hid hS6
      have HSO := Lib.hid hSo
      have HBY := Lib.hid hby
      clear hO hA7 hA6 hS7 hS6 hSo hbx hby hown' hgrow c7 c7' hown hb6 hb7 e0 e1
      go_wp2
      go_roundw
      case rel => exact ⟨k + 1, _, by omega, by go_num, HS6.out, HS7.out, by rw [HFL.out, List.map_take]; exact HSO.out, HBY.out, by simp; exact hsz2⟩
      case measure => simp [intOf]; omega
    · obtain rfl : k = E.length := by omega
      have c70 := hb7.cellAt (i := 0) rfl
      have c71 := hb7.cellAt (i := 1) rfl
      have c72 := hb7.cellAt (i := 2) rfl
      have c60 := hb6.cellAt (i := 0) rfl
      have c61 := hb6.cellAt (i := 1) rfl
      have c62 := hb6.cellAt (i := 2) rfl
      have f60 := hb6.frozen 0
      have f61 := hb6.frozen 1
      have f62 := hb6.frozen 2
      rw [List.take_length] at hown
      obtain ⟨Av, nv, cv, rfl⟩ : ∃ Av nv cv, vr = .slice Av nv cv := by
        obtain ⟨A, c, h, -⟩ := (Edges.of_edgeRows hown).shape
        exact ⟨_, _, _, h⟩
      go_wp2
      have hz := ((hb6.set 0 (.int .i64 (n : Int))).set 1 (.int .i64 exit)).set 2 (.slice Av nv cv)
      have k0 := hz.cellAt (i := 0) rfl
      have k1 := hz.cellAt (i := 1) rfl
      have k2 := hz.cellAt (i := 2) rfl
      refine bodyPost_ret (v := .agg #[.int .i64 (n : Int), .int .i64 exit, .slice Av nv cv]) ?_ rfl ⟨_, rfl, ?_, ?_⟩
      · simp [results, Try.results46, go_sem, k0, k1, k2]
      · exact ownsRow_setCell_below (ownsRow_setCell_below (ownsRow_setCell_below hown (by show w.heap.size < _; omega) _) (by show w.heap.size < _; omega) _) (by show w.heap.size < _; omega) _
      · exact ((hbel.setCell (by simp) _).setCell (by simp) _).setCell (by simp) _
end Go.Proofs.Ytngfoinceakgdaa

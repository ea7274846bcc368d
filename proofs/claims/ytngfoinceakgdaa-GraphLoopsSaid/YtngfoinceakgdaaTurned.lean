/- The reference: Turned. -/
import Derived.Test.YtngfoinceakgdaaReached
import Derived.Test.YtngfoinceakgdaaERows
import Derived.Test.YtngfoinceakgdaaFront
import Derived.RangeFuncBox
namespace Go.Proofs.Ytngfoinceakgdaa
open Go.RowKit Go.Shelf

theorem addrZero (a : Addr) : a.add 0 = a := by unfold Addr.add; simp
theorem addrOne (a : Addr) : a.add 1 = ⟨a.block, a.off + 1, none⟩ := by unfold Addr.add; simp

def swapE (E : List (Nat × Nat)) : List (Nat × Nat) := E.map fun x => (x.2, x.1)

/-- The graph that is being turned. -/
structure US (w W : World) (gv : List Value) (n : Nat) (exit : Int) (vr : Value) (E : List (Nat × Nat)) : Prop where
  g : Blk W w.heap.size 24 gv
  r : Blk W (w.heap.size + 1) 24 [int0, int0, nil0]
  o : Blk W (w.heap.size + 1 + 1) 24 [.int .i64 (n : Int), .int .i64 exit, vr]
  own : W.ownsRow (w.heap.size + 1 + 1 + 1) 58 21 vr E.length (E.map edgeRow).flatten
  bel : Below w.heap.size w W
  sz : w.heap.size + 1 + 1 + 1 ≤ W.heap.size
theorem US.drew {w W : World} {gv : List Value} {n : Nat} {exit : Int} {vr : Value} {E : List (Nat × Nat)} (h : US w W gv n exit vr E) : US w W.drew gv n exit vr E := ⟨h.g, h.r, h.o, h.own, h.bel.drew, h.sz⟩
theorem US.alloc {w W : World} {gv : List Value} {n : Nat} {exit : Int} {vr : Value} {E : List (Nat × Nat)} (h : US w W gv n exit vr E) (x : Obj) : US w (W.alloc x) gv n exit vr E := ⟨h.g.alloc _, h.r.alloc _, h.o.alloc _, h.own.alloc _, h.bel.alloc h.bel.size _, by rw [World.size_alloc]; have := h.sz; omega⟩

set_option maxRecDepth 100000 in
set_option maxHeartbeats 8000000 in
theorem turned_any (B : Nat) (w : World) (v : Value) (n : Nat) (exit : Int) (E : List (Nat × Nat)) (hv : Edges B w v (castE E)) (hB : B ≤ w.heap.size) (hlE : E.length ≤ 1024) :
    Calls Try.prog 55 #[.agg #[.int .i64 (n : Int), .int .i64 exit, v]] w fun en w' => ∃ v', en = .returned (.agg #[.int .i64 (n : Int), .int .i64 exit, v']) ∧ Edges w'.heap.size w' v' (castE (swapE E)) ∧ Below w.heap.size w w' := by
  obtain ⟨A, c, rfl, hlc, -, hm, hes⟩ := hv.shape
  have hlen0 : (castE E).length = E.length := castE_length E
  rw [hlen0] at hlc hm ⊢
  have hen := Edges.nat hes
  have HE := Lib.hid hen
  clear hes hen hlen0 hv
  obtain ⟨ie, hi, hz0, hz1, hz2⟩ := info_parts info_edge
  go_enter Try.func55, Try.ntmps55
  go_wp2
  go_loopw [4] (fun y wr => ∃ (k : Nat) (vr : Value), k ≤ E.length ∧ y = .int .i64 k ∧ US w wr [.int .i64 (n : Int), .int .i64 exit, .slice A E.length c] n exit vr (swapE (E.take k))) (fun y _ => E.length - (intOf y).toNat)
  case atStart =>
    refine ⟨0, nil0, Nat.zero_le _, rfl, ((Blk.newAt w 24 #[.int .i64 (n : Int), .int .i64 exit, .slice A E.length c] rfl).alloc _).alloc _, (Blk.newAt _ 24 #[int0, int0, nil0] (by simp)).alloc _, Blk.newAt _ 24 #[.int .i64 (n : Int), .int .i64 exit, nil0] (by simp), World.ownsRow_nil _ _ _ _, (((Below.refl _ _).alloc (Nat.le_refl _) _).alloc (by simp) _).alloc (by simp; omega) _, by simp⟩
  case round =>
    obtain ⟨k, vr, hk, rfl, hp⟩ := hrel
    by_cases hlt : k < E.length
    · have hlt1 : (k : Int) < (E.length : Int) := by omega
      have hek : E[k]? = some E[k] := List.getElem?_eq_getElem hlt
      have hps : swapE (E.take (k + 1)) = swapE (E.take k) ++ [(E[k].2, E[k].1)] := by
        unfold swapE
        rw [List.take_succ_eq_append_getElem hlt, List.map_append]
        rfl
      have hpl : (swapE (E.take k)).length = k := by unfold swapE; simp; omega
      revert hek hps
      generalize E[k] = x
      intro hek hps
      obtain ⟨f, t⟩ := x
      obtain ⟨ad, cs, rfl, hab, hcl, hcc, hc0, hc1, hone⟩ := HE.out k _ hek
      have g0 := (hp.bel.cell (p := (ad.add (k * 21)).add 0) (by rw [block_add, block_add]; omega)).trans (hcc 0 _ hc0)
      have g1 := (hp.bel.cell (p := (ad.add (k * 21)).add 1) (by rw [block_add, block_add]; omega)).trans (hcc 1 _ hc1)
      rw [addrZero] at g0
      rw [addrOne] at g1
      have HPS := Lib.hid hps
      have HPL := Lib.hid hpl
      clear hps hpl hek hcl hcc hc0 hc1 hone
      have hgc : wr.cell? ⟨w.heap.size, 2, none⟩ = some (.slice (some ad) E.length c) := hp.g.cellAt rfl
      go_upto_region 5 with fail
      have hq := hp.drew
      have hHeld : wr.drew.cell? ⟨w.heap.size + 1 + 1, 2, none⟩ = some vr ∧ wr.drew.cell? ⟨w.heap.size, 2, none⟩ = some (.slice (some ad) E.length c) ∧ wr.drew.cell? (ad.add (k * 21)) = some (.int .i64 (f : Int)) ∧ wr.drew.cell? ⟨(ad.add (k * 21)).block, (ad.add (k * 21)).off + 1, none⟩ = some (.int .i64 (t : Int)) := ⟨hq.o.cellAt rfl, hq.g.cellAt rfl, g0, g1⟩
      clear hp
      refine wp_region_front (S := fun w' => w'.cell? ⟨w.heap.size + 1 + 1, 2, none⟩ = some vr ∧ w'.cell? ⟨w.heap.size, 2, none⟩ = some (.slice (some ad) E.length c) ∧ w'.cell? (ad.add (k * 21)) = some (.int .i64 (f : Int)) ∧ w'.cell? ⟨(ad.add (k * 21)).block, (ad.add (k * 21)).off + 1, none⟩ = some (.int .i64 (t : Int))) 0 16 (by kernel_rfl) (by kernel_rfl) (by decide) rfl (by kernel_rfl) (by kernel_rfl) (fun _ _ _ h => h) (.inl ⟨by rfl, fun w' => by rfl⟩) ?_
      simp only [Act.put, List.setIfInBounds_toArray, List.set_cons_zero, List.set_cons_succ]
      revert hq hHeld
      generalize wr.drew = wz
      intro hq hHeld
      refine Front.take 1 (v := ?_) rfl (by decide) (by kernel_rfl) (by kernel_rfl) (fun _ _ _ h => h) rfl hHeld ?_ ?_
      case refine_2 => intro w' hSw; obtain ⟨q1, q2, q3, q4⟩ := hSw; go_simp <;> with_reducible rfl
      simp only [Act.put, List.setIfInBounds_toArray, List.set_cons_zero, List.set_cons_succ]
      refine Front.take 2 (v := ?_) rfl (by decide) (by kernel_rfl) (by kernel_rfl) (fun _ _ _ h => h) rfl hHeld ?_ ?_
      case refine_2 => intro w' hSw; obtain ⟨q1, q2, q3, q4⟩ := hSw; go_simp <;> with_reducible rfl
      simp only [Act.put, List.setIfInBounds_toArray, List.set_cons_zero, List.set_cons_succ]
      refine Front.take 3 (v := ?_) rfl (by decide) (by kernel_rfl) (by kernel_rfl) (fun _ _ _ h => h) rfl hHeld ?_ ?_
      case refine_2 => intro w' hSw; obtain ⟨q1, q2, q3, q4⟩ := hSw; go_simp <;> with_reducible rfl
      simp only [Act.put, List.setIfInBounds_toArray, List.set_cons_zero, List.set_cons_succ]
      refine Front.take 4 (v := ?_) rfl (by decide) (by kernel_rfl) (by kernel_rfl) (fun _ _ _ h => h) rfl hHeld ?_ ?_
      case refine_2 => intro w' hSw; obtain ⟨q1, q2, q3, q4⟩ := hSw; go_simp <;> with_reducible rfl
      simp only [Act.put, List.setIfInBounds_toArray, List.set_cons_zero, List.set_cons_succ]
      refine Front.take 5 (v := ?_) rfl (by decide) (by kernel_rfl) (by kernel_rfl) (fun _ _ _ h => h) rfl hHeld ?_ ?_
      case refine_2 => intro w' hSw; obtain ⟨q1, q2, q3, q4⟩ := hSw; go_simp <;> with_reducible rfl
      simp only [Act.put, List.setIfInBounds_toArray, List.set_cons_zero, List.set_cons_succ]
      refine Front.take 6 (v := ?_) rfl (by decide) (by kernel_rfl) (by kernel_rfl) (fun _ _ _ h => h) rfl hHeld ?_ ?_
      case refine_2 => intro w' hSw; obtain ⟨q1, q2, q3, q4⟩ := hSw; go_simp <;> with_reducible rfl
      simp only [Act.put, List.setIfInBounds_toArray, List.set_cons_zero, List.set_cons_succ]
      refine Front.take 7 (v := ?_) rfl (by decide) (by kernel_rfl) (by kernel_rfl) (fun _ _ _ h => h) rfl hHeld ?_ ?_
      case refine_2 => intro w' hSw; obtain ⟨q1, q2, q3, q4⟩ := hSw; go_simp <;> with_reducible rfl
      simp only [Act.put, List.setIfInBounds_toArray, List.set_cons_zero, List.set_cons_succ]
      refine Front.take 8 (v := ?_) rfl (by decide) (by kernel_rfl) (by kernel_rfl) (fun _ _ _ h => h) rfl hHeld ?_ ?_
      case refine_2 => intro w' hSw; obtain ⟨q1, q2, q3, q4⟩ := hSw; go_simp <;> with_reducible rfl
      simp only [Act.put, List.setIfInBounds_toArray, List.set_cons_zero, List.set_cons_succ]
      refine Front.take 9 (v := ?_) rfl (by decide) (by kernel_rfl) (by kernel_rfl) (fun _ _ _ h => h) rfl hHeld ?_ ?_
      case refine_2 => intro w' hSw; obtain ⟨q1, q2, q3, q4⟩ := hSw; go_simp <;> with_reducible rfl
      simp only [Act.put, List.setIfInBounds_toArray, List.set_cons_zero, List.set_cons_succ]
      refine Front.take 10 (v := ?_) rfl (by decide) (by kernel_rfl) (by kernel_rfl) (fun _ _ _ h => h) rfl hHeld ?_ ?_
      case refine_2 => intro w' hSw; obtain ⟨q1, q2, q3, q4⟩ := hSw; go_simp <;> with_reducible rfl
      simp only [Act.put, List.setIfInBounds_toArray, List.set_cons_zero, List.set_cons_succ]
      refine Front.take 11 (v := ?_) rfl (by decide) (by kernel_rfl) (by kernel_rfl) (fun _ _ _ h => h) rfl hHeld ?_ ?_
      case refine_2 => intro w' hSw; obtain ⟨q1, q2, q3, q4⟩ := hSw; go_simp <;> with_reducible rfl
      simp only [Act.put, List.setIfInBounds_toArray, List.set_cons_zero, List.set_cons_succ]
      refine Front.take 12 (v := ?_) rfl (by decide) (by kernel_rfl) (by kernel_rfl) (fun _ _ _ h => h) rfl hHeld ?_ ?_
      case refine_2 => intro w' hSw; obtain ⟨q1, q2, q3, q4⟩ := hSw; go_simp <;> with_reducible rfl
      simp only [Act.put, List.setIfInBounds_toArray, List.set_cons_zero, List.set_cons_succ]
      refine Front.take 13 (v := ?_) rfl (by decide) (by kernel_rfl) (by kernel_rfl) (fun _ _ _ h => h) rfl hHeld ?_ ?_
      case refine_2 => intro w' hSw; obtain ⟨q1, q2, q3, q4⟩ := hSw; go_simp <;> with_reducible rfl
      simp only [Act.put, List.setIfInBounds_toArray, List.set_cons_zero, List.set_cons_succ]
      refine Front.take 14 (v := ?_) rfl (by decide) (by kernel_rfl) (by kernel_rfl) (fun _ _ _ h => h) rfl hHeld ?_ ?_
      case refine_2 => intro w' hSw; obtain ⟨q1, q2, q3, q4⟩ := hSw; go_simp <;> with_reducible rfl
      simp only [Act.put, List.setIfInBounds_toArray, List.set_cons_zero, List.set_cons_succ]
      refine Front.one (i := 15) (by kernel_rfl) (by decide) ?_
      refine FrontStep.of rfl (fun K hK => ?_)
      go_simp
      have hm1 := hq.alloc (.cells (edgeRow (t, f)).toArray 58)
      have hb1 := Blk.new wz 58 (edgeRow (t, f))
      refine hK _ (wz.alloc (.cells (edgeRow (t, f)).toArray 58)) ?_ ?_
      case refine_1 => exact ⟨hm1.o.cellAt rfl, hm1.g.cellAt rfl, by simp [World.cell?_alloc_some, hHeld.2.2.1], by simp [World.cell?_alloc_some, hHeld.2.2.2]⟩
      clear K hK
      revert hm1 hb1
      generalize wz.alloc (.cells (edgeRow (t, f)).toArray 58) = w1
      generalize wz.heap.size = eb
      intro hm1 hb1
      have hO := hm1.own
      rw [HPL.out] at hO
      have c2 := hm1.o.cellAt (i := 2) rfl
      have hsz := hm1.sz
      refine Front.done (by kernel_rfl) ?_
      simp only [List.drop_succ_cons, List.drop_zero]
      clear hHeld hq
      go_wp2_with (at_builtin; refine wpList_append_own_at _ rfl (.tmp 18) (.tmp 32) 22 rfl (w.heap.size + 1 + 1 + 1) 58 ie edge0 21 280 Try.underlying22 hi hz0 hz1 hz2 rfl (by decide) vr k _ rfl hO ⟨eb, 0, none⟩ 1 1 (edgeRow (t, f)) rfl rfl ?c1 ?c2 ?c3 ?c4 ?c5 ?_)
      case c1 =>
        intro j u hj
        exact hb1.cellAt hj
      case c2 => exact edgeRow_one _
      case c3 => simp only [maxLen]; omega
      case c4 => omega
      intro v' w' hown' hgrow _ _
      obtain ⟨g, cap, rfl⟩ := ownsRow_succ hown'
      have hG := hm1.g.keptOwn hgrow hO (by decide)
      have hR := hm1.r.keptOwn hgrow hO (by decide)
      have hA := hm1.o.keptOwn hgrow hO (by decide)
      have d2 := hA.cellAt (i := 2) rfl
      have f2 := hA.frozen 2
      have hS := hA.set 2 (.slice (some ⟨g, 0, none⟩) (k + 1) cap)
      have hSo := ownsRow_setCell_below (a := ⟨w.heap.size + 1 + 1, 2, none⟩) hown' (by show w.heap.size + 1 + 1 < _; omega) (.slice (some ⟨g, 0, none⟩) (k + 1) cap)
      have hbx : Below w.heap.size w w' := hm1.bel.grown hgrow (by omega) (fun j hj => by have := (hO.lt j hj).1; omega)
      have hby := hbx.setCell (p := ⟨w.heap.size + 1 + 1, 2, none⟩) (by simp; omega) (.slice (some ⟨g, 0, none⟩) (k + 1) cap)
      have hsz2 : w.heap.size + 1 + 1 + 1 ≤ w'.heap.size := by have := hgrow.size; omega
      have hfin : US w (w'.setCell ⟨w.heap.size + 1 + 1, 2, none⟩ (.slice (some ⟨g, 0, none⟩) (k + 1) cap)) [.int .i64 (n : Int), .int .i64 exit, .slice (some ad) E.length c] n exit (.slice (some ⟨g, 0, none⟩) (k + 1) cap) (swapE (E.take (k + 1))) := by
        refine ⟨hG.far (by show w.heap.size ≠ w.heap.size + 1 + 1; omega) _, hR.far (by show w.heap.size + 1 ≠ w.heap.size + 1 + 1; omega) _, hS, ?_, hby, by rw [World.size_setCell]; exact hsz2⟩
        rw [HPS.out, List.length_append, HPL.out, List.map_append, List.flatten_append]
        simpa using hSo
      have HFIN := Lib.hid hfin
      clear hG hR hA hS hSo hbx hby hfin hown' hgrow hO hm1 hb1 c2
      go_wp2
      go_roundw
      case rel => exact ⟨k + 1, _, by omega, by go_num, HFIN.out⟩
      case measure => simp [intOf]; omega
    · obtain rfl : k = E.length := by omega
      have hgc : wr.cell? ⟨w.heap.size, 2, none⟩ = some (.slice A E.length c) := hp.g.cellAt rfl
      have o0 : wr.cell? ⟨w.heap.size + 1 + 1, 0, none⟩ = some (.int .i64 (n : Int)) := hp.o.cellAt rfl
      have o1 : wr.cell? ⟨w.heap.size + 1 + 1, 1, none⟩ = some (.int .i64 exit) := hp.o.cellAt rfl
      have o2 : wr.cell? ⟨w.heap.size + 1 + 1, 2, none⟩ = some vr := hp.o.cellAt rfl
      have r0 := hp.r.cellAt (i := 0) rfl
      have r1 := hp.r.cellAt (i := 1) rfl
      have r2 := hp.r.cellAt (i := 2) rfl
      have f0 := hp.r.frozen 0
      have f1 := hp.r.frozen 1
      have f2 := hp.r.frozen 2
      have hown := hp.own
      have hR := hp.r
      have hbel := hp.bel
      have hls : (swapE (E.take E.length)).length = (swapE E).length := by rw [List.take_length]
      rw [List.take_length] at hown
      clear hp
      obtain ⟨Av, nv, cv, rfl⟩ : ∃ Av nv cv, vr = .slice Av nv cv := by
        obtain ⟨A, c, h, -⟩ := (Edges.of_edgeRows hown).shape
        exact ⟨_, _, _, h⟩
      go_wp2
      have hz := ((hR.set 0 (.int .i64 (n : Int))).set 1 (.int .i64 exit)).set 2 (.slice Av nv cv)
      have k0 := hz.cellAt (i := 0) rfl
      have k1 := hz.cellAt (i := 1) rfl
      have k2 := hz.cellAt (i := 2) rfl
      refine bodyPost_ret (v := .agg #[.int .i64 (n : Int), .int .i64 exit, .slice Av nv cv]) ?_ rfl ⟨_, rfl, ?_, ?_⟩
      · simp [results, Try.results55, go_sem, k0, k1, k2]
      · exact Edges.of_edgeRows (ownsRow_setCell_below (ownsRow_setCell_below (ownsRow_setCell_below hown (by show w.heap.size + 1 < _; omega) _) (by show w.heap.size + 1 < _; omega) _) (by show w.heap.size + 1 < _; omega) _)
      · exact ((hbel.setCell (by simp) _).setCell (by simp) _).setCell (by simp) _
end Go.Proofs.Ytngfoinceakgdaa

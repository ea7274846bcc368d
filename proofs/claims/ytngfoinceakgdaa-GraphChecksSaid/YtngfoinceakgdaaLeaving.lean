/- The reference: Leaving. -/
import Derived.Test.YtngfoinceakgdaaTurned
import Derived.Test.YtngfoinceakgdaaNew
import Derived.Test.YtngfoinceakgdaaPlain1
namespace Go.Proofs.Ytngfoinceakgdaa
open Go.RowKit Go.Shelf

/-- The rows that are being made. -/
structure LVS (w W : World) (gv : List Value) (n bo : Nat) (R : List Value) (L : List (List Nat)) : Prop where
  g : Blk W w.heap.size 24 gv
  o : Blk W bo 27 R
  fam : Fam 3 W w.heap.size R L
  lo : R.length = n
  bel : Below w.heap.size w W
  ho : w.heap.size ≤ bo
theorem LVS.drew {w W : World} {gv : List Value} {n bo : Nat} {R : List Value} {L : List (List Nat)} (h : LVS w W gv n bo R L) : LVS w W.drew gv n bo R L := ⟨h.g, h.o, h.fam.drew, h.lo, h.bel.drew, h.ho⟩
theorem LVS.alloc {w W : World} {gv : List Value} {n bo : Nat} {R : List Value} {L : List (List Nat)} (h : LVS w W gv n bo R L) (x : Obj) : LVS w (W.alloc x) gv n bo R L := ⟨h.g.alloc _, h.o.alloc _, h.fam.alloc _, h.lo, h.bel.alloc h.bel.size _, h.ho⟩

set_option maxRecDepth 100000 in
set_option maxHeartbeats 8000000 in
theorem leaving_any (B : Nat) (w : World) (v : Value) (n : Nat) (exit : Int) (E : List (Nat × Nat)) (hv : Edges B w v (castE E)) (hB : B ≤ w.heap.size) (hn : n ≤ 512) (hE : ∀ x ∈ E, x.1 < n ∧ x.2 < n) (hlE : E.length ≤ 1024) :
    Calls Try.prog 64 #[.agg #[.int .i64 (n : Int), .int .i64 exit, v]] w fun en w' => ∃ v', en = .returned v' ∧ Natss w'.heap.size w' v' ((List.range n).map (idxs Prod.fst E)) ∧ Below w.heap.size w w' := by
  obtain ⟨A, c, rfl, hlc, -, hm, hes⟩ := hv.shape
  have hmk := make_one (P := Try.prog) 70 27 (.slice none 0 0) 24 Try.underlying70 info_ints rfl n (by omega) (by omega)
  have hlen0 : (castE E).length = E.length := castE_length E
  rw [hlen0] at hlc hm ⊢
  have hen := Edges.nat hes
  have HE := Lib.hid hen
  clear hes hen hlen0 hv
  go_enter Try.func64, Try.ntmps64
  go_wp2
  go_loopw [4] (fun y wr => ∃ (k : Nat) (R : List Value), k ≤ E.length ∧ y = .int .i64 k ∧ LVS w wr [.int .i64 (n : Int), .int .i64 exit, .slice A E.length c] n (w.heap.size + 1) R ((List.range n).map (idxs Prod.fst (E.take k)))) (fun y _ => E.length - (intOf y).toNat)
  case atStart =>
    refine ⟨0, List.replicate n nil0, Nat.zero_le _, rfl, (Blk.newAt w 24 #[.int .i64 (n : Int), .int .i64 exit, .slice A E.length c] rfl).alloc _, ?_, ?_, List.length_replicate, ((Below.refl _ _).alloc (Nat.le_refl _) _).alloc (by simp) _, by omega⟩
    · have h := Blk.newAt (N := w.heap.size + 1) (w.alloc (.cells #[.int .i64 (n : Int), .int .i64 exit, .slice A E.length c] 24)) 27 (Array.replicate n nil0) (by simp)
      rw [Array.toList_replicate] at h
      exact h
    · have h : (List.range n).map (idxs Prod.fst (E.take 0)) = List.replicate n [] := by
        rw [List.take_zero]
        exact List.eq_replicate_iff.2 ⟨by simp, fun b hb => by simp [idxs_nil] at hb; exact hb.2⟩
      rw [h]
      exact ((fam_nils _ w _ n).alloc _).alloc _
  case round =>
    obtain ⟨k, R, hk, rfl, hp⟩ := hrel
    clear hmk
    have hgc : wr.cell? ⟨w.heap.size, 2, none⟩ = some (.slice A E.length c) := hp.g.cellAt rfl
    by_cases hlt : k < E.length
    · have hlt1 : (k : Int) < (E.length : Int) := by omega
      have hek : E[k]? = some E[k] := List.getElem?_eq_getElem hlt
      have hfn := (hE E[k] (List.getElem_mem hlt)).1
      have hps : (List.range n).map (idxs Prod.fst (E.take (k + 1))) = ((List.range n).map (idxs Prod.fst (E.take k))).set E[k].1 (idxs Prod.fst (E.take k) E[k].1 ++ [k]) := by
        rw [List.take_succ_eq_append_getElem hlt]
        have h := map_idxs_snoc Prod.fst n (E.take k) E[k]
        rw [List.length_take, Nat.min_eq_left hk] at h
        exact h
      revert hek hps hfn
      generalize E[k] = x
      intro hek hfn hps
      obtain ⟨f, t⟩ := x
      obtain ⟨ad, cs, rfl, hab, hcl, hcc, hc0, hc1, hone⟩ := HE.out k _ hek
      have g0 := (hp.bel.cell (p := (ad.add (k * 21)).add 0) (by rw [block_add, block_add]; omega)).trans (hcc 0 _ hc0)
      have g00 := hcc 0 _ hc0
      rw [addrZero] at g0 g00
      have HG0 := Lib.hid g00
      clear g00
      simp only at hfn hps
      have hfn1 : (f : Int) < (n : Int) := by omega
      have hfl : f < R.length := by rw [hp.lo]; exact hfn
      have hRf : R[f]? = some R[f] := List.getElem?_eq_getElem hfl
      revert hRf
      generalize R[f] = vr
      intro hRf
      have HPS := Lib.hid hps
      clear hps hek hcl hcc hc0 hc1 hone
      go_upto_region 5 with fail
      have hq := hp.drew
      have hHeld : wr.drew.cell? ⟨w.heap.size, 2, none⟩ = some (.slice (some ad) E.length c) ∧ wr.drew.cell? (ad.add (k * 21)) = some (.int .i64 (f : Int)) ∧ wr.drew.cell? ⟨w.heap.size + 1, f, none⟩ = some vr := ⟨hq.g.cellAt rfl, g0, hq.o.cellAt hRf⟩
      clear hp
      refine wp_region_front (S := fun w' => w'.cell? ⟨w.heap.size, 2, none⟩ = some (.slice (some ad) E.length c) ∧ w'.cell? (ad.add (k * 21)) = some (.int .i64 (f : Int)) ∧ w'.cell? ⟨w.heap.size + 1, f, none⟩ = some vr) 0 20 (by kernel_rfl) (by kernel_rfl) (by decide) rfl (by kernel_rfl) (by kernel_rfl) (fun _ _ _ h => h) (.inl ⟨by rfl, fun w' => by rfl⟩) ?_
      simp only [Act.put, List.setIfInBounds_toArray, List.set_cons_zero, List.set_cons_succ]
      revert hq hHeld
      generalize wr.drew = wz
      intro hq hHeld
      refine Front.take 1 (v := ?_) rfl (by decide) (by kernel_rfl) (by kernel_rfl) (fun _ _ _ h => h) rfl hHeld ?_ ?_
      case refine_2 => intro w' hSw; obtain ⟨q1, q2, q3⟩ := hSw; go_simp <;> with_reducible rfl
      simp only [Act.put, List.setIfInBounds_toArray, List.set_cons_zero, List.set_cons_succ]
      refine Front.take 2 (v := ?_) rfl (by decide) (by kernel_rfl) (by kernel_rfl) (fun _ _ _ h => h) rfl hHeld ?_ ?_
      case refine_2 => intro w' hSw; obtain ⟨q1, q2, q3⟩ := hSw; go_simp <;> with_reducible rfl
      simp only [Act.put, List.setIfInBounds_toArray, List.set_cons_zero, List.set_cons_succ]
      refine Front.take 3 (v := ?_) rfl (by decide) (by kernel_rfl) (by kernel_rfl) (fun _ _ _ h => h) rfl hHeld ?_ ?_
      case refine_2 => intro w' hSw; obtain ⟨q1, q2, q3⟩ := hSw; go_simp <;> with_reducible rfl
      simp only [Act.put, List.setIfInBounds_toArray, List.set_cons_zero, List.set_cons_succ]
      refine Front.take 4 (v := ?_) rfl (by decide) (by kernel_rfl) (by kernel_rfl) (fun _ _ _ h => h) rfl hHeld ?_ ?_
      case refine_2 => intro w' hSw; obtain ⟨q1, q2, q3⟩ := hSw; go_simp <;> with_reducible rfl
      simp only [Act.put, List.setIfInBounds_toArray, List.set_cons_zero, List.set_cons_succ]
      refine Front.take 5 (v := ?_) rfl (by decide) (by kernel_rfl) (by kernel_rfl) (fun _ _ _ h => h) rfl hHeld ?_ ?_
      case refine_2 => intro w' hSw; obtain ⟨q1, q2, q3⟩ := hSw; go_simp <;> with_reducible rfl
      simp only [Act.put, List.setIfInBounds_toArray, List.set_cons_zero, List.set_cons_succ]
      refine Front.take 6 (v := ?_) rfl (by decide) (by kernel_rfl) (by kernel_rfl) (fun _ _ _ h => h) rfl hHeld ?_ ?_
      case refine_2 => intro w' hSw; obtain ⟨q1, q2, q3⟩ := hSw; go_simp <;> with_reducible rfl
      simp only [Act.put, List.setIfInBounds_toArray, List.set_cons_zero, List.set_cons_succ]
      refine Front.take 7 (v := ?_) rfl (by decide) (by kernel_rfl) (by kernel_rfl) (fun _ _ _ h => h) rfl hHeld ?_ ?_
      case refine_2 => intro w' hSw; obtain ⟨q1, q2, q3⟩ := hSw; go_simp <;> with_reducible rfl
      simp only [Act.put, List.setIfInBounds_toArray, List.set_cons_zero, List.set_cons_succ]
      refine Front.take 8 (v := ?_) rfl (by decide) (by kernel_rfl) (by kernel_rfl) (fun _ _ _ h => h) rfl hHeld ?_ ?_
      case refine_2 => intro w' hSw; obtain ⟨q1, q2, q3⟩ := hSw; go_simp <;> with_reducible rfl
      simp only [Act.put, List.setIfInBounds_toArray, List.set_cons_zero, List.set_cons_succ]
      refine Front.take 9 (v := ?_) rfl (by decide) (by kernel_rfl) (by kernel_rfl) (fun _ _ _ h => h) rfl hHeld ?_ ?_
      case refine_2 => intro w' hSw; obtain ⟨q1, q2, q3⟩ := hSw; go_simp <;> with_reducible rfl
      simp only [Act.put, List.setIfInBounds_toArray, List.set_cons_zero, List.set_cons_succ]
      refine Front.take 10 (v := ?_) rfl (by decide) (by kernel_rfl) (by kernel_rfl) (fun _ _ _ h => h) rfl hHeld ?_ ?_
      case refine_2 => intro w' hSw; obtain ⟨q1, q2, q3⟩ := hSw; go_simp <;> with_reducible rfl
      simp only [Act.put, List.setIfInBounds_toArray, List.set_cons_zero, List.set_cons_succ]
      refine Front.take 11 (v := ?_) rfl (by decide) (by kernel_rfl) (by kernel_rfl) (fun _ _ _ h => h) rfl hHeld ?_ ?_
      case refine_2 => intro w' hSw; obtain ⟨q1, q2, q3⟩ := hSw; go_simp <;> with_reducible rfl
      simp only [Act.put, List.setIfInBounds_toArray, List.set_cons_zero, List.set_cons_succ]
      refine Front.take 12 (v := ?_) rfl (by decide) (by kernel_rfl) (by kernel_rfl) (fun _ _ _ h => h) rfl hHeld ?_ ?_
      case refine_2 => intro w' hSw; obtain ⟨q1, q2, q3⟩ := hSw; go_simp <;> with_reducible rfl
      simp only [Act.put, List.setIfInBounds_toArray, List.set_cons_zero, List.set_cons_succ]
      refine Front.take 13 (v := ?_) rfl (by decide) (by kernel_rfl) (by kernel_rfl) (fun _ _ _ h => h) rfl hHeld ?_ ?_
      case refine_2 => intro w' hSw; obtain ⟨q1, q2, q3⟩ := hSw; go_simp <;> with_reducible rfl
      simp only [Act.put, List.setIfInBounds_toArray, List.set_cons_zero, List.set_cons_succ]
      refine Front.take 14 (v := ?_) rfl (by decide) (by kernel_rfl) (by kernel_rfl) (fun _ _ _ h => h) rfl hHeld ?_ ?_
      case refine_2 => intro w' hSw; obtain ⟨q1, q2, q3⟩ := hSw; go_simp <;> with_reducible rfl
      simp only [Act.put, List.setIfInBounds_toArray, List.set_cons_zero, List.set_cons_succ]
      refine Front.take 15 (v := ?_) rfl (by decide) (by kernel_rfl) (by kernel_rfl) (fun _ _ _ h => h) rfl hHeld ?_ ?_
      case refine_2 => intro w' hSw; obtain ⟨q1, q2, q3⟩ := hSw; go_simp <;> with_reducible rfl
      simp only [Act.put, List.setIfInBounds_toArray, List.set_cons_zero, List.set_cons_succ]
      refine Front.take 16 (v := ?_) rfl (by decide) (by kernel_rfl) (by kernel_rfl) (fun _ _ _ h => h) rfl hHeld ?_ ?_
      case refine_2 => intro w' hSw; obtain ⟨q1, q2, q3⟩ := hSw; go_simp <;> with_reducible rfl
      simp only [Act.put, List.setIfInBounds_toArray, List.set_cons_zero, List.set_cons_succ]
      refine Front.one (i := 17) (by kernel_rfl) (by decide) ?_
      refine FrontStep.of rfl (fun K hK => ?_)
      go_simp
      have hm1 := hq.alloc (.cells #[.int .i64 (k : Int)] 3)
      have hb1 := Blk.new wz 3 [natV k]
      refine hK _ (wz.alloc (.cells #[.int .i64 (k : Int)] 3)) ?_ ?_
      case refine_1 => exact ⟨hm1.g.cellAt rfl, by simp [World.cell?_alloc_some, hHeld.2.1], hm1.o.cellAt hRf⟩
      clear K hK
      revert hm1 hb1
      simp only [natV]
      generalize wz.alloc (.cells #[.int .i64 (k : Int)] 3) = w1
      generalize wz.heap.size = eb
      intro hm1 hb1
      have hLf : ((List.range n).map (idxs Prod.fst (E.take k)))[f]? = some (idxs Prod.fst (E.take k) f) := by simp [hfn]
      have hln : (idxs Prod.fst (E.take k) f).length ≤ 1024 := Nat.le_trans (idxs_length _ _ _) (by rw [List.length_take]; omega)
      clear hHeld hq
      refine Front.one (i := 18) (by kernel_rfl) (by decide) ?_
      refine FrontStep.of rfl (fun K hK => ?_)
      refine step_append_fam rfl (.tmp 30) (.tmp 32) 27 rfl 3 Try.underlying27 info_int w.heap.size R _ f vr (idxs Prod.fst (E.take k) f) k eb rfl rfl hm1.fam hb1 hRf hLf hm1.bel.size (by omega) ?_
      intro g cap w' hF' hgrow
      have hvm : vr ∈ R := List.mem_of_getElem? hRf
      have hG := hm1.g.famKeep hm1.fam hvm hgrow (by decide)
      have hO := hm1.o.famKeep hm1.fam hvm hgrow (by decide)
      have d0 := hO.cellAt hRf
      have f0 := hO.frozen f
      have hbx : Below w.heap.size w w' := hm1.bel.grown hgrow hm1.bel.size (fun j hj => (hm1.fam.lt hRf hj).1)
      have hHeld := And.intro (hG.cellAt (i := 2) rfl) (And.intro ((hbx.cell (p := ad.add (k * 21)) (by rw [block_add]; omega)).trans (HG0.out)) (hO.cellAt hRf))
      refine hK _ w' hHeld ?_
      clear K hK
      simp only [Act.put, List.setIfInBounds_toArray, List.set_cons_zero, List.set_cons_succ]
      refine Front.take 19 (v := ?_) rfl (by decide) (by kernel_rfl) (by kernel_rfl) (fun _ _ _ h => h) rfl hHeld ?_ ?_
      case refine_2 => intro w' hSw; obtain ⟨q1, q2, q3⟩ := hSw; go_simp <;> with_reducible rfl
      simp only [Act.put, List.setIfInBounds_toArray, List.set_cons_zero, List.set_cons_succ]
      clear hHeld
      refine Front.done (by kernel_rfl) ?_
      simp only [List.drop_succ_cons, List.drop_zero]
      have hS := hO.set f (.slice (some ⟨g, 0, none⟩) ((idxs Prod.fst (E.take k) f).length + 1) cap)
      have hby := hbx.setCell (p := ⟨w.heap.size + 1, f, none⟩) (by simp) (.slice (some ⟨g, 0, none⟩) ((idxs Prod.fst (E.take k) f).length + 1) cap)
      have hfin : LVS w (w'.setCell ⟨w.heap.size + 1, f, none⟩ (.slice (some ⟨g, 0, none⟩) ((idxs Prod.fst (E.take k) f).length + 1) cap)) [.int .i64 (n : Int), .int .i64 exit, .slice (some ad) E.length c] n (w.heap.size + 1) (R.set f (.slice (some ⟨g, 0, none⟩) ((idxs Prod.fst (E.take k) f).length + 1) cap)) ((List.range n).map (idxs Prod.fst (E.take (k + 1)))) := by
        refine ⟨hG.far (by show w.heap.size ≠ w.heap.size + 1; omega) _, hS, ?_, by rw [List.length_set]; exact hm1.lo, hby, by omega⟩
        rw [HPS.out]
        exact hF'.set hO (by decide) _ _
      have HFIN := Lib.hid hfin
      clear hG hO hS hbx hby hfin hF' hgrow hm1 hb1
      go_wp2
      go_roundw
      case rel => exact ⟨k + 1, _, by omega, by go_num, HFIN.out⟩
      case measure => simp [intOf]; omega
    · obtain rfl : k = E.length := by omega
      rw [List.take_length] at hp
      obtain ⟨hg', ho', hf', hlo, hbel, -⟩ := hp
      go_wp2
      refine bodyPost_ret (v := .slice (some ⟨w.heap.size + 1, 0, none⟩) n n) ?_ rfl ⟨_, rfl, ?_, hbel⟩
      · simp [results, Try.results64, go_sem]
      · refine ⟨some ⟨w.heap.size + 1, 0, none⟩, n, by simp, by simp, by unfold maxLen; omega, fun j x hx => ?_⟩
        have hj : j < n := by have := (List.getElem?_eq_some_iff.1 hx).1; simpa using this
        obtain ⟨u, hu⟩ : ∃ u, R[j]? = some u := ⟨_, List.getElem?_eq_getElem (by rw [hlo]; exact hj)⟩
        exact ⟨_, u, rfl, ho'.lt, by rw [add_none]; exact ho'.cellAt hu, Sl.of_own natV (fun _ _ => rfl) (hf'.own j u x hu hx)⟩
end Go.Proofs.Ytngfoinceakgdaa

/- Package wto: Flat, Heads. -/
import Derived.Test.YthaampinmelgaaaGreatDoorAll
import Derived.Maps.OwnIn
namespace Go.Proofs.YthaampinmelgaaaGreatDoor
open Go.RowKit Go.Shelf

attribute [local go_sem] Oper.semAt_some

mutual
theorem walk_pts : ∀ (x : El) (hs : List Int), (x.walk hs).map (fun z => z.1.p) = x.pts
  | .mk p c b, hs => by rw [El.walk_mk, El.pts_mk, List.map_cons, walkL_pts b]; rfl
theorem walkL_pts : ∀ (l : List El) (hs : List Int), (walkL l hs).map (fun z => z.1.p) = ptsL l
  | [], hs => by simp [walkL_nil, ptsL_nil]
  | x :: l, hs => by rw [walkL_cons, ptsL_cons, List.map_append, walk_pts x, walkL_pts l]
end
theorem walkL_length (l : List El) (hs : List Int) : (walkL l hs).length = (ptsL l).length := by rw [← walkL_pts l hs, List.length_map]
mutual
def El.heads : El → List Int
  | .mk p c b => (if c then [p] else []) ++ headsL b
def headsL : List El → List Int
  | [] => []
  | x :: l => x.heads ++ headsL l
end
mutual
theorem walk_heads : ∀ (x : El) (hs : List Int), ((x.walk hs).filter fun z => z.1.c).map (fun z => z.1.p) = x.heads
  | .mk p c b, hs => by
    rw [El.walk_mk]
    simp only [El.heads]
    cases c
    · simp only [List.filter_cons, El.c, Bool.false_eq_true, if_false, List.nil_append]; exact walkL_heads b _
    · simp only [List.filter_cons, El.c, if_true, List.map_cons, List.singleton_append]; exact congrArg (p :: ·) (walkL_heads b _)
theorem walkL_heads : ∀ (l : List El) (hs : List Int), ((walkL l hs).filter fun z => z.1.c).map (fun z => z.1.p) = headsL l
  | [], hs => by simp [walkL_nil, headsL]
  | x :: l, hs => by rw [walkL_cons, List.filter_append, List.map_append, walk_heads x, walkL_heads l]; simp [headsL]
end

/-- What is collected between two rounds: the variable, its row, apart from the iterator's own blocks. -/
structure Coll (B : Nat) (w : World) (bo : Nat) (xs : List Int) (O : Nat → Prop) (W : World) : Prop where
  ex : ∃ vo, Blk W bo 31 [vo] ∧ W.ownsRow B 3 1 vo xs.length (xs.map (Value.int .i64)) ∧ ∀ b, O b → b ≠ bo ∧ vo.ownBlock ≠ some b
  lt : bo < B
  bel : Below bo w W
theorem Coll.own {β : Type} {B B0 : Nat} {w : World} {bo : Nat} {f : β → List Int} (hB : bo < B0) : OwnG B0 (fun s O W => Coll B w bo (f s) O W) := by
  rintro s O O' A A' row ⟨⟨vo, h1, h2, h3⟩, h4, h5⟩ hg hr hO
  have hk : ∀ {g : Nat} {t : TypeId} {cs : List Value} {fr : Nat × Nat}, A.heap[g]? = some (.cells cs.toArray t fr) → A'.heap[g]? = A.heap[g]? := fun {g t cs fr} hb => hg.block g (lt_of_block hb) (fun e' => by
    obtain ⟨_, o, ho, hc⟩ := hr g e'.symm
    rw [hb] at ho
    cases ho
    simp [Obj.isCells] at hc)
  have hsz := h1.lt
  refine ⟨⟨vo, h1.same (hk h1), ?_, fun b hb => ?_⟩, h4, h5.grown hg (by omega) (fun k e => by have := (hr k e).1; omega)⟩
  · rcases h2 with ⟨hl, ⟨rfl, hn⟩ | ⟨g, cap, cur, rfl, hb, hh, hrest⟩⟩
    · exact ⟨hl, .inl ⟨rfl, hn⟩⟩
    · exact ⟨hl, .inr ⟨g, cap, cur, rfl, hb, (hk (cs := cur.toList) (by simpa using hh)).trans hh, hrest⟩⟩
  · rcases (hO b hb).1 with h6 | h6
    · exact h3 b h6
    · exact ⟨by omega, fun e => by have := (h2.lt b e).2; omega⟩
theorem Coll.push {B bo N n c3 g3 : Nat} {w W2 W3 : World} {xs : List Int} {O : Nat → Prop} {vo : Value} {p : Int} {o : Obj} (h1 : Blk W2 bo 31 [vo]) (h2 : W2.ownsRow B 3 1 vo n (xs.map (Value.int .i64))) (h3 : ∀ b, O b → b ≠ bo ∧ vo.ownBlock ≠ some b) (hlt : bo < B) (h5 : Below bo w W2)
    (hO : ∀ b, O b → b < W2.heap.size) (hxs : xs.length = n) (hown : W3.ownsRow B 3 1 (.slice (some ⟨g3, 0, none⟩) (n + 1) c3) (n + 1) (xs.map (Value.int .i64) ++ [.int .i64 p])) (hgr : (W2.alloc o).grownBy W3 vo.ownBlock)
    (hat : (Value.slice (some ⟨g3, 0, none⟩) (n + 1) c3).ownBlock = vo.ownBlock ∨ (Value.slice (some ⟨g3, 0, none⟩) (n + 1) c3).ownBlock = some (W2.alloc o).heap.size) :
    KeepsFrom N W2 (W3.setCell ⟨bo, 0, none⟩ (.slice (some ⟨g3, 0, none⟩) (n + 1) c3)) ∧ (∀ b, O b → (W3.setCell ⟨bo, 0, none⟩ (.slice (some ⟨g3, 0, none⟩) (n + 1) c3)).heap[b]? = W2.heap[b]?) ∧ Coll B w bo (xs ++ [p]) O (W3.setCell ⟨bo, 0, none⟩ (.slice (some ⟨g3, 0, none⟩) (n + 1) c3)) := by
  have hsz := hgr.size
  simp at hsz
  have hkeep : ∀ b, b < W2.heap.size → b ≠ bo → vo.ownBlock ≠ some b → (W3.setCell ⟨bo, 0, none⟩ (.slice (some ⟨g3, 0, none⟩) (n + 1) c3)).heap[b]? = W2.heap[b]? := fun b hb hne hv =>
    (Below.heap_setCell W3 ⟨bo, 0, none⟩ _ b hne).trans ((hgr.block b (by simp; omega) (fun e => hv e.symm)).trans (Below.heap_alloc _ _ _ hb))
  have hvb : ∀ b, vo.ownBlock = some b → B ≤ b ∧ b < W2.heap.size := fun b hb => h2.lt b hb
  have hb3 : Blk W3 bo 31 [vo] := (h1.alloc o).same (hgr.block _ (by simp; have := h1.lt; omega) (fun e => by have := (hvb _ e.symm).1; omega))
  refine ⟨⟨by simp [World.setCell]; omega, fun k o' hk ho hc => ?_⟩, fun b hb => hkeep b (hO b hb) (h3 b hb).1 (h3 b hb).2, ⟨⟨_, by simpa using hb3.set 0 _, ?_, fun b hb => ⟨(h3 b hb).1, fun e => ?_⟩⟩, hlt, ?_⟩⟩
  · refine (hkeep k (lt_of_block ho) (fun e => ?_) (fun e => ?_)).trans ho
    · subst e; unfold Blk at h1; rw [h1] at ho; cases ho; simp [Obj.isCells] at hc
    · rcases h2.2 with ⟨rfl, -⟩ | ⟨g, cap, cur, rfl, -, hh, -⟩
      · cases e
      · cases e; rw [hh] at ho; cases ho; simp [Obj.isCells] at hc
  · have := ownsRow_setCell_below (a := ⟨bo, 0, none⟩) hown hlt (.slice (some ⟨g3, 0, none⟩) (n + 1) c3)
    simpa [hxs] using this
  · rcases hat with hat | hat
    · exact (h3 b hb).2 (hat.symm.trans e)
    · rw [hat] at e; cases e; have := hO _ hb; simp at this; omega
  · exact ((h5.alloc (by have := h1.lt; omega) o).grown hgr (by simp; have := h1.lt; omega) (fun k hk => by have := (hvb k hk).1; omega)).setCell (Nat.le_refl _) _
set_option maxRecDepth 100000 in
set_option maxHeartbeats 4000000 in
theorem flat_any {P : Nat → Prop} {w : World} {v : Value} {l : List El} (h : Els P w v l) (hP : ∀ b, P b → b < w.heap.size) (hlen : (ptsL l).length ≤ 1000000) :
    Calls Tryz.prog 9 #[v] w fun en w' => ∃ vo, en = .returned vo ∧ w'.ownsRow (w.heap.size + 1) 3 1 vo (ptsL l).length ((ptsL l).map (Value.int .i64)) ∧ Below w.heap.size w w' := by
  obtain ⟨A, c, rfl, hc1, hc2, -, -⟩ := id h.shape
  have HE := Lib.hid h
  have HP := Lib.hid hP
  clear h hP
  refine (callsIn_wide (n := 5)).1 (callsIn_of_wp_marks Tryz.func9 rfl trivial (wpIn_wide.2 ?_) rfl)
  simp only [Tryz.ntmps9, List.size_toArray, List.length_cons, List.length_nil, Nat.reduceAdd, Nat.reduceSub, Array.replicate_succ, Array.replicate_zero, List.push_toArray, List.append_toArray, List.nil_append, List.cons_append]
  go_wp2_with (go_at_call 30; refine (all_any _ _ _ _).mono ?_; rintro en w1 ⟨rfl, rfl⟩)
  refine wpIn_wide (n := 5).1 ?_
  obtain ⟨W0, hW0⟩ : ∃ W0, W0 = (w.alloc (.cells #[.slice none 0 0] 31)).alloc (.cells #[.slice A l.length c] 27) := ⟨_, rfl⟩
  have hs0 : W0.heap.size = w.heap.size + 2 := by rw [hW0]; simp
  have hbo : Blk W0 w.heap.size 31 [.slice none 0 0] := by rw [hW0]; exact (Blk.newAt w 31 #[.slice none 0 0] rfl).alloc _
  have hbt : Blk W0 (w.heap.size + 1) 27 [.slice A l.length c] := by rw [hW0]; exact Blk.newAt _ 27 #[.slice A l.length c] (by simp)
  have hbel : Below w.heap.size w W0 := by rw [hW0]; exact ((Below.refl _ w).alloc (Nat.le_refl _) _).alloc (by simp) _
  have hels : Els P W0 (.slice A l.length c) l := HE.out.under hbel HP.out
  rw [← hW0]
  clear hW0
  obtain ⟨ii, hi, hz0, hz1, hz2⟩ := info_parts info_int
  refine wpIn_range_ghost rfl (by omega) rfl trivial (enters_of Tryz.func49 (by kernel_rfl) rfl) (all_seq 4 hbt hels (fun b hb => by have := HP.out b hb; omega) hlen) (Below.refl _ _) (fun _ => rfl) (fun b hb => by have := HP.out b hb; omega)
    (fun pre O W => Coll (w.heap.size + 1) w w.heap.size (pre.map fun y => y.x.p) O W) (fun _ _ _ => False) (Coll.own (by omega)) (fun _ _ _ _ _ h _ _ => h)
    ⟨⟨_, hbo, World.ownsRow_nil _ _ _ _, fun b hb => ⟨by have := HP.out b hb; omega, fun e => by cases e⟩⟩, by omega, hbel⟩ ?round ?done ?stop
  case round =>
    intro lr pre y O W hlr hrec hO hI hN K hK
    have hpl : pre.length < 1000000 := by
      obtain ⟨⟨post, hG⟩, -⟩ := hN
      have := congrArg List.length hG
      rw [walkL_length] at this
      simp at this
      omega
    have hlW : lr < W.heap.size := by obtain ⟨r, hr⟩ := hrec; exact lt_of_block hr
    have HO := Lib.hid hO
    obtain ⟨⟨p, cc, bb⟩, hs, bv, hv⟩ := y
    obtain ⟨-, hN2, ⟨Ah, ch, hN3, -⟩, -⟩ := hN
    obtain ⟨Ab, cb, hN4, -⟩ := hN2.shape
    simp only at hN3 hN4
    subst hN3
    subst hN4
    clear hI hN2 hrec hO
    simp only [Yd.encs, El.p, El.c, El.body]
    gi_wp2
    refine hK _ _ (World.grownBy_alloc _ _ _) ?_
    intro W2 ho2 hs2 hl2 hi2
    clear hK
    obtain ⟨r2, hr2⟩ := hl2
    have hbx : Blk W2 W.heap.size 36 [.int .i64 p, .bool cc, .slice Ab bb.length cb] := (Blk.newAt W 36 #[.int .i64 p, .bool cc, .slice Ab bb.length cb] rfl).only ho2 (fun e => by omega)
    obtain ⟨⟨vo, h1, h2, h3⟩, -, h5⟩ := hi2
    have q1 := h1.cellAt (i := 0) rfl
    have f1 := h1.frozen 0
    have qx := hbx.cellAt (i := 0) rfl
    rw [List.length_map] at h2
    have hnb := Blk.newAt W2 3 #[.int .i64 p] rfl
    have hs2' : W.heap.size + 1 = W2.heap.size := by rw [hs2]; simp
    have HS2 := Lib.hid hs2'
    have H1 := Lib.hid h1
    have H2 := Lib.hid h2
    have H3 := Lib.hid h3
    have H5 := Lib.hid h5
    have HNB := Lib.hid hnb
    have hwW2 : w.heap.size + 1 ≤ W2.heap.size := by have := h1.lt; omega
    clear hs2 h1 h2 h3 h5 hnb hbx hs2'
    gi_wp2_with (gi_at_builtin; refine wpListIn_append_own_at _ rfl (.tmp 9) (.tmp 12) 31 rfl (w.heap.size + 1) 3 ii (.int .i64 0) 1 8 Tryz.underlying31 hi hz0 hz1 hz2 rfl (by decide) vo pre.length ((pre.map fun y => y.x.p).map (Value.int .i64)) rfl (H2.out.alloc _) ⟨W2.heap.size, 0, none⟩ 1 1 [.int .i64 p] rfl rfl (fun j u' hj => by rw [add_none]; exact HNB.out.cellAt hj) (fun u' hu => by simp at hu; subst hu; rfl) (by unfold maxLen; omega) (by omega) (by simp; omega) ?_; intro v3 W3 hown hgr _ hat; obtain ⟨g3, c3, rfl⟩ := ownsRow_succ hown; have hb3 := (H1.out.alloc (.cells #[.int .i64 p] 3)).same (hgr.block _ (by simp; omega) (fun e => by have := (H2.out.lt _ e.symm).1; omega)); have q3 := hb3.cellAt (i := 0) rfl; have f3 := hb3.frozen 0)
    have hpush := Coll.push (N := w.heap.size + 2) H1.out H2.out H3.out (Nat.lt_succ_self _) H5.out (fun b hb => by have := (HO.out b hb).2; have := HS2.out; omega) (by simp) hown hgr hat
    exact ⟨hpush.1, hpush.2.1, by show Coll _ _ _ (List.map _ (pre ++ [_])) _ _; rw [List.map_append]; exact hpush.2.2⟩
  case done =>
    rintro D ys W hD hE ⟨⟨vo, h1, h2, -⟩, -, h5⟩ hdef
    have hpts : ys.map (fun y => y.x.p) = ptsL l := by rw [← walkL_pts l [], ← hE, List.map_map]; rfl
    rw [hpts] at h2
    have q1 := h1.cellAt (i := 0) rfl
    have hDne : D ≠ w.heap.size := by omega
    have H2 := Lib.hid h2
    have H5 := Lib.hid h5
    clear h2 h5 hpts hE
    go_wp2
    refine ⟨by simp, .inl ⟨_, _, rfl, run_takeDeferred hdef, ?_⟩⟩
    refine ⟨_, results_tmp rfl _ _ _, _, rfl, ownsRow_putObj H2.out _ hdef rfl, H5.out.grown (grownBy_putObj' _ D _) H5.out.size (fun k e => by cases e; omega)⟩
  case stop => intro D c pre W _ h; exact h.elim
end Go.Proofs.YthaampinmelgaaaGreatDoor

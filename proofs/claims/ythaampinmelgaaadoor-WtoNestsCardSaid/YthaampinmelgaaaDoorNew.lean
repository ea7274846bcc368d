/- Package graph: newShape. -/
import Derived.Test.YthaampinmelgaaaDoorShape
import Derived.Test.YthaampinmelgaaaDoorFam
import Derived.Test.YthaampinmelgaaaDoorGraph
import Derived.Test.YthaampinmelgaaaDoorPlain1
import Derived.Test.YthaampinmelgaaaDoorReach
import Derived.Test.YthaampinmelgaaaDoorFront
import Derived.Deep.RegionHeld3
import Derived.Deep.AppendLies
import Derived.Deep.DrawnRows
import Derived.BigRegion
import Derived.StillTailTactics
namespace Go.Proofs.YthaampinmelgaaaDoor
open Go.RowKit

theorem info_ints : (Tryd.prog.info? 51).map (fun i => (i.zero, i.size, i.bytes)) = some (some (.slice none 0 0), 1, 24) := by kernel_rfl

/-- The shape that is being made: where it lies, and its rows. -/
structure NS (w W : World) (gv : List Value) (n sb bo bi : Nat) (vf vt : Value) (vos vis : List Value) (L : List (List Nat)) : Prop where
  g : Blk W w.heap.size 24 gv
  s : Blk W sb 120 [.int .i64 (n : Int), .int .i64 0, vf, vt, .slice (some ⟨bo, 0, none⟩) n n, .slice (some ⟨bi, 0, none⟩) n n]
  o : Blk W bo 51 vos
  i : Blk W bi 51 vis
  fam : Fam 3 W w.heap.size (vf :: vt :: (vos ++ vis)) L
  lo : vos.length = n
  li : vis.length = n
  ne : bo ≠ bi
  bel : Below w.heap.size w W
  hs : w.heap.size ≤ sb
  ho : w.heap.size ≤ bo
  hi : w.heap.size ≤ bi

theorem fam_nils (e : TypeId) (w : World) (base n : Nat) : Fam e w base (List.replicate n (.slice none 0 0)) (List.replicate n []) := by
  refine ⟨by simp, fun i v l hv hl => ?_, fun i j u v hu hv _ => ?_⟩
  · rw [List.getElem?_replicate] at hv hl
    split at hv
    · rename_i h
      rw [if_pos h] at hl
      cases hv; cases hl
      exact World.ownsRow_nil _ _ _ _
    · cases hv
  · rw [List.getElem?_replicate] at hu
    split at hu
    · cases hu; exact .inl rfl
    · cases hu

/-- How it begins: in whatever order the two outer rows were made. -/
theorem NS.start (w : World) (gv : List Value) (n : Nat) {b1 b2 : Nat} (h1 : b1 = w.heap.size + 1) (h2 : b2 = w.heap.size + 1 + 1) {bo bi : Nat} (hb : (bo = b1 ∧ bi = b2) ∨ (bo = b2 ∧ bi = b1)) {W : World}
    (hW : W = ((((w.drew.alloc (.cells gv.toArray 24)).alloc (.cells (Array.replicate n (.slice none 0 0)) 51)).alloc (.cells (Array.replicate n (.slice none 0 0)) 51)).alloc
      (.cells #[.int .i64 (n : Int), .int .i64 0, .slice none 0 0, .slice none 0 0, .slice (some ⟨bo, 0, none⟩) n n, .slice (some ⟨bi, 0, none⟩) n n] 120))) :
    NS w W gv n (w.heap.size + 1 + 1 + 1) bo bi (.slice none 0 0) (.slice none 0 0) (List.replicate n (.slice none 0 0)) (List.replicate n (.slice none 0 0)) (rowsAt n []) := by
  have hbel : Below w.heap.size w W := by rw [hW]; exact (((((Below.refl _ w).drew).alloc (Nat.le_refl _) _).alloc (by simp) _).alloc (by simp; omega) _).alloc (by simp; omega) _
  have g1 : Blk W b1 51 (List.replicate n (.slice none 0 0)) := by
    have h := Blk.newAt (N := b1) (w.drew.alloc (.cells gv.toArray 24)) 51 (Array.replicate n (.slice none 0 0)) (by simp [h1])
    rw [Array.toList_replicate] at h
    rw [hW]; exact (h.alloc _).alloc _
  have g2 : Blk W b2 51 (List.replicate n (.slice none 0 0)) := by
    have h := Blk.newAt (N := b2) ((w.drew.alloc (.cells gv.toArray 24)).alloc (.cells (Array.replicate n (.slice none 0 0)) 51)) 51 (Array.replicate n (.slice none 0 0)) (by simp [h2])
    rw [Array.toList_replicate] at h
    rw [hW]; exact h.alloc _
  have hr : (Value.slice none 0 0 :: Value.slice none 0 0 :: (List.replicate n (Value.slice none 0 0) ++ List.replicate n (Value.slice none 0 0))) = List.replicate (n + n + 2) (Value.slice none 0 0) := by
    rw [List.replicate_append_replicate]; rfl
  refine ⟨?_, ?_, ?_, ?_, by rw [hr, rowsAt_nil]; exact fam_nils _ _ _ _, by simp, by simp, by omega, hbel, by omega, by omega, by omega⟩
  · have h := Blk.newAt (N := w.heap.size) w.drew 24 gv.toArray rfl
    rw [hW]; exact ((h.alloc _).alloc _).alloc _
  · rw [hW]; exact Blk.newAt _ _ _ (by simp)
  · rcases hb with ⟨rfl, rfl⟩ | ⟨rfl, rfl⟩
    · exact g1
    · exact g2
  · rcases hb with ⟨rfl, rfl⟩ | ⟨rfl, rfl⟩
    · exact g2
    · exact g1

theorem NS.alloc {w W : World} {gv : List Value} {n sb bo bi : Nat} {vf vt : Value} {vos vis : List Value} {L : List (List Nat)} (h : NS w W gv n sb bo bi vf vt vos vis L) (o : Obj) : NS w (W.alloc o) gv n sb bo bi vf vt vos vis L :=
  ⟨h.g.alloc o, h.s.alloc o, h.o.alloc o, h.i.alloc o, h.fam.alloc o, h.lo, h.li, h.ne, h.bel.alloc h.bel.size o, h.hs, h.ho, h.hi⟩

theorem NS.shape {w W : World} {gv : List Value} {n sb bo bi : Nat} {vf vt : Value} {vos vis : List Value} {E : List (Nat × Nat)} (h : NS w W gv n sb bo bi vf vt vos vis (rowsAt n E)) (hn : n ≤ 512) : IsShape W.heap.size W sb (shapeOf n E) := by
  have row : ∀ (i : Nat) (v : Value) (l : List Nat), (vf :: vt :: (vos ++ vis))[i]? = some v → (rowsAt n E)[i]? = some l → Nats W.heap.size W v l := fun i v l hv hl =>
    Sl.of_own natV (fun _ _ => rfl) (h.fam.own i v l hv hl)
  refine ⟨h.s.lt, vf, vt, _, _, h.s, row 0 _ _ rfl rfl, row 1 _ _ rfl rfl, ?_, ?_⟩
  · refine ⟨some ⟨bo, 0, none⟩, n, by simp [shapeOf], by simp [shapeOf], by unfold maxLen; omega, fun j x hx => ?_⟩
    simp only [shapeOf, List.getElem?_map] at hx
    obtain ⟨j', hj', rfl⟩ := Option.map_eq_some_iff.1 hx
    have hj : j < n := by have := (List.getElem?_eq_some_iff.1 hj').1; simpa using this
    obtain rfl : j' = j := by rw [List.getElem?_range hj] at hj'; exact (Option.some.inj hj').symm
    obtain ⟨v, hv⟩ : ∃ v, vos[j']? = some v := ⟨_, List.getElem?_eq_getElem (by rw [h.lo]; exact hj)⟩
    refine ⟨_, v, rfl, h.o.lt, by rw [add_none]; exact h.o.cellAt hv, row (j' + 2) _ _ ?_ (rowsAt_getF _ _ _ hj)⟩
    rw [List.getElem?_cons_succ, List.getElem?_cons_succ, List.getElem?_append_left (by rw [h.lo]; exact hj)]
    exact hv
  · refine ⟨some ⟨bi, 0, none⟩, n, by simp [shapeOf], by simp [shapeOf], by unfold maxLen; omega, fun j x hx => ?_⟩
    simp only [shapeOf, List.getElem?_map] at hx
    obtain ⟨j', hj', rfl⟩ := Option.map_eq_some_iff.1 hx
    have hj : j < n := by have := (List.getElem?_eq_some_iff.1 hj').1; simpa using this
    obtain rfl : j' = j := by rw [List.getElem?_range hj] at hj'; exact (Option.some.inj hj').symm
    obtain ⟨v, hv⟩ : ∃ v, vis[j']? = some v := ⟨_, List.getElem?_eq_getElem (by rw [h.li]; exact hj)⟩
    refine ⟨_, v, rfl, h.i.lt, by rw [add_none]; exact h.i.cellAt hv, row (n + j' + 2) _ _ ?_ (rowsAt_getT _ _ _ hj)⟩
    rw [List.getElem?_cons_succ, List.getElem?_cons_succ, List.getElem?_append_right (by rw [h.lo]; omega), h.lo, Nat.add_sub_cancel_left]
    exact hv

theorem keep5 {w' : World} {sb eb n : Nat} {vf vt vo vi : Value} {cs : List Value} {f t : Nat} (hs : Blk w' sb 120 [.int .i64 (n : Int), .int .i64 0, vf, vt, vo, vi]) (he : Blk w' eb 64 cs)
    (h0 : cs[0]? = some (.int .i64 (f : Int))) (h1 : cs[1]? = some (.int .i64 (t : Int))) :
    w'.cell? ⟨sb, 2, none⟩ = some vf ∧ w'.cell? ⟨sb, 3, none⟩ = some vt ∧ w'.cell? ⟨eb, 0, none⟩ = some (.int .i64 (f : Int)) ∧ w'.cell? ⟨eb, 1, none⟩ = some (.int .i64 (t : Int)) ∧ w'.frozen? ⟨sb, 2, none⟩ = false ∧ w'.frozen? ⟨sb, 3, none⟩ = false :=
  ⟨hs.cellAt rfl, hs.cellAt rfl, he.cellAt h0, he.cellAt h1, hs.frozen 2, hs.frozen 3⟩

/-- What the loads of the line find. -/
def Held5 (sb eb : Nat) (vf vt : Value) (f t : Nat) (w' : World) : Prop :=
  w'.cell? ⟨sb, 2, none⟩ = some vf ∧ w'.cell? ⟨sb, 3, none⟩ = some vt ∧ w'.cell? ⟨eb, 0, none⟩ = some (.int .i64 (f : Int)) ∧ w'.cell? ⟨eb, 1, none⟩ = some (.int .i64 (t : Int))

section
variable {P : Program}
/-- append of one element to a row of the family's, at a step of a list. -/
theorem wpList_append_fam {w : World} {ops : Array Oper} {rest : List Oper} {o : Oper} {a : Act} {Q : Exit → Act → World → Prop} (hgd : o.guard = none) (s x : Operand) (t : TypeId)
    (ho : o.op = .call { callee := .builtin .append, args := #[s, x], argTypes := #[t, t] })
    (e : TypeId) (ht : P.underlying t = some (.slice e)) (hinfo : (P.info? e).map (fun i => (i.zero, i.size, i.bytes)) = some (some (.int .i64 0), 1, 8))
    (base : Nat) (R : List Value) (L : List (List Nat)) (i : Nat) (v : Value) (l : List Nat) (y nb : Nat) (hs : a.eval s = v) (hx : a.eval x = .slice (some ⟨nb, 0, none⟩) 1 1)
    (hF : Fam e w base R L) (hnb : Blk w nb e [natV y]) (hv : R[i]? = some v) (hl : L[i]? = some l) (hb : base ≤ w.heap.size) (hlen : l.length + 1 ≤ 1000000)
    (h : ∀ g cap w', Fam e w' base (R.set i (.slice (some ⟨g, 0, none⟩) (l.length + 1) cap)) (L.set i (l ++ [y])) → w.grownBy w' v.ownBlock → wpList P ops Q rest (a.put o.dst (.slice (some ⟨g, 0, none⟩) (l.length + 1) cap)) w') :
    wpList P ops Q (o :: rest) a w := by
  obtain ⟨i0, hi0, hz0, hz1, hz2⟩ := info_parts hinfo
  obtain ⟨l', hl', hown⟩ := hF.get hv
  obtain rfl : l' = l := by rw [hl] at hl'; exact (Option.some.inj hl').symm
  refine wpList_append_lies w hgd s x t ho base e i0 (.int .i64 0) 1 8 ht hi0 hz0 hz1 hz2 rfl (by decide) v l'.length (l'.map natV) hs hown ⟨nb, 0, none⟩ 1 1 [natV y] hx rfl
    (fun j u hj => by rw [add_none]; exact hnb.cellAt hj) (fun u hu => by simp at hu; subst hu; rfl) (by omega) (by unfold maxLen; omega) (by omega) hb w.heap.size rfl ?_
  intro g cap w' h1 h2 h3 _
  refine h g cap w' (hF.push hv hl h2 h1 ?_) h2
  rcases h3 with h3 | h3
  · exact .inl h3.symm
  · exact .inr ⟨g, rfl, by omega⟩
end

/-- What the loads of a line 's.row[x] = append(s.row[x], i)' find. -/
def HeldR (sb q : Nat) (vr : Value) (eb j x : Nat) (br : Nat) (v : Value) (w' : World) : Prop :=
  w'.cell? ⟨sb, q, none⟩ = some vr ∧ w'.cell? ⟨eb, j, none⟩ = some (.int .i64 (x : Int)) ∧ w'.cell? ⟨br, x, none⟩ = some v

/-- The two appends of the line under way: the shape still holds the old rows. -/
structure M5 (w W : World) (gv : List Value) (n sb bo bi : Nat) (vf vt : Value) (vos vis : List Value) (eb : Nat) (cs : List Value) (R : List Value) (L : List (List Nat)) : Prop where
  g : Blk W w.heap.size 24 gv
  s : Blk W sb 120 [.int .i64 (n : Int), .int .i64 0, vf, vt, .slice (some ⟨bo, 0, none⟩) n n, .slice (some ⟨bi, 0, none⟩) n n]
  o : Blk W bo 51 vos
  i : Blk W bi 51 vis
  e : Blk W eb 64 cs
  fam : Fam 3 W w.heap.size R L
  bel : Below w.heap.size w W

section
variable {w W : World} {gv : List Value} {n sb bo bi : Nat} {vf vt : Value} {vos vis : List Value} {eb : Nat} {cs : List Value} {R : List Value} {L : List (List Nat)}
theorem M5.alloc (h : M5 w W gv n sb bo bi vf vt vos vis eb cs R L) (o : Obj) : M5 w (W.alloc o) gv n sb bo bi vf vt vos vis eb cs R L :=
  ⟨h.g.alloc o, h.s.alloc o, h.o.alloc o, h.i.alloc o, h.e.alloc o, h.fam.alloc o, h.bel.alloc h.bel.size o⟩
theorem M5.drew (h : M5 w W gv n sb bo bi vf vt vos vis eb cs R L) : M5 w W.drew gv n sb bo bi vf vt vos vis eb cs R L :=
  ⟨h.g, h.s, h.o, h.i, h.e, h.fam.drew, h.bel.drew⟩
theorem M5.held (h : M5 w W gv n sb bo bi vf vt vos vis eb cs R L) {f t : Nat} (h0 : cs[0]? = some (.int .i64 (f : Int))) (h1 : cs[1]? = some (.int .i64 (t : Int))) : Held5 sb eb vf vt f t W :=
  ⟨h.s.cellAt rfl, h.s.cellAt rfl, h.e.cellAt h0, h.e.cellAt h1⟩
theorem M5.app (h : M5 w W gv n sb bo bi vf vt vos vis eb cs R L) {W' : World} {R' : List Value} {L' : List (List Nat)} {v : Value} (hv : v ∈ R) (hg : W.grownBy W' v.ownBlock) (hF : Fam 3 W' w.heap.size R' L') : M5 w W' gv n sb bo bi vf vt vos vis eb cs R' L' :=
  ⟨h.g.famKeep h.fam hv hg (by decide), h.s.famKeep h.fam hv hg (by decide), h.o.famKeep h.fam hv hg (by decide), h.i.famKeep h.fam hv hg (by decide), h.e.famKeep h.fam hv hg (by decide), hF,
    h.bel.trans ((Only.of_grown (S := fun b => w.heap.size ≤ b) hg (fun b hb => by
      obtain ⟨i, hi⟩ := List.mem_iff_getElem?.1 hv
      exact (h.fam.lt hi hb).1)).below h.bel.size (fun b hb hb' => by omega))⟩
/-- The two stores at the line's end. -/
theorem M5.store {vf' vt' : Value} (h : M5 w W gv n sb bo bi vf vt vos vis eb cs (vf' :: vt' :: (vos ++ vis)) L) (lo : vos.length = n) (li : vis.length = n) (ne : bo ≠ bi) (hs : w.heap.size ≤ sb) (ho : w.heap.size ≤ bo) (hi : w.heap.size ≤ bi) :
    NS w ((W.setCell ⟨sb, 2, none⟩ vf').setCell ⟨sb, 3, none⟩ vt') gv n sb bo bi vf' vt' vos vis L ∧ Blk ((W.setCell ⟨sb, 2, none⟩ vf').setCell ⟨sb, 3, none⟩ vt') eb 64 cs := by
  have hs1 := h.s.set 2 vf'
  have hs2 := hs1.set 3 vt'
  have far : ∀ {g : Nat} {t : TypeId} {xs : List Value}, Blk W g t xs → t ≠ 120 → Blk ((W.setCell ⟨sb, 2, none⟩ vf').setCell ⟨sb, 3, none⟩ vt') g t xs := fun hb hne => by
    have := hb.ne h.s hne
    exact (hb.far (p := ⟨sb, 2, none⟩) this vf').far (p := ⟨sb, 3, none⟩) this vt'
  refine ⟨⟨far h.g (by decide), hs2, far h.o (by decide), far h.i (by decide), (h.fam.set h.s (by decide) 2 vf').set hs1 (by decide) 3 vt', lo, li, ne, (h.bel.setCell hs _).setCell hs _, hs, ho, hi⟩, far h.e (by decide)⟩
theorem NS.m5 (h : NS w W gv n sb bo bi vf vt vos vis L) (he : Blk W eb 64 cs) : M5 w W gv n sb bo bi vf vt vos vis eb cs (vf :: vt :: (vos ++ vis)) L := ⟨h.g, h.s, h.o, h.i, he, h.fam, h.bel⟩
/-- A store to a row of one of the two outer rows. -/
theorem M5.storeOut {v' : Value} {f : Nat} (h : M5 w W gv n sb bo bi vf vt vos vis eb cs ((vf :: vt :: (vos ++ vis)).set (f + 2) v') L) (hf : f < n) (lo : vos.length = n) (li : vis.length = n) (ne : bo ≠ bi) (hs : w.heap.size ≤ sb) (ho : w.heap.size ≤ bo) (hi : w.heap.size ≤ bi) :
    NS w (W.setCell ⟨bo, f, none⟩ v') gv n sb bo bi vf vt (vos.set f v') vis L ∧ Blk (W.setCell ⟨bo, f, none⟩ v') eb 64 cs := by
  refine ⟨⟨h.g.far (h.g.ne h.o (by decide)) _, h.s.far (h.s.ne h.o (by decide)) _, h.o.set f v', h.i.far (Ne.symm ne) _, ?_, by simp [lo], li, ne, h.bel.setCell ho _, hs, ho, hi⟩, h.e.far (h.e.ne h.o (by decide)) _⟩
  have := h.fam.set h.o (by decide) f v'
  rwa [List.set_cons_succ, List.set_cons_succ, List.set_append, if_pos (by omega)] at this
theorem M5.storeIn {v' : Value} {t : Nat} (h : M5 w W gv n sb bo bi vf vt vos vis eb cs ((vf :: vt :: (vos ++ vis)).set (n + t + 2) v') L) (lo : vos.length = n) (li : vis.length = n) (ne : bo ≠ bi) (hs : w.heap.size ≤ sb) (ho : w.heap.size ≤ bo) (hi : w.heap.size ≤ bi) :
    NS w (W.setCell ⟨bi, t, none⟩ v') gv n sb bo bi vf vt vos (vis.set t v') L ∧ Blk (W.setCell ⟨bi, t, none⟩ v') eb 64 cs := by
  refine ⟨⟨h.g.far (h.g.ne h.i (by decide)) _, h.s.far (h.s.ne h.i (by decide)) _, h.o.far ne _, h.i.set t v', ?_, lo, by simp [li], ne, h.bel.setCell hi _, hs, ho, hi⟩, h.e.far (h.e.ne h.i (by decide)) _⟩
  have := h.fam.set h.i (by decide) t v'
  rwa [List.set_cons_succ, List.set_cons_succ, List.set_append, if_neg (by omega), lo, Nat.add_sub_cancel_left] at this
end

attribute [local go_sem] Go.wp_at_zero Go.wp_at_succ

set_option maxRecDepth 100000 in
set_option maxHeartbeats 4000000 in
set_option linter.unusedSimpArgs false in
theorem newShape_any (B : Nat) (w : World) (n : Nat) (exit : Int) (v : Value) (E : List (Nat × Nat)) (hv : Edges B w v (castE E)) (hB : B ≤ w.heap.size) (hn : n ≤ 512) (hE : ∀ x ∈ E, x.1 < n ∧ x.2 < n) (hl : E.length ≤ 1024) :
    Calls Tryd.prog 56 #[.agg #[.int .i64 (n : Int), .int .i64 exit, v]] w fun en w' =>
      ∃ sb, en = .returned (.pointer (some ⟨sb, 0, none⟩)) ∧ IsShape w'.heap.size w' sb (shapeOf n E) ∧ Below w.heap.size w w' := by
  obtain ⟨A, c, rfl, hlc, -, hm, hes⟩ := hv.shape
  have hmk := make_one (P := Tryd.prog) 76 51 (.slice none 0 0) 24 Tryd.underlying76 info_ints rfl n (by omega) (by omega)
  have HE := Lib.hid hes
  clear hes
  go_enter Tryd.func56, Tryd.ntmps56
  go_wp2
  go_upto_region 2 with (fail)
  go_cut [3] (fun s3 wx => ∃ sb bo bi, s3 = .pointer (some ⟨sb, 0, none⟩) ∧ NS w wx [.int .i64 (n : Int), .int .i64 exit, .slice A (castE E).length c] n sb bo bi (.slice none 0 0) (.slice none 0 0) (List.replicate n (.slice none 0 0)) (List.replicate n (.slice none 0 0)) (rowsAt n []))
  case first =>
    go_region_held3 (fun w' => w'.cell? ⟨w.heap.size, 0, none⟩ = some (.int .i64 (n : Int))) (go_keep) (fail)
    · go_wp2_with fail
      go_meet
      exact ⟨_, _, _, rfl, NS.start w [.int .i64 (n : Int), .int .i64 exit, .slice A (castE E).length c] n rfl rfl (.inl ⟨rfl, rfl⟩) rfl⟩
    · go_wp2_with fail
      go_meet
      exact ⟨_, _, _, rfl, NS.start w [.int .i64 (n : Int), .int .i64 exit, .slice A (castE E).length c] n rfl rfl (.inr ⟨rfl, rfl⟩) rfl⟩
  case rest =>
    clear hmk
    obtain ⟨sb, bo, bi, rfl, hns⟩ := hcut
    have cg2 := hns.g.cellAt (i := 2) rfl
    go_wp2
    go_loopw [19] (fun i wr => ∃ (k : Nat) (vf vt : Value) (vos vis : List Value), k ≤ E.length ∧ i = .int .i64 k ∧ NS w wr [.int .i64 (n : Int), .int .i64 exit, .slice A (castE E).length c] n sb bo bi vf vt vos vis (rowsAt n (E.take k)))
      (fun i _ => E.length - (intOf i).toNat)
    case atStart => exact ⟨0, _, _, _, _, Nat.zero_le _, rfl, hns⟩
    case round =>
      obtain ⟨k, vf, vt, vos, vis, hk, rfl, hn1⟩ := hrel
      clear cg2 hns
      by_cases hlt : k < E.length
      · have hek : E[k]? = some E[k] := List.getElem?_eq_getElem hlt
        have hxn := hE E[k] (List.getElem_mem hlt)
        revert hek hxn
        generalize E[k] = x
        obtain ⟨f, t⟩ := x
        intro hek hxn
        obtain ⟨hfn, htn⟩ := hxn
        have hck : (castE E)[k]? = some ((f : Int), (t : Int)) := by simp [castE, hek]
        obtain ⟨ad, cs, rfl, hab, hcl, hcc, hc0, hc1, hone⟩ := HE.out k _ hck
        have hcr : ∀ j v, cs[j]? = some v → wr.cell? ((ad.add (k * 21)).add j) = some v := fun j v hj => (hn1.bel.cell (by rw [block_add, block_add]; omega)).trans (hcc j v hj)
        have HC := Lib.hid hcr
        have HL := Lib.hid hcl
        have H1 := Lib.hid hone
        have HK := Lib.hid hek
        have hlc' : (k : Int) < ((castE E).length : Int) := by simp [castE]; omega
        clear hcc hcr hcl hone hek hck
        go_upto_region 5 with (first
          | ((with_reducible show wpList _ _ _ (⟨some 23, .load 64 (.tmp 22), _, _, _, _⟩ :: _) _ _); refine wpList_load_list rfl _ _ rfl (ad.add (k * 21)) rfl cs _ HC.out Tryd.underlying64 rfl (by rw [HL.out]; exact size_edge) ?_)
          | ((with_reducible show wpList _ _ _ (⟨none, .store 64 (.tmp 5) (.tmp 23), _, _, _, _⟩ :: _) _ _); refine wpList_store_new rfl _ _ _ rfl _ _ cs rfl rfl (by rw [HL.out]; exact size_edge) (by rw [HL.out]; rfl) H1.out ?_))
        simp only [Act.put, List.setIfInBounds_toArray, List.set_cons_zero, List.set_cons_succ]
        have hn2 := hn1.alloc (.cells cs.toArray 64)
        have heb := Blk.newAt (N := wr.heap.size) wr 64 cs.toArray rfl
        rw [List.toList_toArray] at heb
        have hl0 : ((E.take k).map Prod.fst).length = k := by simp; omega
        have hl1 : ((E.take k).map Prod.snd).length = k := by simp; omega
        go_cut [] (fun wx => ∃ vf' vt', NS w wx [.int .i64 (n : Int), .int .i64 exit, .slice (some ad) (castE E).length c] n sb bo bi vf' vt' vos vis (((rowsAt n (E.take k)).set 0 ((E.take k).map Prod.fst ++ [f])).set 1 ((E.take k).map Prod.snd ++ [t])) ∧ Blk wx wr.heap.size 64 cs)
        case first =>
          clear hn1 HE HC HK H1 hv hE
          have hm0 : M5 w (wr.alloc (.cells cs.toArray 64)).drew [.int .i64 (n : Int), .int .i64 exit, .slice (some ad) (castE E).length c] n sb bo bi vf vt vos vis wr.heap.size cs (vf :: vt :: (vos ++ vis)) (rowsAt n (E.take k)) := ⟨hn2.g, hn2.s, hn2.o, hn2.i, heb, hn2.fam.drew, hn2.bel.drew⟩
          refine wp_region_front (S := Held5 sb wr.heap.size vf vt f t) 1 18 (by kernel_rfl) (by kernel_rfl) (by decide) rfl (by kernel_rfl) (by kernel_rfl) (fun _ _ _ h => h) (.inl ⟨by rfl, fun w' => by rfl⟩) ?_
          simp only [Act.put, List.setIfInBounds_toArray, List.set_cons_zero, List.set_cons_succ]
          have hHeld : Held5 sb wr.heap.size vf vt f t (wr.alloc (.cells cs.toArray 64)).drew := hm0.held hc0 hc1
          refine Front.take 0 (v := ?_) rfl (by decide) (by kernel_rfl) (by kernel_rfl) (fun _ _ _ h => h) rfl hHeld ?_ ?_
          case refine_2 => intro w' hSw; obtain ⟨q1, q2, q3, q4⟩ := hSw; go_simp <;> with_reducible rfl
          simp only [Act.put, List.setIfInBounds_toArray, List.set_cons_zero, List.set_cons_succ]
          refine Front.take 2 (v := ?_) rfl (by decide) (by kernel_rfl) (by kernel_rfl) (fun _ _ _ h => h) rfl hHeld ?_ ?_
          case refine_2 => intro w' hSw; obtain ⟨q1, q2, q3, q4⟩ := hSw; go_simp <;> with_reducible rfl
          simp only [Act.put, List.setIfInBounds_toArray, List.set_cons_zero, List.set_cons_succ]
          refine Front.take 3 (v := ?_) rfl (by decide) (by kernel_rfl) (by kernel_rfl) (fun _ _ _ h => h) rfl hHeld ?_ ?_
          case refine_2 => intro w' hSw; obtain ⟨q1, q2, q3, q4⟩ := hSw; go_simp <;> with_reducible rfl
          simp only [Act.put, List.setIfInBounds_toArray, List.set_cons_zero, List.set_cons_succ]
          refine Front.take 4 (v := ?_) rfl (by decide) (by kernel_rfl) (by kernel_rfl) (fun _ _ _ h => h) rfl hHeld ?_ ?_
          case refine_2 => intro w' hSw; obtain ⟨q1, q2, q3, q4⟩ := hSw; go_simp <;> with_reducible rfl
          simp only [Act.put, List.setIfInBounds_toArray, List.set_cons_zero, List.set_cons_succ]
          refine Front.take 5 (v := ?_) rfl (by decide) (by kernel_rfl) (by kernel_rfl) (fun _ _ _ h => h) rfl hHeld ?_ ?_
          case refine_2 => intro w' hSw; obtain ⟨q1, q2, q3, q4⟩ := hSw; go_simp <;> with_reducible rfl
          simp only [Act.put, List.setIfInBounds_toArray, List.set_cons_zero, List.set_cons_succ]
          refine Front.take 6 (v := ?_) rfl (by decide) (by kernel_rfl) (by kernel_rfl) (fun _ _ _ h => h) rfl hHeld ?_ ?_
          case refine_2 => intro w' hSw; obtain ⟨q1, q2, q3, q4⟩ := hSw; go_simp <;> with_reducible rfl
          simp only [Act.put, List.setIfInBounds_toArray, List.set_cons_zero, List.set_cons_succ]
          refine Front.take 7 (v := ?_) rfl (by decide) (by kernel_rfl) (by kernel_rfl) (fun _ _ _ h => h) rfl hHeld ?_ ?_
          case refine_2 => intro w' hSw; obtain ⟨q1, q2, q3, q4⟩ := hSw; go_simp <;> with_reducible rfl
          simp only [Act.put, List.setIfInBounds_toArray, List.set_cons_zero, List.set_cons_succ]
          refine Front.take 10 (v := ?_) rfl (by decide) (by kernel_rfl) (by kernel_rfl) (fun _ _ _ h => h) rfl hHeld ?_ ?_
          case refine_2 => intro w' hSw; obtain ⟨q1, q2, q3, q4⟩ := hSw; go_simp <;> with_reducible rfl
          simp only [Act.put, List.setIfInBounds_toArray, List.set_cons_zero, List.set_cons_succ]
          refine Front.take 11 (v := ?_) rfl (by decide) (by kernel_rfl) (by kernel_rfl) (fun _ _ _ h => h) rfl hHeld ?_ ?_
          case refine_2 => intro w' hSw; obtain ⟨q1, q2, q3, q4⟩ := hSw; go_simp <;> with_reducible rfl
          simp only [Act.put, List.setIfInBounds_toArray, List.set_cons_zero, List.set_cons_succ]
          refine Front.take 12 (v := ?_) rfl (by decide) (by kernel_rfl) (by kernel_rfl) (fun _ _ _ h => h) rfl hHeld ?_ ?_
          case refine_2 => intro w' hSw; obtain ⟨q1, q2, q3, q4⟩ := hSw; go_simp <;> with_reducible rfl
          simp only [Act.put, List.setIfInBounds_toArray, List.set_cons_zero, List.set_cons_succ]
          refine Front.take 13 (v := ?_) rfl (by decide) (by kernel_rfl) (by kernel_rfl) (fun _ _ _ h => h) rfl hHeld ?_ ?_
          case refine_2 => intro w' hSw; obtain ⟨q1, q2, q3, q4⟩ := hSw; go_simp <;> with_reducible rfl
          simp only [Act.put, List.setIfInBounds_toArray, List.set_cons_zero, List.set_cons_succ]
          refine Front.take 14 (v := ?_) rfl (by decide) (by kernel_rfl) (by kernel_rfl) (fun _ _ _ h => h) rfl hHeld ?_ ?_
          case refine_2 => intro w' hSw; obtain ⟨q1, q2, q3, q4⟩ := hSw; go_simp <;> with_reducible rfl
          simp only [Act.put, List.setIfInBounds_toArray, List.set_cons_zero, List.set_cons_succ]
          refine Front.take 15 (v := ?_) rfl (by decide) (by kernel_rfl) (by kernel_rfl) (fun _ _ _ h => h) rfl hHeld ?_ ?_
          case refine_2 => intro w' hSw; obtain ⟨q1, q2, q3, q4⟩ := hSw; go_simp <;> with_reducible rfl
          simp only [Act.put, List.setIfInBounds_toArray, List.set_cons_zero, List.set_cons_succ]
          revert hm0 hHeld
          generalize (wr.alloc (.cells cs.toArray 64)).drew = wz
          intro hm0 hHeld
          refine Front.two (i := 8) (j := 16) (by kernel_rfl) (by decide) (by decide) ?_ ?_
          · skip
            refine FrontStep.of rfl (fun K hK => ?_)
            go_simp
            have hsz1 : wz.heap.size ≤ (wz.alloc (.cells #[.int .i64 (f : Int)] 3)).heap.size := by simp
            have hm1 := hm0.alloc (.cells #[.int .i64 (f : Int)] 3)
            have hb1 : Blk (wz.alloc (.cells #[.int .i64 (f : Int)] 3)) wz.heap.size 3 [natV f] := Blk.newAt wz 3 #[.int .i64 (f : Int)] rfl
            refine hK _ _ (hm1.held hc0 hc1) ?_
            clear K hK
            revert hm1 hb1 hsz1
            generalize wz.alloc (.cells #[.int .i64 (f : Int)] 3) = w1
            intro hsz1 hm1 hb1
            refine Front.two (i := 9) (j := 16) (by kernel_rfl) (by decide) (by decide) ?_ ?_
            · skip
              refine FrontStep.of rfl (fun K hK => ?_)
              refine step_append_fam rfl (.tmp 29) (.tmp 32) 51 rfl 3 Tryd.underlying51 info_int w.heap.size _ _ 0 vf ((E.take k).map Prod.fst) f _ rfl rfl hm1.fam hb1 rfl (rowsAt_get0 _ _) hm1.bel.size (by omega) ?_
              intro g0 c0 w2 hF hg
              have hm2 := hm1.app (v := vf) (by simp) hg hF
              refine hK _ _ (hm2.held hc0 hc1) ?_
              clear K hK
              simp only [Act.put, List.setIfInBounds_toArray, List.set_cons_zero, List.set_cons_succ]
              refine Front.one (i := 16) (by kernel_rfl) (by decide) ?_
              refine FrontStep.of rfl (fun K hK => ?_)
              go_simp
              have hm3 := hm2.alloc (.cells #[.int .i64 (t : Int)] 3)
              have hb2 : Blk (w2.alloc (.cells #[.int .i64 (t : Int)] 3)) w2.heap.size 3 [natV t] := Blk.newAt w2 3 #[.int .i64 (t : Int)] rfl
              refine hK _ _ (hm3.held hc0 hc1) ?_
              clear K hK
              revert hm3 hb2
              generalize w2.alloc (.cells #[.int .i64 (t : Int)] 3) = w3
              intro hm3 hb2
              refine Front.one (i := 17) (by kernel_rfl) (by decide) ?_
              refine FrontStep.of rfl (fun K hK => ?_)
              refine step_append_fam rfl (.tmp 37) (.tmp 40) 51 rfl 3 Tryd.underlying51 info_int w.heap.size _ _ 1 vt ((E.take k).map Prod.snd) t _ rfl rfl hm3.fam hb2 rfl (by rw [List.getElem?_set_ne (by decide)]; exact rowsAt_get1 _ _) hm3.bel.size (by omega) ?_
              intro g1 c1 w4 hF hg
              have hm4 := hm3.app (v := vt) (by simp) hg hF
              refine hK _ _ (hm4.held hc0 hc1) ?_
              clear K hK
              simp only [Act.put, List.setIfInBounds_toArray, List.set_cons_zero, List.set_cons_succ]
              have hst := hm4.store hn2.lo hn2.li hn2.ne hn2.hs hn2.ho hn2.hi
              have fz2 := hm4.s.frozen 2
              have fz3 := hm4.s.frozen 3
              have cz2 := hm4.s.cellAt (i := 2) rfl
              have cz3 := hm4.s.cellAt (i := 3) rfl
              refine Front.done (by kernel_rfl) ?_
              simp only [List.drop_succ_cons, List.drop_zero]
              clear HL hHeld
              go_wp2_with fail
              go_meet
              exact ⟨_, _, by simpa only [hl0, hl1] using hst⟩
            · skip
              replace hb1 := hb1.alloc (.cells #[.int .i64 (t : Int)] 3)
              refine FrontStep.of rfl (fun K hK => ?_)
              go_simp
              have hm2 := hm1.alloc (.cells #[.int .i64 (t : Int)] 3)
              have hb2 : Blk (w1.alloc (.cells #[.int .i64 (t : Int)] 3)) w1.heap.size 3 [natV t] := Blk.newAt w1 3 #[.int .i64 (t : Int)] rfl
              refine hK _ _ (hm2.held hc0 hc1) ?_
              clear K hK
              revert hm2 hb2 hb1
              generalize w1.alloc (.cells #[.int .i64 (t : Int)] 3) = w2
              intro hb1 hm2 hb2
              refine Front.one (i := 9) (by kernel_rfl) (by decide) ?_
              refine FrontStep.of rfl (fun K hK => ?_)
              refine step_append_fam rfl (.tmp 29) (.tmp 32) 51 rfl 3 Tryd.underlying51 info_int w.heap.size _ _ 0 vf ((E.take k).map Prod.fst) f _ rfl rfl hm2.fam hb1 rfl (rowsAt_get0 _ _) hm2.bel.size (by omega) ?_
              intro g0 c0 w3 hF hg
              have hm3 := hm2.app (v := vf) (by simp) hg hF
              refine hK _ _ (hm3.held hc0 hc1) ?_
              clear K hK
              simp only [Act.put, List.setIfInBounds_toArray, List.set_cons_zero, List.set_cons_succ]
              replace hb2 := hb2.after hm0.fam (i := 0) rfl hg (hsz1)
              refine Front.one (i := 17) (by kernel_rfl) (by decide) ?_
              refine FrontStep.of rfl (fun K hK => ?_)
              refine step_append_fam rfl (.tmp 37) (.tmp 40) 51 rfl 3 Tryd.underlying51 info_int w.heap.size _ _ 1 vt ((E.take k).map Prod.snd) t _ rfl rfl hm3.fam hb2 rfl (by rw [List.getElem?_set_ne (by decide)]; exact rowsAt_get1 _ _) hm3.bel.size (by omega) ?_
              intro g1 c1 w4 hF hg
              have hm4 := hm3.app (v := vt) (by simp) hg hF
              refine hK _ _ (hm4.held hc0 hc1) ?_
              clear K hK
              simp only [Act.put, List.setIfInBounds_toArray, List.set_cons_zero, List.set_cons_succ]
              have hst := hm4.store hn2.lo hn2.li hn2.ne hn2.hs hn2.ho hn2.hi
              have fz2 := hm4.s.frozen 2
              have fz3 := hm4.s.frozen 3
              have cz2 := hm4.s.cellAt (i := 2) rfl
              have cz3 := hm4.s.cellAt (i := 3) rfl
              refine Front.done (by kernel_rfl) ?_
              simp only [List.drop_succ_cons, List.drop_zero]
              clear HL hHeld
              go_wp2_with fail
              go_meet
              exact ⟨_, _, by simpa only [hl0, hl1] using hst⟩
          · skip
            refine FrontStep.of rfl (fun K hK => ?_)
            go_simp
            have hm1 := hm0.alloc (.cells #[.int .i64 (t : Int)] 3)
            have hb2 : Blk (wz.alloc (.cells #[.int .i64 (t : Int)] 3)) wz.heap.size 3 [natV t] := Blk.newAt wz 3 #[.int .i64 (t : Int)] rfl
            refine hK _ _ (hm1.held hc0 hc1) ?_
            clear K hK
            revert hm1 hb2
            generalize wz.alloc (.cells #[.int .i64 (t : Int)] 3) = w1
            intro hm1 hb2
            refine Front.one (i := 8) (by kernel_rfl) (by decide) ?_
            replace hb2 := hb2.alloc (.cells #[.int .i64 (f : Int)] 3)
            refine FrontStep.of rfl (fun K hK => ?_)
            go_simp
            have hm2 := hm1.alloc (.cells #[.int .i64 (f : Int)] 3)
            have hb1 : Blk (w1.alloc (.cells #[.int .i64 (f : Int)] 3)) w1.heap.size 3 [natV f] := Blk.newAt w1 3 #[.int .i64 (f : Int)] rfl
            refine hK _ _ (hm2.held hc0 hc1) ?_
            clear K hK
            revert hm2 hb1 hb2
            generalize w1.alloc (.cells #[.int .i64 (f : Int)] 3) = w2
            intro hb2 hm2 hb1
            refine Front.one (i := 9) (by kernel_rfl) (by decide) ?_
            refine FrontStep.of rfl (fun K hK => ?_)
            refine step_append_fam rfl (.tmp 29) (.tmp 32) 51 rfl 3 Tryd.underlying51 info_int w.heap.size _ _ 0 vf ((E.take k).map Prod.fst) f _ rfl rfl hm2.fam hb1 rfl (rowsAt_get0 _ _) hm2.bel.size (by omega) ?_
            intro g0 c0 w3 hF hg
            have hm3 := hm2.app (v := vf) (by simp) hg hF
            refine hK _ _ (hm3.held hc0 hc1) ?_
            clear K hK
            simp only [Act.put, List.setIfInBounds_toArray, List.set_cons_zero, List.set_cons_succ]
            replace hb2 := hb2.after hm0.fam (i := 0) rfl hg (Nat.le_refl _)
            refine Front.one (i := 17) (by kernel_rfl) (by decide) ?_
            refine FrontStep.of rfl (fun K hK => ?_)
            refine step_append_fam rfl (.tmp 37) (.tmp 40) 51 rfl 3 Tryd.underlying51 info_int w.heap.size _ _ 1 vt ((E.take k).map Prod.snd) t _ rfl rfl hm3.fam hb2 rfl (by rw [List.getElem?_set_ne (by decide)]; exact rowsAt_get1 _ _) hm3.bel.size (by omega) ?_
            intro g1 c1 w4 hF hg
            have hm4 := hm3.app (v := vt) (by simp) hg hF
            refine hK _ _ (hm4.held hc0 hc1) ?_
            clear K hK
            simp only [Act.put, List.setIfInBounds_toArray, List.set_cons_zero, List.set_cons_succ]
            have hst := hm4.store hn2.lo hn2.li hn2.ne hn2.hs hn2.ho hn2.hi
            have fz2 := hm4.s.frozen 2
            have fz3 := hm4.s.frozen 3
            have cz2 := hm4.s.cellAt (i := 2) rfl
            have cz3 := hm4.s.cellAt (i := 3) rfl
            refine Front.done (by kernel_rfl) ?_
            simp only [List.drop_succ_cons, List.drop_zero]
            clear HL hHeld
            go_wp2_with fail
            go_meet
            exact ⟨_, _, by simpa only [hl0, hl1] using hst⟩
        case rest =>
          obtain ⟨vf', vt', hn3, he3⟩ := hcut
          have htk : E.take (k + 1) = E.take k ++ [(f, t)] := by rw [List.take_add_one, HK.out]; rfl
          have hlk : (E.take k).length = k := by simp; omega
          have hfn' : (f : Int) < (n : Int) := by omega
          have htn' : (t : Int) < (n : Int) := by omega
          have hRf : (((rowsAt n (E.take k)).set 0 ((E.take k).map Prod.fst ++ [f])).set 1 ((E.take k).map Prod.snd ++ [t]))[f + 2]? = some (idxs Prod.fst (E.take k) f) := by
            rw [List.getElem?_set_ne (by omega), List.getElem?_set_ne (by omega)]; exact rowsAt_getF _ _ _ hfn
          clear hn1 hn2 heb
          obtain ⟨vof, hvvof⟩ : ∃ v, vos[f]? = some v := ⟨_, List.getElem?_eq_getElem (by rw [hn3.lo]; exact hfn)⟩
          have hM := (hn3.m5 he3).drew
          have hHeld : HeldR sb 4 (.slice (some ⟨bo, 0, none⟩) n n) wr.heap.size 0 f bo vof wc.drew := ⟨hM.s.cellAt rfl, hM.e.cellAt hc0, hM.o.cellAt hvvof⟩
          go_wp2
          refine wp_region_front (S := HeldR sb 4 (.slice (some ⟨bo, 0, none⟩) n n) wr.heap.size 0 f bo vof) 14 17 (by kernel_rfl) (by kernel_rfl) (by decide) rfl (by kernel_rfl) (by kernel_rfl) (fun _ _ _ h => h) (.inl ⟨by rfl, fun w' => by rfl⟩) ?_
          simp only [Act.put, List.setIfInBounds_toArray, List.set_cons_zero, List.set_cons_succ]
          revert hM hHeld
          generalize wc.drew = wz
          intro hM hHeld
          refine Front.take 0 (v := ?_) rfl (by decide) (by kernel_rfl) (by kernel_rfl) (fun _ _ _ h => h) rfl hHeld ?_ ?_
          case refine_2 => intro w' hSw; obtain ⟨q1, q2, q3⟩ := hSw; go_simp <;> with_reducible rfl
          simp only [Act.put, List.setIfInBounds_toArray, List.set_cons_zero, List.set_cons_succ]
          refine Front.take 1 (v := ?_) rfl (by decide) (by kernel_rfl) (by kernel_rfl) (fun _ _ _ h => h) rfl hHeld ?_ ?_
          case refine_2 => intro w' hSw; obtain ⟨q1, q2, q3⟩ := hSw; go_simp <;> with_reducible rfl
          simp only [Act.put, List.setIfInBounds_toArray, List.set_cons_zero, List.set_cons_succ]
          refine Front.take 2 (v := ?_) rfl (by decide) (by kernel_rfl) (by kernel_rfl) (fun _ _ _ h => h) rfl hHeld ?_ ?_
          case refine_2 => intro w' hSw; obtain ⟨q1, q2, q3⟩ := hSw; go_simp <;> with_reducible rfl
          simp only [Act.put, List.setIfInBounds_toArray, List.set_cons_zero, List.set_cons_succ]
          refine Front.take 3 (v := ?_) rfl (by decide) (by kernel_rfl) (by kernel_rfl) (fun _ _ _ h => h) rfl hHeld ?_ ?_
          case refine_2 => intro w' hSw; obtain ⟨q1, q2, q3⟩ := hSw; go_simp <;> with_reducible rfl
          simp only [Act.put, List.setIfInBounds_toArray, List.set_cons_zero, List.set_cons_succ]
          refine Front.take 4 (v := ?_) rfl (by decide) (by kernel_rfl) (by kernel_rfl) (fun _ _ _ h => h) rfl hHeld ?_ ?_
          case refine_2 => intro w' hSw; obtain ⟨q1, q2, q3⟩ := hSw; go_simp <;> with_reducible rfl
          simp only [Act.put, List.setIfInBounds_toArray, List.set_cons_zero, List.set_cons_succ]
          refine Front.take 5 (v := ?_) rfl (by decide) (by kernel_rfl) (by kernel_rfl) (fun _ _ _ h => h) rfl hHeld ?_ ?_
          case refine_2 => intro w' hSw; obtain ⟨q1, q2, q3⟩ := hSw; go_simp <;> with_reducible rfl
          simp only [Act.put, List.setIfInBounds_toArray, List.set_cons_zero, List.set_cons_succ]
          refine Front.take 6 (v := ?_) rfl (by decide) (by kernel_rfl) (by kernel_rfl) (fun _ _ _ h => h) rfl hHeld ?_ ?_
          case refine_2 => intro w' hSw; obtain ⟨q1, q2, q3⟩ := hSw; go_simp <;> with_reducible rfl
          simp only [Act.put, List.setIfInBounds_toArray, List.set_cons_zero, List.set_cons_succ]
          refine Front.take 7 (v := ?_) rfl (by decide) (by kernel_rfl) (by kernel_rfl) (fun _ _ _ h => h) rfl hHeld ?_ ?_
          case refine_2 => intro w' hSw; obtain ⟨q1, q2, q3⟩ := hSw; go_simp <;> with_reducible rfl
          simp only [Act.put, List.setIfInBounds_toArray, List.set_cons_zero, List.set_cons_succ]
          refine Front.take 8 (v := ?_) rfl (by decide) (by kernel_rfl) (by kernel_rfl) (fun _ _ _ h => h) rfl hHeld ?_ ?_
          case refine_2 => intro w' hSw; obtain ⟨q1, q2, q3⟩ := hSw; go_simp <;> with_reducible rfl
          simp only [Act.put, List.setIfInBounds_toArray, List.set_cons_zero, List.set_cons_succ]
          refine Front.take 9 (v := ?_) rfl (by decide) (by kernel_rfl) (by kernel_rfl) (fun _ _ _ h => h) rfl hHeld ?_ ?_
          case refine_2 => intro w' hSw; obtain ⟨q1, q2, q3⟩ := hSw; go_simp <;> with_reducible rfl
          simp only [Act.put, List.setIfInBounds_toArray, List.set_cons_zero, List.set_cons_succ]
          refine Front.take 10 (v := ?_) rfl (by decide) (by kernel_rfl) (by kernel_rfl) (fun _ _ _ h => h) rfl hHeld ?_ ?_
          case refine_2 => intro w' hSw; obtain ⟨q1, q2, q3⟩ := hSw; go_simp <;> with_reducible rfl
          simp only [Act.put, List.setIfInBounds_toArray, List.set_cons_zero, List.set_cons_succ]
          refine Front.take 11 (v := ?_) rfl (by decide) (by kernel_rfl) (by kernel_rfl) (fun _ _ _ h => h) rfl hHeld ?_ ?_
          case refine_2 => intro w' hSw; obtain ⟨q1, q2, q3⟩ := hSw; go_simp <;> with_reducible rfl
          simp only [Act.put, List.setIfInBounds_toArray, List.set_cons_zero, List.set_cons_succ]
          refine Front.take 12 (v := ?_) rfl (by decide) (by kernel_rfl) (by kernel_rfl) (fun _ _ _ h => h) rfl hHeld ?_ ?_
          case refine_2 => intro w' hSw; obtain ⟨q1, q2, q3⟩ := hSw; go_simp <;> with_reducible rfl
          simp only [Act.put, List.setIfInBounds_toArray, List.set_cons_zero, List.set_cons_succ]
          refine Front.take 13 (v := ?_) rfl (by decide) (by kernel_rfl) (by kernel_rfl) (fun _ _ _ h => h) rfl hHeld ?_ ?_
          case refine_2 => intro w' hSw; obtain ⟨q1, q2, q3⟩ := hSw; go_simp <;> with_reducible rfl
          simp only [Act.put, List.setIfInBounds_toArray, List.set_cons_zero, List.set_cons_succ]
          refine Front.one (i := 15) (by kernel_rfl) (by decide) ?_
          refine FrontStep.of rfl (fun K hK => ?_)
          go_simp
          have hm1 := hM.alloc (.cells #[.int .i64 (k : Int)] 3)
          have hb1 : Blk (wz.alloc (.cells #[.int .i64 (k : Int)] 3)) wz.heap.size 3 [natV k] := Blk.newAt wz 3 #[.int .i64 (k : Int)] rfl
          refine hK _ _ ⟨hm1.s.cellAt rfl, hm1.e.cellAt hc0, hm1.o.cellAt hvvof⟩ ?_
          clear K hK
          revert hm1 hb1
          generalize wz.alloc (.cells #[.int .i64 (k : Int)] 3) = w1
          intro hm1 hb1
          refine Front.one (i := 16) (by kernel_rfl) (by decide) ?_
          refine FrontStep.of rfl (fun K hK => ?_)
          refine step_append_fam rfl (.tmp 59) (.tmp 61) 51 rfl 3 Tryd.underlying51 info_int w.heap.size _ _ (f + 2) vof (idxs Prod.fst (E.take k) f) k _ rfl rfl hm1.fam hb1 (by rw [List.getElem?_cons_succ, List.getElem?_cons_succ, List.getElem?_append_left (by rw [hn3.lo]; exact hfn)]; exact hvvof) hRf hm1.bel.size (by have := idxs_length Prod.fst (E.take k) f; simp at this; omega) ?_
          intro g c' w2 hF hg
          have hm2 := hm1.app (v := vof) (by have := List.mem_of_getElem? hvvof; simp [this]) hg hF
          refine hK _ _ ⟨hm2.s.cellAt rfl, hm2.e.cellAt hc0, hm2.o.cellAt hvvof⟩ ?_
          clear K hK
          simp only [Act.put, List.setIfInBounds_toArray, List.set_cons_zero, List.set_cons_succ]
          have hst := hm2.storeOut hfn hn3.lo hn3.li hn3.ne hn3.hs hn3.ho hn3.hi
          have fz := hm2.o.frozen f
          have cz := hm2.o.cellAt hvvof
          refine Front.done (by kernel_rfl) ?_
          simp only [List.drop_succ_cons, List.drop_zero]
          clear HL hHeld
          go_wp2_with fail
          revert hst
          generalize w2.setCell _ _ = wc
          rintro ⟨hn4, he4⟩
          clear hRf hn3 he3 hM hm1 hm2 fz cz hb1 hF
          have hRt : ((((rowsAt n (E.take k)).set 0 ((E.take k).map Prod.fst ++ [f])).set 1 ((E.take k).map Prod.snd ++ [t])).set (f + 2) (idxs Prod.fst (E.take k) f ++ [k]))[n + t + 2]? = some (idxs Prod.snd (E.take k) t) := by
            rw [List.getElem?_set_ne (by omega), List.getElem?_set_ne (by omega), List.getElem?_set_ne (by omega)]; exact rowsAt_getT _ _ _ htn
          obtain ⟨vit, hvvit⟩ : ∃ v, vis[t]? = some v := ⟨_, List.getElem?_eq_getElem (by rw [hn4.li]; exact htn)⟩
          have hM := (hn4.m5 he4).drew
          have hHeld : HeldR sb 5 (.slice (some ⟨bi, 0, none⟩) n n) wr.heap.size 1 t bi vit wc.drew := ⟨hM.s.cellAt rfl, hM.e.cellAt hc1, hM.i.cellAt hvvit⟩
          go_wp2
          refine wp_region_front (S := HeldR sb 5 (.slice (some ⟨bi, 0, none⟩) n n) wr.heap.size 1 t bi vit) 14 17 (by kernel_rfl) (by kernel_rfl) (by decide) rfl (by kernel_rfl) (by kernel_rfl) (fun _ _ _ h => h) (.inl ⟨by rfl, fun w' => by rfl⟩) ?_
          simp only [Act.put, List.setIfInBounds_toArray, List.set_cons_zero, List.set_cons_succ]
          revert hM hHeld
          generalize wc.drew = wz
          intro hM hHeld
          refine Front.take 0 (v := ?_) rfl (by decide) (by kernel_rfl) (by kernel_rfl) (fun _ _ _ h => h) rfl hHeld ?_ ?_
          case refine_2 => intro w' hSw; obtain ⟨q1, q2, q3⟩ := hSw; go_simp <;> with_reducible rfl
          simp only [Act.put, List.setIfInBounds_toArray, List.set_cons_zero, List.set_cons_succ]
          refine Front.take 1 (v := ?_) rfl (by decide) (by kernel_rfl) (by kernel_rfl) (fun _ _ _ h => h) rfl hHeld ?_ ?_
          case refine_2 => intro w' hSw; obtain ⟨q1, q2, q3⟩ := hSw; go_simp <;> with_reducible rfl
          simp only [Act.put, List.setIfInBounds_toArray, List.set_cons_zero, List.set_cons_succ]
          refine Front.take 2 (v := ?_) rfl (by decide) (by kernel_rfl) (by kernel_rfl) (fun _ _ _ h => h) rfl hHeld ?_ ?_
          case refine_2 => intro w' hSw; obtain ⟨q1, q2, q3⟩ := hSw; go_simp <;> with_reducible rfl
          simp only [Act.put, List.setIfInBounds_toArray, List.set_cons_zero, List.set_cons_succ]
          refine Front.take 3 (v := ?_) rfl (by decide) (by kernel_rfl) (by kernel_rfl) (fun _ _ _ h => h) rfl hHeld ?_ ?_
          case refine_2 => intro w' hSw; obtain ⟨q1, q2, q3⟩ := hSw; go_simp <;> with_reducible rfl
          simp only [Act.put, List.setIfInBounds_toArray, List.set_cons_zero, List.set_cons_succ]
          refine Front.take 4 (v := ?_) rfl (by decide) (by kernel_rfl) (by kernel_rfl) (fun _ _ _ h => h) rfl hHeld ?_ ?_
          case refine_2 => intro w' hSw; obtain ⟨q1, q2, q3⟩ := hSw; go_simp <;> with_reducible rfl
          simp only [Act.put, List.setIfInBounds_toArray, List.set_cons_zero, List.set_cons_succ]
          refine Front.take 5 (v := ?_) rfl (by decide) (by kernel_rfl) (by kernel_rfl) (fun _ _ _ h => h) rfl hHeld ?_ ?_
          case refine_2 => intro w' hSw; obtain ⟨q1, q2, q3⟩ := hSw; go_simp <;> with_reducible rfl
          simp only [Act.put, List.setIfInBounds_toArray, List.set_cons_zero, List.set_cons_succ]
          refine Front.take 6 (v := ?_) rfl (by decide) (by kernel_rfl) (by kernel_rfl) (fun _ _ _ h => h) rfl hHeld ?_ ?_
          case refine_2 => intro w' hSw; obtain ⟨q1, q2, q3⟩ := hSw; go_simp <;> with_reducible rfl
          simp only [Act.put, List.setIfInBounds_toArray, List.set_cons_zero, List.set_cons_succ]
          refine Front.take 7 (v := ?_) rfl (by decide) (by kernel_rfl) (by kernel_rfl) (fun _ _ _ h => h) rfl hHeld ?_ ?_
          case refine_2 => intro w' hSw; obtain ⟨q1, q2, q3⟩ := hSw; go_simp <;> with_reducible rfl
          simp only [Act.put, List.setIfInBounds_toArray, List.set_cons_zero, List.set_cons_succ]
          refine Front.take 8 (v := ?_) rfl (by decide) (by kernel_rfl) (by kernel_rfl) (fun _ _ _ h => h) rfl hHeld ?_ ?_
          case refine_2 => intro w' hSw; obtain ⟨q1, q2, q3⟩ := hSw; go_simp <;> with_reducible rfl
          simp only [Act.put, List.setIfInBounds_toArray, List.set_cons_zero, List.set_cons_succ]
          refine Front.take 9 (v := ?_) rfl (by decide) (by kernel_rfl) (by kernel_rfl) (fun _ _ _ h => h) rfl hHeld ?_ ?_
          case refine_2 => intro w' hSw; obtain ⟨q1, q2, q3⟩ := hSw; go_simp <;> with_reducible rfl
          simp only [Act.put, List.setIfInBounds_toArray, List.set_cons_zero, List.set_cons_succ]
          refine Front.take 10 (v := ?_) rfl (by decide) (by kernel_rfl) (by kernel_rfl) (fun _ _ _ h => h) rfl hHeld ?_ ?_
          case refine_2 => intro w' hSw; obtain ⟨q1, q2, q3⟩ := hSw; go_simp <;> with_reducible rfl
          simp only [Act.put, List.setIfInBounds_toArray, List.set_cons_zero, List.set_cons_succ]
          refine Front.take 11 (v := ?_) rfl (by decide) (by kernel_rfl) (by kernel_rfl) (fun _ _ _ h => h) rfl hHeld ?_ ?_
          case refine_2 => intro w' hSw; obtain ⟨q1, q2, q3⟩ := hSw; go_simp <;> with_reducible rfl
          simp only [Act.put, List.setIfInBounds_toArray, List.set_cons_zero, List.set_cons_succ]
          refine Front.take 12 (v := ?_) rfl (by decide) (by kernel_rfl) (by kernel_rfl) (fun _ _ _ h => h) rfl hHeld ?_ ?_
          case refine_2 => intro w' hSw; obtain ⟨q1, q2, q3⟩ := hSw; go_simp <;> with_reducible rfl
          simp only [Act.put, List.setIfInBounds_toArray, List.set_cons_zero, List.set_cons_succ]
          refine Front.take 13 (v := ?_) rfl (by decide) (by kernel_rfl) (by kernel_rfl) (fun _ _ _ h => h) rfl hHeld ?_ ?_
          case refine_2 => intro w' hSw; obtain ⟨q1, q2, q3⟩ := hSw; go_simp <;> with_reducible rfl
          simp only [Act.put, List.setIfInBounds_toArray, List.set_cons_zero, List.set_cons_succ]
          refine Front.one (i := 15) (by kernel_rfl) (by decide) ?_
          refine FrontStep.of rfl (fun K hK => ?_)
          go_simp
          have hm1 := hM.alloc (.cells #[.int .i64 (k : Int)] 3)
          have hb1 : Blk (wz.alloc (.cells #[.int .i64 (k : Int)] 3)) wz.heap.size 3 [natV k] := Blk.newAt wz 3 #[.int .i64 (k : Int)] rfl
          refine hK _ _ ⟨hm1.s.cellAt rfl, hm1.e.cellAt hc1, hm1.i.cellAt hvvit⟩ ?_
          clear K hK
          revert hm1 hb1
          generalize wz.alloc (.cells #[.int .i64 (k : Int)] 3) = w1
          intro hm1 hb1
          refine Front.one (i := 16) (by kernel_rfl) (by decide) ?_
          refine FrontStep.of rfl (fun K hK => ?_)
          refine step_append_fam rfl (.tmp 77) (.tmp 79) 51 rfl 3 Tryd.underlying51 info_int w.heap.size _ _ (n + t + 2) vit (idxs Prod.snd (E.take k) t) k _ rfl rfl hm1.fam hb1 (by rw [List.getElem?_cons_succ, List.getElem?_cons_succ, List.getElem?_append_right (by rw [hn4.lo]; omega), hn4.lo, Nat.add_sub_cancel_left]; exact hvvit) hRt hm1.bel.size (by have := idxs_length Prod.snd (E.take k) t; simp at this; omega) ?_
          intro g c' w2 hF hg
          have hm2 := hm1.app (v := vit) (by have := List.mem_of_getElem? hvvit; simp [this]) hg hF
          refine hK _ _ ⟨hm2.s.cellAt rfl, hm2.e.cellAt hc1, hm2.i.cellAt hvvit⟩ ?_
          clear K hK
          simp only [Act.put, List.setIfInBounds_toArray, List.set_cons_zero, List.set_cons_succ]
          have hst := hm2.storeIn hn4.lo hn4.li hn4.ne hn4.hs hn4.ho hn4.hi
          have fz := hm2.i.frozen t
          have cz := hm2.i.cellAt hvvit
          refine Front.done (by kernel_rfl) ?_
          simp only [List.drop_succ_cons, List.drop_zero]
          clear hHeld
          go_wp2_with fail
          go_roundw
          case rel =>
            have hfin := hst.1
            have hL := rowsAt_snoc n (E.take k) (f, t) hfn
            rw [hlk, ← htk] at hL
            dsimp only at hL
            rw [← hL] at hfin
            exact ⟨k + 1, _, _, _, _, by omega, by go_num, hfin⟩
          case measure => simp [intOf]; omega
      · obtain rfl : k = E.length := by omega
        have hge : ¬ (((E.length : Nat) : Int) < ((castE E).length : Int)) := by simp [castE]
        rw [List.take_length] at hn1
        go_wp2
        go_ret
        exact ⟨sb, rfl, hn1.shape hn, hn1.bel⟩

#print axioms newShape_any

end Go.Proofs.YthaampinmelgaaaDoor

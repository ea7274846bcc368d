/- Package graph: Loops. -/
import Derived.Test.YtngfoinceakgdaaBack
import Derived.Test.YtngfoinceakgdaaFront
namespace Go.Proofs.Ytngfoinceakgdaa
open Go.RowKit Go.Shelf

theorem fam_start {e : TypeId} {w : World} {base : Nat} {v : Value} {l : List Nat} (h : w.ownsRow base e 1 v l.length (l.map natV)) (n : Nat) : Fam e w base (v :: List.replicate n (.slice none 0 0)) (l :: List.replicate n []) := by
  have hf := fam_nils e w base n
  refine ⟨by simp, fun i u m hu hm => ?_, fun i j u x hu hx hne => ?_⟩
  · cases i with
    | zero => cases hu; cases hm; exact h
    | succ i => exact hf.own i u m hu hm
  · cases i with
    | zero =>
      cases j with
      | zero => exact absurd rfl hne
      | succ j =>
        rw [List.getElem?_cons_succ, List.getElem?_replicate] at hx
        split at hx
        · cases hx
          cases hu
          cases hb : v.ownBlock with
          | none => exact .inl rfl
          | some b => exact .inr (by simp [Value.ownBlock])
        · cases hx
    | succ i =>
      rw [List.getElem?_cons_succ, List.getElem?_replicate] at hu
      split at hu
      · cases hu; exact .inl rfl
      · cases hu

/-- What the loads of the line that adds a tail find. -/
def HeldT (sb : Nat) (vf vt : Value) (adf adt : Addr) (e f tq tb : Nat) (v : Value) (w' : World) : Prop :=
  w'.cell? ⟨sb, 2, none⟩ = some vf ∧ w'.cell? ⟨sb, 3, none⟩ = some vt ∧ w'.cell? (adf.add e) = some (.int .i64 (f : Int)) ∧ w'.cell? (adt.add e) = some (.int .i64 (tq : Int)) ∧ w'.cell? ⟨tb, tq, none⟩ = some v

theorem HeldT.alloc {sb : Nat} {vf vt : Value} {adf adt : Addr} {e f tq tb : Nat} {v : Value} {w : World} (h : HeldT sb vf vt adf adt e f tq tb v w) (o : Obj) : HeldT sb vf vt adf adt e f tq tb v (w.alloc o) := by
  obtain ⟨q1, q2, q3, q4, q5⟩ := h
  exact ⟨(World.cell?_alloc_some _ _ _ (by rw [q1]; rfl)).trans q1, (World.cell?_alloc_some _ _ _ (by rw [q2]; rfl)).trans q2, (World.cell?_alloc_some _ _ _ (by rw [q3]; rfl)).trans q3, (World.cell?_alloc_some _ _ _ (by rw [q4]; rfl)).trans q4, (World.cell?_alloc_some _ _ _ (by rw [q5]; rfl)).trans q5⟩

/-- The tails, as they grow. -/
structure TS (w3 W : World) (n tb base : Nat) (vb : Value) (bl : List Nat) (vts : List Value) (T : List (List Nat)) : Prop where
  t : Blk W tb 27 vts
  fam : Fam 3 W base (vb :: vts) (bl :: T)
  len : vts.length = n
  bel : Below w3.heap.size w3 W
  ht : w3.heap.size ≤ tb
  hb : w3.heap.size ≤ base
  hw : base ≤ W.heap.size

theorem TS.app {w3 W W1 W2 : World} {n tb base : Nat} {vb : Value} {bl : List Nat} {vts : List Value} {T : List (List Nat)} (h : TS w3 W n tb base vb bl vts T) {o : Obj} (h1 : W1 = W.alloc o) {tq : Nat} {vr v' : Value} {l' : List Nat}
    (hvr : vts[tq]? = some vr) (hg : W1.grownBy W2 vr.ownBlock) (hF : Fam 3 W2 base ((vb :: vts).set (tq + 1) v') ((bl :: T).set (tq + 1) l')) : TS w3 (W2.setCell ⟨tb, tq, none⟩ v') n tb base vb bl (vts.set tq v') (T.set tq l') ∧ Blk W2 tb 27 vts := by
  subst h1
  have hF1 := h.fam.alloc o
  have hm : vr ∈ vb :: vts := List.mem_cons_of_mem _ (List.mem_of_getElem? hvr)
  have ht2 := (h.t.alloc o).famKeep hF1 hm hg (by decide)
  have hw1 : w3.heap.size ≤ (W.alloc o).heap.size := by have := h.bel.size; rw [World.size_alloc]; omega
  have hb2 := (h.bel.alloc h.bel.size o).grown hg hw1 (fun b hb => by
    obtain ⟨i, hi⟩ := List.mem_iff_getElem?.1 hm
    have := (hF1.lt hi hb).1
    have := h.hb
    omega)
  refine ⟨⟨ht2.set tq v', ?_, by simp [h.len], hb2.setCell h.ht _, h.ht, h.hb, ?_⟩, ht2⟩
  · have := hF.set ht2 (by decide) tq v'
    simpa only [List.set_cons_succ] using this
  · have := hg.size; rw [World.size_alloc] at this; have := h.hw; simp [World.setCell]; omega

section
variable {w3 W : World} {n tb base : Nat} {vb : Value} {bl : List Nat} {vts : List Value} {T : List (List Nat)}
theorem TS.drew (h : TS w3 W n tb base vb bl vts T) : TS w3 W.drew n tb base vb bl vts T := ⟨h.t, h.fam.drew, h.len, h.bel.drew, h.ht, h.hb, h.hw⟩
end

/-- The cells of the loops: the head, and the slice of the points. -/
def loopCells (hs : List Nat) (pvs : List Value) : List Value := (hs.zip pvs).flatMap fun x => [.int .i64 (x.1 : Int), x.2]
theorem loopCells_snoc (hs : List Nat) (pvs : List Value) (h : Nat) (v : Value) (hl : pvs.length = hs.length) : loopCells (hs ++ [h]) (pvs ++ [v]) = loopCells hs pvs ++ [.int .i64 (h : Int), v] := by
  unfold loopCells
  rw [List.zip_append hl.symm, List.flatMap_append]
  rfl
theorem below_grown {B : Nat} {w w' : World} (h : Below B w w') (hB : w.heap.size = B) : w.grownBy w' none := ⟨h.os, h.tape, h.output, h.size, fun k hk _ => h.block k (by omega)⟩
theorem Fam.below {e : TypeId} {w w' : World} {base : Nat} {R : List Value} {L : List (List Nat)} (h : Fam e w base R L) (hb : Below w.heap.size w w') : Fam e w' base R L := h.grown (below_grown hb rfl) (fun b e => by cases e)
theorem own_below {e : TypeId} {w w' : World} {base n m : Nat} {v : Value} {xs : List Value} (h : w.ownsRow base e m v n xs) (hb : Below w.heap.size w w') : w'.ownsRow base e m v n xs := h.kept (below_grown hb rfl) (by cases hv : v.ownBlock with
  | none => exact .inl rfl
  | some b => exact .inr (by simp))
/-- Rows of two types do not lie in one block. -/
theorem own_types {w : World} {e e' : TypeId} {base base' n n' m m' : Nat} {v v' : Value} {xs xs' : List Value} (h : w.ownsRow base e m v n xs) (h' : w.ownsRow base' e' m' v' n' xs') (hne : e ≠ e') : v.ownBlock = none ∨ v.ownBlock ≠ v'.ownBlock := by
  rcases h.2 with ⟨rfl, _⟩ | ⟨g, cap, cur, rfl, _, hh, _⟩
  · exact .inl rfl
  · right
    rcases h'.2 with ⟨rfl, _⟩ | ⟨g', cap', cur', rfl, _, hh', _⟩
    · simp [Value.ownBlock]
    · intro he
      obtain rfl : g = g' := by simpa [Value.ownBlock] using he
      rw [hh] at hh'
      cases hh'
      exact hne rfl
theorem Fam.snoc {e : TypeId} {w : World} {base base' : Nat} {R : List Value} {L : List (List Nat)} {v : Value} {l : List Nat} (h : Fam e w base R L) (h' : Fam e w base' [v] [l]) (hb : base ≤ base') (hlt : ∀ u ∈ R, ∀ b, u.ownBlock = some b → b < base') : Fam e w base (R ++ [v]) (L ++ [l]) := by
  refine ⟨by simp [h.len], fun i u m hu hm => ?_, fun i j u x hu hx hne => ?_⟩
  · rw [List.getElem?_append] at hu hm
    split at hu
    · rename_i hi
      rw [if_pos (by rw [← h.len]; exact hi)] at hm
      exact h.own i u m hu hm
    · rename_i hi
      rw [if_neg (by rw [← h.len]; exact hi)] at hm
      rw [← h.len] at hm
      exact (h'.own _ u m hu hm).mono hb
  · have key : ∀ a, a ∈ R → (a.ownBlock = none ∨ a.ownBlock ≠ v.ownBlock) ∧ (v.ownBlock = none ∨ v.ownBlock ≠ a.ownBlock) := fun a ha => by
      cases hab : a.ownBlock with
      | none => exact ⟨.inl rfl, by cases hv : v.ownBlock with
          | none => exact .inl rfl
          | some b => exact .inr (by simp)⟩
      | some b =>
        have h1 := hlt a ha b hab
        cases hv : v.ownBlock with
        | none => exact ⟨.inr (by simp), .inl rfl⟩
        | some c =>
          have h2 := (h'.lt (i := 0) rfl hv).1
          exact ⟨.inr (by simp; omega), .inr (by simp; omega)⟩
    rw [List.getElem?_append] at hu hx
    split at hu
    · rename_i hi
      split at hx
      · exact h.apart i j u x hu hx hne
      · rename_i hj
        have : x = v := by
          cases hq : j - R.length with
          | zero => rw [hq] at hx; cases hx; rfl
          | succ q => rw [hq] at hx; cases hx
        subst this
        exact (key u (List.mem_of_getElem? hu)).1
    · rename_i hi
      have : u = v := by
        cases hq : i - R.length with
        | zero => rw [hq] at hu; cases hu; rfl
        | succ q => rw [hq] at hu; cases hu
      subst this
      split at hx
      · exact (key x (List.mem_of_getElem? hx)).2
      · rename_i hj
        exfalso
        have h1 : i = R.length := by
          cases hq : i - R.length with
          | zero => omega
          | succ q => rw [hq] at hu; cases hu
        have h2 : j = R.length := by
          cases hq : j - R.length with
          | zero => omega
          | succ q => rw [hq] at hx; cases hx
        omega

theorem info_loop : (Try.prog.info? 45).map (fun i => (i.zero, i.size, i.bytes)) = some (some (.agg #[.int .i64 0, .slice none 0 0]), 2, 32) := by kernel_rfl

theorem GOk.shapeOkRev {n : Nat} {exit : Int} {E : List (Nat × Nat)} (h : GOk n exit E) (x : Nat) : ((shapeOf n E).rev x).Ok := by
  refine ⟨by simp [shapeOf, Shp.rev], ?_, ?_, by have := h.n512; simp [shapeOf, Shp.rev]; omega⟩
  · intro es hes x hx
    obtain ⟨p, _, rfl⟩ := List.mem_map.1 hes
    have := List.mem_range.1 (List.mem_filter.1 hx).1
    simpa [shapeOf, Shp.rev] using this
  · intro x hx
    obtain ⟨y, hy, rfl⟩ := List.mem_map.1 hx
    exact (h.lt y hy).1

/-- A slice of loops that is read. -/
def LV (B : Nat) (w : World) (v : Value) (ls : List (Nat × List Nat)) : Prop :=
  ∃ A c, v = .slice A ls.length c ∧ ls.length ≤ c ∧ c ≤ maxLen ∧ ∀ (j : Nat) (x : Nat × List Nat), ls[j]? = some x → ∃ ad u, A = some ad ∧ ad.block < B ∧ w.cell? (ad.add (j * 2)) = some (.int .i64 (x.1 : Int)) ∧ w.cell? (ad.add (j * 2 + 1)) = some u ∧ Nats B w u x.2

theorem loopCells_get : ∀ (hs : List Nat) (pvs : List Value) (j h : Nat) (v : Value), hs[j]? = some h → pvs[j]? = some v → (loopCells hs pvs)[j * 2]? = some (.int .i64 (h : Int)) ∧ (loopCells hs pvs)[j * 2 + 1]? = some v
  | [], _, j, h, v, h1, _ => by simp at h1
  | _ :: _, [], j, h, v, _, h2 => by simp at h2
  | x :: xs, y :: ys, 0, h, v, h1, h2 => by cases h1; cases h2; exact ⟨rfl, rfl⟩
  | x :: xs, y :: ys, j + 1, h, v, h1, h2 => by
    rw [List.getElem?_cons_succ] at h1 h2
    have := loopCells_get xs ys j h v h1 h2
    rw [show (j + 1) * 2 = j * 2 + 1 + 1 from by omega]
    have e : loopCells (x :: xs) (y :: ys) = .int .i64 (x : Int) :: y :: loopCells xs ys := rfl
    rw [e, List.getElem?_cons_succ, List.getElem?_cons_succ, List.getElem?_cons_succ, List.getElem?_cons_succ]
    exact this

theorem LV.of {w : World} {base base' : Nat} {v : Value} {ls : List (Nat × List Nat)} {pvs : List Value} (h : w.ownsRow base 45 2 v ls.length (loopCells (ls.map Prod.fst) pvs)) (hf : Fam 3 w base' pvs (ls.map Prod.snd)) : LV w.heap.size w v ls := by
  rcases h.2 with ⟨rfl, hn⟩ | ⟨g, cap, cur, rfl, _, hh, h1, h2, h3, h4⟩
  · have : ls = [] := List.eq_nil_of_length_eq_zero hn
    subst this
    exact ⟨none, 0, rfl, by simp, by simp [maxLen], fun j x hx => by simp at hx⟩
  · refine ⟨_, cap, rfl, h1, h2, fun j x hx => ?_⟩
    have hl : pvs.length = ls.length := by have := hf.len; simpa using this
    have hj : j < ls.length := (List.getElem?_eq_some_iff.1 hx).1
    obtain ⟨u, hu⟩ : ∃ u, pvs[j]? = some u := ⟨_, List.getElem?_eq_getElem (by rw [hl]; exact hj)⟩
    have hg := loopCells_get (ls.map Prod.fst) pvs j x.1 u (by rw [List.getElem?_map, hx]; rfl) hu
    refine ⟨_, u, rfl, lt_of_block hh, ?_, ?_, Sl.of_own natV (fun _ _ => rfl) (hf.own j u x.2 hu (by rw [List.getElem?_map, hx]; rfl))⟩
    · exact h.cells (g := g) rfl _ _ hg.1
    · exact h.cells (g := g) rfl _ _ hg.2
theorem LV.below {B : Nat} {w w' : World} {v : Value} {ls : List (Nat × List Nat)} (h : LV B w v ls) (hb : Below B w w') : LV B w' v ls := by
  obtain ⟨A, c, rfl, h1, h2, h3⟩ := h
  refine ⟨A, c, rfl, h1, h2, fun j x hx => ?_⟩
  obtain ⟨ad, u, rfl, hb', hc0, hc1, hn⟩ := h3 j x hx
  exact ⟨ad, u, rfl, hb', (hb.cell (by rw [block_add]; exact hb')).trans hc0, (hb.cell (by rw [block_add]; exact hb')).trans hc1, Nats.below hn hb⟩
theorem LV.more {B B' : Nat} {w : World} {v : Value} {ls : List (Nat × List Nat)} (h : LV B w v ls) (hB : B ≤ B') : LV B' w v ls := by
  obtain ⟨A, c, rfl, h1, h2, h3⟩ := h
  refine ⟨A, c, rfl, h1, h2, fun j x hx => ?_⟩
  obtain ⟨ad, u, rfl, hb', hc0, hc1, hn⟩ := h3 j x hx
  exact ⟨ad, u, rfl, by omega, hc0, hc1, Sl.more hn hB⟩

theorem inLoop_succ (p m : Nat) (a b : List Bool) : inLoop (p + 1) m a b = inLoop p m a b ++ (if (p == m || (a.getD p false && b.getD p false)) = true then [p] else []) := by
  unfold inLoop
  rw [List.range_succ, List.filter_append]
  congr 1
  rw [List.filter_cons, List.filter_nil]
theorem inLoop_length (p m : Nat) (a b : List Bool) : (inLoop p m a b).length ≤ p := by
  unfold inLoop
  exact Nat.le_trans (List.length_filter_le _ _) (by simp)
theorem own_slice {w : World} {e : TypeId} {base n m : Nat} {v : Value} {xs : List Value} (h : w.ownsRow base e m v n xs) : ∃ A c, v = .slice A n c := by
  rcases h.2 with ⟨rfl, rfl⟩ | ⟨g, cap, cur, rfl, _⟩
  · exact ⟨_, _, rfl⟩
  · exact ⟨_, _, rfl⟩

/-- The loops that have been found. -/
structure LS (w5 W : World) (vl : Value) (ls : List (Nat × List Nat)) (pvs : List Value) : Prop where
  own : W.ownsRow w5.heap.size 45 2 vl ls.length (loopCells (ls.map Prod.fst) pvs)
  fam : Fam 3 W w5.heap.size pvs (ls.map Prod.snd)
  bel : Below w5.heap.size w5 W
theorem LS.len {w5 W : World} {vl : Value} {ls : List (Nat × List Nat)} {pvs : List Value} (h : LS w5 W vl ls pvs) : pvs.length = ls.length := by have := h.fam.len; simpa using this
theorem LS.below {w5 W W' : World} {vl : Value} {ls : List (Nat × List Nat)} {pvs : List Value} (h : LS w5 W vl ls pvs) (hb : Below W.heap.size W W') : LS w5 W' vl ls pvs :=
  ⟨own_below h.own hb, h.fam.below hb, h.bel.trans (hb.mono h.bel.size)⟩

set_option maxRecDepth 100000 in
set_option maxHeartbeats 4000000 in
theorem loops_ok (B : Nat) (w : World) (v : Value) (n : Nat) (exit : Int) (E : List (Nat × Nat)) (hv : Edges B w v (castE E)) (hB : B ≤ w.heap.size) (hg : GOk n exit E) (hinn : (shapeOf n E).OkIn) (hto : (shapeOf n E).OkTo)
    (k j : Nat) (t : List Bool × List Nat) (ab : List Int) (bl : List Nat) (res : List (Nat × List Nat))
    (hd : foldO (dfsV (shapeOf n E).next (-1) k) [0] (List.replicate n false, []) = some t) (hlen : t.2.length ≤ 100000) (hord : ∀ x ∈ t.2, x < n) (hdom : domF (shapeOf n E) k j t.2 = some ab) (habl : ab.length = n) (habn : ∀ p, getI ab p < n)
    (hbl : backF (shapeOf n E) ab t.1 k = some bl) (hble : ∀ e ∈ bl, e < E.length) (hbll : bl.length ≤ 100000) (hT : ∀ l ∈ tailsF (shapeOf n E) bl, ∀ x ∈ l, x < n) (htl : t.1.length = n)
    (hl2 : ∀ (h : Int) l t', (∀ x ∈ l, x < n) → foldO (dfsV ((shapeOf n E).rev 0).next h k) l (List.replicate n false, []) = some t' → t'.2.length ≤ 1000000) (hres : loopsF (shapeOf n E) t.1 bl k = some res) :
    Calls Try.prog 24 #[.agg #[.int .i64 (n : Int), .int .i64 exit, v]] w fun en w' => ∃ vl, en = .returned (.tuple #[vl, .int .i64 0]) ∧ LV w'.heap.size w' vl res ∧ Below w.heap.size w w' := by
  obtain ⟨A, c, rfl, hlc, -, hm, hes⟩ := id hv.shape
  have hcheck := fun w1 (h1 : Below w.heap.size w w1) => check_any B w1 n exit _ _ (hv.below (h1.mono hB)) (by have := h1.size; omega)
  have hnew := fun w1 (h1 : Below w.heap.size w w1) => newShape_any B w1 n exit _ E (hv.below (h1.mono hB)) (by have := h1.size; omega) hg.n512 hg.lt hg.len
  rw [hg.chk] at hcheck
  have HC := Lib.hid hcheck
  have HN := Lib.hid hnew
  have hb0 := (Below.refl w.heap.size w).alloc (Nat.le_refl _) (.cells #[.int .i64 (n : Int), .int .i64 exit, .slice A (castE E).length c] 24)
  have hg0 := Blk.newAt w 24 #[.int .i64 (n : Int), .int .i64 exit, .slice A (castE E).length c] rfl
  clear hcheck hnew hes hv
  have hok := hg.shapeOk
  have hn512 := hg.n512
  have hn1 := hg.n1
  have hreach := fun (w1 : World) (sb : Nat) (h1 : IsShape w1.heap.size w1 sb (shapeOf n E)) =>
    reach_any (w1.alloc (.cells #[.int .i64 0] 3)).heap.size _ sb (shapeOf n E) (-1) (.slice (some ⟨w1.heap.size, 0, none⟩) 1 1) [0] k t ((h1.below ((Below.refl _ w1).alloc (Nat.le_refl _) _)).more (by rw [World.size_alloc]; omega)) (Nat.le_refl _) hok
      (nats_one w1 0) (by simp [shapeOf]; omega) hd (by omega)
  have hback := fun (w1 : World) (sb B1 : Nat) (h1 : IsShape B1 w1 sb (shapeOf n E)) (h2 : B1 ≤ w1.heap.size) =>
    back_any B1 w1 sb (shapeOf n E) h1 h2 hok hinn hto (by simp [shapeOf]; omega) k j t ab bl hd hlen hord hdom habl habn hbl
  have hmk := make_one (P := Try.prog) 70 27 (.slice none 0 0) 24 Try.underlying70 info_ints rfl n (by omega) (by omega)
  have HR := Lib.hid hreach
  have HK := Lib.hid hback
  have HRES := Lib.hid hres
  have HINN := Lib.hid hinn
  have HTO := Lib.hid hto
  have HG := Lib.hid hg
  clear hd hreach hdom hback hbl habl hres hinn hto hg
  go_enter Try.func24, Try.ntmps24
  go_upto_region 5 with (first | (go_at_call 30; refine (HC.out _ hb0).mono ?_; rintro en w1 ⟨rfl, hb1⟩; have hg1 := hg0.below hb1 (by rw [World.size_alloc]; omega); have hb2 := hb0.trans (hb1.mono (by rw [World.size_alloc]; omega)); have c0 := hg1.cellAt (i := 0) rfl; have c1 := hg1.cellAt (i := 1) rfl; have c2 := hg1.cellAt (i := 2) rfl) | (go_at_call 47; refine (HN.out _ hb2).mono ?_; rintro en w2 ⟨sb, rfl, hsh, hb3⟩; have hb4 := hb2.trans (hb3.mono hb2.size)))
  clear c0 c1 c2 hb0 hb1 hb2 hb3 hg0 hg1 HC HN
  obtain ⟨hsb, vf, vt, vo, vi, hsblk, hnf, hnt, -, -⟩ := id hsh
  have s1 := hsblk.cellAt (i := 1) rfl
  go_upto_region 6 with (go_at_call 58; refine (HR.out _ sb hsh).mono ?_; rintro en w3 ⟨vr, vo3, rfl, hvr, hvo, hb5⟩)
  have hb6 : Below w2.heap.size w2 w3 := ((Below.refl _ w2).alloc (Nat.le_refl _) _).trans (hb5.mono (by rw [World.size_alloc]; omega))
  have s0 : w3.cell? ⟨sb, 0, none⟩ = some (.int .i64 (n : Int)) := (hsblk.below hb6 hsb).cellAt (i := 0) rfl
  clear s1 HR hb5
  have hb7 := (Below.refl w3.heap.size w3).alloc (Nat.le_refl _) (.cells (Array.replicate n (.slice none 0 0)) 27)
  have hsh7 := ((hsh.below hb6).more hb6.size).below hb7
  go_upto_region 8 with (go_at_call 56; refine (HK.out _ sb _ hsh7 hb7.size).mono ?_; rintro en w4 ⟨vb, rfl, hvb, hb8⟩; have hvb4 : Nats w4.heap.size w4 vb bl := Sl.of_own natV (fun _ _ => rfl) hvb; obtain ⟨Ab, cb, rfl, -, -, hmb, -⟩ := hvb4.shape)
  have hb9 := hb7.trans (hb8.mono hb7.size)
  have htb0 : Blk (w3.alloc (.cells (Array.replicate n (.slice none 0 0)) 27)) w3.heap.size 27 (List.replicate n (.slice none 0 0)) := by
    have h := Blk.newAt w3 27 (Array.replicate n (.slice none 0 0)) rfl
    rwa [Array.toList_replicate] at h
  have hts0 : TS w3 w4 n w3.heap.size (w3.alloc (.cells (Array.replicate n (.slice none 0 0)) 27)).heap.size (.slice Ab bl.length cb) bl (List.replicate n (.slice none 0 0)) (tailsF (shapeOf n E) (bl.take 0)) := by
    refine ⟨htb0.below hb8 htb0.lt, ?_, by simp, hb9, Nat.le_refl _, hb7.size, hb8.size⟩
    have : tailsF (shapeOf n E) (bl.take 0) = List.replicate n [] := rfl
    rw [this]
    exact fam_start hvb n
  obtain ⟨Af, cf, rfl, -, -, hmf, -⟩ := hnf.shape
  obtain ⟨At, ct, rfl, -, -, hmt, -⟩ := hnt.shape
  have hslen : (shapeOf n E).sr.length = E.length := by simp [shapeOf]
  have htlen : (shapeOf n E).tg.length = E.length := by simp [shapeOf]
  revert hts0
  generalize (w3.alloc (.cells (Array.replicate n (.slice none 0 0)) 27)).heap.size = base
  generalize w3.heap.size = tb at htb0
  intro hts0
  clear hvb hvb4 htb0 hb8 hb9 hb7 hsh7 hmk
  go_wp2
  go_loopw [44] (fun y wr => ∃ (m : Nat) (vts : List Value), m ≤ bl.length ∧ y = .int .i64 m ∧ TS w3 wr n tb base (.slice Ab bl.length cb) bl vts (tailsF (shapeOf n E) (bl.take m)))
    (fun y _ => bl.length - (intOf y).toNat)
  case atStart => exact ⟨0, _, Nat.zero_le _, rfl, hts0⟩
  case round =>
    obtain ⟨m, vts, hm, rfl, hts⟩ := hrel
    clear hts0 s0
    by_cases hlt : m < bl.length
    · have hvb4 : Nats wr.heap.size wr (.slice Ab bl.length cb) bl := Sl.of_own natV (fun _ _ => rfl) (hts.fam.own 0 _ _ rfl rfl)
      obtain ⟨adb, rfl, -, hcb⟩ := Nats.at hvb4 hlt
      have heE := hble _ (List.getElem_mem hlt)
      have hsucc := tailsF_succ (shapeOf n E) bl m hlt
      have hge : bl.getD m 0 = bl[m] := by rw [List.getD_eq_getElem?_getD, List.getElem?_eq_getElem hlt]; rfl
      rw [hge] at hcb
      unfold tailStep at hsucc
      revert hcb heE hsucc
      clear hge
      generalize bl[m] = e
      intro hcb heE hsucc
      obtain ⟨adf, rfl, hbf, hcf⟩ := Nats.at hnf (j := e) (by rw [hslen]; exact heE)
      obtain ⟨adt, rfl, hbt, hct⟩ := Nats.at hnt (j := e) (by rw [htlen]; exact heE)
      have htn : (shapeOf n E).tg.getD e 0 < n := HG.out.shapeOk.htn _ (by rw [List.getD_eq_getElem?_getD, List.getElem?_eq_getElem (by rw [htlen]; exact heE)]; exact List.getElem_mem _)
      revert hsucc hcf hct htn
      generalize (shapeOf n E).sr.getD e 0 = f
      generalize (shapeOf n E).tg.getD e 0 = tq
      intro hsucc hcf hct htn
      have hbw := hb6.trans (hts.bel.mono hb6.size)
      have hcf' := (hbw.cell (p := adf.add e) (by rw [block_add]; exact hbf)).trans hcf
      have hct' := (hbw.cell (p := adt.add e) (by rw [block_add]; exact hbt)).trans hct
      have s2 := (hsblk.below hbw hsb).cellAt (i := 2) rfl
      have s3 := (hsblk.below hbw hsb).cellAt (i := 3) rfl
      obtain ⟨vr1, hvr1⟩ : ∃ v, vts[tq]? = some v := ⟨_, List.getElem?_eq_getElem (by rw [hts.len]; exact htn)⟩
      obtain ⟨l1, hl1⟩ : ∃ l, (tailsF (shapeOf n E) (bl.take m))[tq]? = some l := ⟨_, List.getElem?_eq_getElem (by rw [tailsF_length]; exact htn)⟩
      have hll : l1.length ≤ m := by have := tailsF_row _ _ _ _ hl1; simp at this; omega
      have hgd : (tailsF (shapeOf n E) (bl.take m)).getD tq [] = l1 := by rw [List.getD_eq_getElem?_getD, hl1]; rfl
      rw [hgd] at hsucc
      have hlt1 : (m : Int) < (bl.length : Int) := by omega
      have heE1 : (e : Int) < ((shapeOf n E).sr.length : Int) := by rw [hslen]; omega
      have heE2 : (e : Int) < ((shapeOf n E).tg.length : Int) := by rw [htlen]; omega
      have htn1 : (tq : Int) < (n : Int) := by omega
      have hHeld : HeldT sb (.slice (some adf) (shapeOf n E).sr.length cf) (.slice (some adt) (shapeOf n E).tg.length ct) adf adt e f tq tb vr1 wr.drew := ⟨s2, s3, hcf', hct', hts.t.cellAt hvr1⟩
      have HSU := Lib.hid hsucc
      have HHS := Lib.hid hslen
      have HHT := Lib.hid htlen
      have htd := hts.drew
      clear hsucc hcf hct hgd hslen htlen
      go_upto_region 10 with fail
      refine wp_region_front (S := HeldT sb (.slice (some adf) (shapeOf n E).sr.length cf) (.slice (some adt) (shapeOf n E).tg.length ct) adf adt e f tq tb vr1) 0 27 (by kernel_rfl) (by kernel_rfl) (by decide) rfl (by kernel_rfl) (by kernel_rfl) (fun _ _ _ h => h) (.inl ⟨by rfl, fun w' => by rfl⟩) ?_
      simp only [Act.put, List.setIfInBounds_toArray, List.set_cons_zero, List.set_cons_succ]
      revert htd hHeld
      generalize wr.drew = wz
      intro hHeld htd
      refine Front.take 1 (v := ?_) rfl (by decide) (by kernel_rfl) (by kernel_rfl) (fun _ _ _ h => h) rfl hHeld ?_ ?_
      case refine_2 => intro w' hSw; obtain ⟨q1, q2, q3, q4, q5⟩ := hSw; go_simp <;> with_reducible rfl
      simp only [Act.put, List.setIfInBounds_toArray, List.set_cons_zero, List.set_cons_succ]
      refine Front.take 2 (v := ?_) rfl (by decide) (by kernel_rfl) (by kernel_rfl) (fun _ _ _ h => h) rfl hHeld ?_ ?_
      case refine_2 => intro w' hSw; obtain ⟨q1, q2, q3, q4, q5⟩ := hSw; go_simp <;> with_reducible rfl
      simp only [Act.put, List.setIfInBounds_toArray, List.set_cons_zero, List.set_cons_succ]
      refine Front.take 3 (v := ?_) rfl (by decide) (by kernel_rfl) (by kernel_rfl) (fun _ _ _ h => h) rfl hHeld ?_ ?_
      case refine_2 => intro w' hSw; obtain ⟨q1, q2, q3, q4, q5⟩ := hSw; go_simp <;> with_reducible rfl
      simp only [Act.put, List.setIfInBounds_toArray, List.set_cons_zero, List.set_cons_succ]
      refine Front.take 4 (v := ?_) rfl (by decide) (by kernel_rfl) (by kernel_rfl) (fun _ _ _ h => h) rfl hHeld ?_ ?_
      case refine_2 => intro w' hSw; obtain ⟨q1, q2, q3, q4, q5⟩ := hSw; go_simp <;> with_reducible rfl
      simp only [Act.put, List.setIfInBounds_toArray, List.set_cons_zero, List.set_cons_succ]
      refine Front.take 5 (v := ?_) rfl (by decide) (by kernel_rfl) (by kernel_rfl) (fun _ _ _ h => h) rfl hHeld ?_ ?_
      case refine_2 => intro w' hSw; obtain ⟨q1, q2, q3, q4, q5⟩ := hSw; go_simp <;> with_reducible rfl
      simp only [Act.put, List.setIfInBounds_toArray, List.set_cons_zero, List.set_cons_succ]
      refine Front.take 6 (v := ?_) rfl (by decide) (by kernel_rfl) (by kernel_rfl) (fun _ _ _ h => h) rfl hHeld ?_ ?_
      case refine_2 => intro w' hSw; obtain ⟨q1, q2, q3, q4, q5⟩ := hSw; go_simp <;> with_reducible rfl
      simp only [Act.put, List.setIfInBounds_toArray, List.set_cons_zero, List.set_cons_succ]
      refine Front.take 7 (v := ?_) rfl (by decide) (by kernel_rfl) (by kernel_rfl) (fun _ _ _ h => h) rfl hHeld ?_ ?_
      case refine_2 => intro w' hSw; obtain ⟨q1, q2, q3, q4, q5⟩ := hSw; go_simp <;> with_reducible rfl
      simp only [Act.put, List.setIfInBounds_toArray, List.set_cons_zero, List.set_cons_succ]
      refine Front.take 8 (v := ?_) rfl (by decide) (by kernel_rfl) (by kernel_rfl) (fun _ _ _ h => h) rfl hHeld ?_ ?_
      case refine_2 => intro w' hSw; obtain ⟨q1, q2, q3, q4, q5⟩ := hSw; go_simp <;> with_reducible rfl
      simp only [Act.put, List.setIfInBounds_toArray, List.set_cons_zero, List.set_cons_succ]
      refine Front.take 9 (v := ?_) rfl (by decide) (by kernel_rfl) (by kernel_rfl) (fun _ _ _ h => h) rfl hHeld ?_ ?_
      case refine_2 => intro w' hSw; obtain ⟨q1, q2, q3, q4, q5⟩ := hSw; go_simp <;> with_reducible rfl
      simp only [Act.put, List.setIfInBounds_toArray, List.set_cons_zero, List.set_cons_succ]
      refine Front.take 10 (v := ?_) rfl (by decide) (by kernel_rfl) (by kernel_rfl) (fun _ _ _ h => h) rfl hHeld ?_ ?_
      case refine_2 => intro w' hSw; obtain ⟨q1, q2, q3, q4, q5⟩ := hSw; go_simp <;> with_reducible rfl
      simp only [Act.put, List.setIfInBounds_toArray, List.set_cons_zero, List.set_cons_succ]
      refine Front.take 11 (v := ?_) rfl (by decide) (by kernel_rfl) (by kernel_rfl) (fun _ _ _ h => h) rfl hHeld ?_ ?_
      case refine_2 => intro w' hSw; obtain ⟨q1, q2, q3, q4, q5⟩ := hSw; go_simp <;> with_reducible rfl
      simp only [Act.put, List.setIfInBounds_toArray, List.set_cons_zero, List.set_cons_succ]
      refine Front.take 12 (v := ?_) rfl (by decide) (by kernel_rfl) (by kernel_rfl) (fun _ _ _ h => h) rfl hHeld ?_ ?_
      case refine_2 => intro w' hSw; obtain ⟨q1, q2, q3, q4, q5⟩ := hSw; go_simp <;> with_reducible rfl
      simp only [Act.put, List.setIfInBounds_toArray, List.set_cons_zero, List.set_cons_succ]
      refine Front.take 13 (v := ?_) rfl (by decide) (by kernel_rfl) (by kernel_rfl) (fun _ _ _ h => h) rfl hHeld ?_ ?_
      case refine_2 => intro w' hSw; obtain ⟨q1, q2, q3, q4, q5⟩ := hSw; go_simp <;> with_reducible rfl
      simp only [Act.put, List.setIfInBounds_toArray, List.set_cons_zero, List.set_cons_succ]
      refine Front.take 14 (v := ?_) rfl (by decide) (by kernel_rfl) (by kernel_rfl) (fun _ _ _ h => h) rfl hHeld ?_ ?_
      case refine_2 => intro w' hSw; obtain ⟨q1, q2, q3, q4, q5⟩ := hSw; go_simp <;> with_reducible rfl
      simp only [Act.put, List.setIfInBounds_toArray, List.set_cons_zero, List.set_cons_succ]
      refine Front.take 15 (v := ?_) rfl (by decide) (by kernel_rfl) (by kernel_rfl) (fun _ _ _ h => h) rfl hHeld ?_ ?_
      case refine_2 => intro w' hSw; obtain ⟨q1, q2, q3, q4, q5⟩ := hSw; go_simp <;> with_reducible rfl
      simp only [Act.put, List.setIfInBounds_toArray, List.set_cons_zero, List.set_cons_succ]
      refine Front.take 16 (v := ?_) rfl (by decide) (by kernel_rfl) (by kernel_rfl) (fun _ _ _ h => h) rfl hHeld ?_ ?_
      case refine_2 => intro w' hSw; obtain ⟨q1, q2, q3, q4, q5⟩ := hSw; go_simp <;> with_reducible rfl
      simp only [Act.put, List.setIfInBounds_toArray, List.set_cons_zero, List.set_cons_succ]
      refine Front.take 17 (v := ?_) rfl (by decide) (by kernel_rfl) (by kernel_rfl) (fun _ _ _ h => h) rfl hHeld ?_ ?_
      case refine_2 => intro w' hSw; obtain ⟨q1, q2, q3, q4, q5⟩ := hSw; go_simp <;> with_reducible rfl
      simp only [Act.put, List.setIfInBounds_toArray, List.set_cons_zero, List.set_cons_succ]
      refine Front.take 18 (v := ?_) rfl (by decide) (by kernel_rfl) (by kernel_rfl) (fun _ _ _ h => h) rfl hHeld ?_ ?_
      case refine_2 => intro w' hSw; obtain ⟨q1, q2, q3, q4, q5⟩ := hSw; go_simp <;> with_reducible rfl
      simp only [Act.put, List.setIfInBounds_toArray, List.set_cons_zero, List.set_cons_succ]
      refine Front.take 19 (v := ?_) rfl (by decide) (by kernel_rfl) (by kernel_rfl) (fun _ _ _ h => h) rfl hHeld ?_ ?_
      case refine_2 => intro w' hSw; obtain ⟨q1, q2, q3, q4, q5⟩ := hSw; go_simp <;> with_reducible rfl
      simp only [Act.put, List.setIfInBounds_toArray, List.set_cons_zero, List.set_cons_succ]
      refine Front.take 20 (v := ?_) rfl (by decide) (by kernel_rfl) (by kernel_rfl) (fun _ _ _ h => h) rfl hHeld ?_ ?_
      case refine_2 => intro w' hSw; obtain ⟨q1, q2, q3, q4, q5⟩ := hSw; go_simp <;> with_reducible rfl
      simp only [Act.put, List.setIfInBounds_toArray, List.set_cons_zero, List.set_cons_succ]
      refine Front.take 21 (v := ?_) rfl (by decide) (by kernel_rfl) (by kernel_rfl) (fun _ _ _ h => h) rfl hHeld ?_ ?_
      case refine_2 => intro w' hSw; obtain ⟨q1, q2, q3, q4, q5⟩ := hSw; go_simp <;> with_reducible rfl
      simp only [Act.put, List.setIfInBounds_toArray, List.set_cons_zero, List.set_cons_succ]
      refine Front.take 22 (v := ?_) rfl (by decide) (by kernel_rfl) (by kernel_rfl) (fun _ _ _ h => h) rfl hHeld ?_ ?_
      case refine_2 => intro w' hSw; obtain ⟨q1, q2, q3, q4, q5⟩ := hSw; go_simp <;> with_reducible rfl
      simp only [Act.put, List.setIfInBounds_toArray, List.set_cons_zero, List.set_cons_succ]
      refine Front.take 23 (v := ?_) rfl (by decide) (by kernel_rfl) (by kernel_rfl) (fun _ _ _ h => h) rfl hHeld ?_ ?_
      case refine_2 => intro w' hSw; obtain ⟨q1, q2, q3, q4, q5⟩ := hSw; go_simp <;> with_reducible rfl
      simp only [Act.put, List.setIfInBounds_toArray, List.set_cons_zero, List.set_cons_succ]
      refine Front.take 24 (v := ?_) rfl (by decide) (by kernel_rfl) (by kernel_rfl) (fun _ _ _ h => h) rfl hHeld ?_ ?_
      case refine_2 => intro w' hSw; obtain ⟨q1, q2, q3, q4, q5⟩ := hSw; go_simp <;> with_reducible rfl
      simp only [Act.put, List.setIfInBounds_toArray, List.set_cons_zero, List.set_cons_succ]
      refine Front.one (i := 25) (by kernel_rfl) (by decide) ?_
      refine FrontStep.of rfl (fun K hK => ?_)
      go_simp
      have hb1 : Blk (wz.alloc (.cells #[.int .i64 (f : Int)] 3)) wz.heap.size 3 [natV f] := Blk.newAt wz 3 #[.int .i64 (f : Int)] rfl
      have hfam1 := htd.fam.alloc (.cells #[.int .i64 (f : Int)] 3)
      have hw1 : base ≤ (wz.alloc (.cells #[.int .i64 (f : Int)] 3)).heap.size := by have := htd.hw; rw [World.size_alloc]; omega
      have hHeld1 := hHeld.alloc (.cells #[.int .i64 (f : Int)] 3)
      refine hK _ _ hHeld1 ?_
      clear K hK
      obtain ⟨w1', hw1'⟩ : ∃ w1', w1' = wz.alloc (.cells #[.int .i64 (f : Int)] 3) := ⟨_, rfl⟩
      rw [← hw1'] at hb1 hfam1 hw1 hHeld1 ⊢
      refine Front.one (i := 26) (by kernel_rfl) (by decide) ?_
      refine FrontStep.of rfl (fun K hK => ?_)
      refine step_append_fam rfl (.tmp 65) (.tmp 73) 27 rfl 3 Try.underlying27 info_int base _ _ (tq + 1) vr1 l1 f _ rfl rfl hfam1 hb1 (by rw [List.getElem?_cons_succ]; exact hvr1) (by rw [List.getElem?_cons_succ]; exact hl1) hw1 (by omega) ?_
      intro g c' w2' hF hgr
      obtain ⟨hts2, ht2⟩ := htd.app hw1' hvr1 hgr hF
      have hbel2 : Below w3.heap.size wz w2' := by
        have hwz := htd.bel.size
        refine ((Below.refl _ wz).alloc hwz (.cells #[.int .i64 (f : Int)] 3)).trans ?_
        rw [← hw1']
        refine (Below.refl _ w1').grown hgr (by rw [hw1', World.size_alloc]; omega) (fun b hb => ?_)
        have := (hfam1.lt (i := tq + 1) (by rw [List.getElem?_cons_succ]; exact hvr1) hb).1
        have := htd.hb
        omega
      obtain ⟨q1, q2, q3, q4, q5⟩ := hHeld
      have hsb3 : sb < w3.heap.size := Nat.lt_of_lt_of_le hsb hb6.size
      have hbf3 : adf.block < w3.heap.size := Nat.lt_of_lt_of_le hbf hb6.size
      have hbt3 : adt.block < w3.heap.size := Nat.lt_of_lt_of_le hbt hb6.size
      refine hK _ _ ⟨(hbel2.cell hsb3).trans q1, (hbel2.cell hsb3).trans q2, (hbel2.cell (by rw [block_add]; exact hbf3)).trans q3, (hbel2.cell (by rw [block_add]; exact hbt3)).trans q4, ht2.cellAt hvr1⟩ ?_
      clear K hK
      simp only [Act.put, List.setIfInBounds_toArray, List.set_cons_zero, List.set_cons_succ]
      have fz := ht2.frozen tq
      have cz := ht2.cellAt hvr1
      refine Front.done (by kernel_rfl) ?_
      simp only [List.drop_succ_cons, List.drop_zero]
      go_wp2_with fail
      go_roundw
      case rel => exact ⟨m + 1, _, by omega, by go_num, by rw [HSU.out]; exact hts2⟩
      case measure => simp [intOf]; omega
    · have hge : ¬ ((m : Int) < (bl.length : Int)) := by omega
      obtain rfl : m = bl.length := by omega
      rw [List.take_length] at hts
      have hnn : Natss wr.heap.size wr (.slice (some ⟨tb, 0, none⟩) n n) (tailsF (shapeOf n E) bl) := by
        refine ⟨some ⟨tb, 0, none⟩, n, by rw [tailsF_length]; rfl, by rw [tailsF_length]; exact Nat.le_refl _, by unfold maxLen; omega, fun j x hx => ?_⟩
        have hj : j < n := by have := (List.getElem?_eq_some_iff.1 hx).1; rw [tailsF_length] at this; exact this
        obtain ⟨u, hu⟩ : ∃ u, vts[j]? = some u := ⟨_, List.getElem?_eq_getElem (by rw [hts.len]; exact hj)⟩
        exact ⟨_, u, rfl, hts.t.lt, by rw [add_none]; exact hts.t.cellAt hu, Sl.of_own natV (fun _ _ => rfl) (hts.fam.own (j + 1) u x (by rw [List.getElem?_cons_succ]; exact hu) (by rw [List.getElem?_cons_succ]; exact hx))⟩
      have hbw := hb6.trans (hts.bel.mono hb6.size)
      have hshr := (hsh.below hbw).more hbw.size
      have hvr5 := (Bools.below hvr hts.bel).more hts.bel.size
      have hb10 := hb4.trans (hbw.mono hb4.size)
      have s1 : wr.cell? ⟨sb, 1, none⟩ = some (.int .i64 0) := (hsblk.below hbw hsb).cellAt (i := 1) rfl
      have hrev := reversed_any wr.heap.size wr sb (shapeOf n E) 0 hshr (Nat.le_refl _)
      have HREV := Lib.hid hrev
      have hsblkr := hsblk.below hbw hsb
      clear hts hrev hb6 hbw hshr hvr hvo
      go_upto_region 14 with (go_at_call 54; refine HREV.out.mono ?_; rintro en w5 ⟨sb2, rfl, hsh2, hb11⟩)
      have hnn5 := (hnn.below hb11).more hb11.size
      have hvr6 := (Bools.below hvr5 hb11).more hb11.size
      have hsblk5 := hsblkr.below hb11 hsblkr.lt
      have hb12 := hb10.trans (hb11.mono hb10.size)
      have hTl := tailsF_length (shapeOf n E) bl
      have hrowl := tailsF_row (shapeOf n E) bl
      unfold loopsF at HRES
      revert hnn5 hTl hrowl HRES hT
      generalize tailsF (shapeOf n E) bl = T
      intro hT HRES hnn5 hTl hrowl
      have HT := Lib.hid hT
      have HTL := Lib.hid hTl
      have HROW := Lib.hid hrowl
      have HL2 := Lib.hid hl2
      have HTB := Lib.hid htl
      obtain ⟨A2, c2, he2, -, -, -, hat2⟩ := Sl.shape hnn5
      have HAT := Lib.hid hat2
      have hA2 : A2 = some ⟨tb, 0, none⟩ := by injection he2 with h1; exact h1.symm
      subst hA2
      clear he2
      clear hT hTl hrowl hl2 htl hat2 hb11 hb10 hnn hvr5 HREV s1 hge hm
      go_wp2
      go_loopw [12, 85] (fun x y wr => ∃ (m : Nat) (ls : List (Nat × List Nat)) (vl : Value) (pvs : List Value), m ≤ n ∧ vl = x ∧ y = .int .i64 m ∧ ls.length ≤ m ∧ foldO (loopStep (shapeOf n E) t.1 k) (T.zipIdx.take m) [] = some ls ∧ LS w5 wr vl ls pvs)
        (fun _ y _ => n - (intOf y).toNat)
      case atStart => exact ⟨0, [], _, [], Nat.zero_le _, rfl, rfl, Nat.le_refl _, rfl, World.ownsRow_nil _ _ _ _, ⟨rfl, fun i v l hv => by simp at hv, fun i j u v hu => by simp at hu⟩, Below.refl _ _⟩
      case round =>
        obtain ⟨m, ls, vl, pvs, hm, rfl, rfl, hlm, hfold, hls⟩ := hrel
        by_cases hlt : m < n
        · have hzl : T.zipIdx.length = n := by rw [List.length_zipIdx]; exact HTL.out
          obtain ⟨ls', hstep, hnext⟩ := foldO_at _ _ m (by rw [hzl]; exact hlt) _ _ _ HRES.out hfold
          have hmT : m < T.length := by rw [HTL.out]; exact hlt
          rw [List.getElem_zipIdx, Nat.zero_add] at hstep
          obtain ⟨ad2, u2, had2, hb2', hc2', hn2'⟩ := HAT.out m _ (List.getElem?_eq_getElem hmT)
          cases had2
          have hlx := HT.out _ (List.getElem_mem hmT)
          have hlr := HROW.out m _ (List.getElem?_eq_getElem hmT)
          revert hstep hn2' hlx hlr
          generalize T[m] = l
          intro hstep hn2' hlx hlr
          obtain ⟨Al, cl, rfl, hll, -, hml, -⟩ := hn2'.shape
          rw [add_none] at hc2'
          have hc2 := (hls.bel.cell (p := ⟨tb, m, none⟩) hb2').trans hc2'
          have hlt1 : (m : Int) < (n : Int) := by omega
          unfold loopStep at hstep
          have HST := Lib.hid hstep
          have HNX := Lib.hid hnext
          clear hstep hnext hc2' hfold
          by_cases hl0 : l = []
          · have hst := HST.out
            rw [if_pos hl0] at hst
            obtain rfl : ls = ls' := Option.some.inj hst
            clear hst
            subst hl0
            go_wp2
            case roundEnd =>
              refine ⟨⟨m + 1, ls, _, pvs, by omega, rfl, by simp, by omega, HNX.out, hls⟩, ?_⟩
              simp [intOf]; omega
          · have hst := HST.out
            rw [if_neg hl0] at hst
            obtain ⟨ti, hti, rfl⟩ := Option.map_eq_some_iff.1 hst
            have hl0' : ¬ ((l.length : Int) = 0) := by
              intro h; exact hl0 (List.eq_nil_of_length_eq_zero (by omega))
            have hti2 := HL2.out _ _ _ hlx hti
            have hr := reach_any wr.heap.size wr sb2 ((shapeOf n E).rev 0) (m : Int) (.slice Al l.length cl) l k ti ((hsh2.below hls.bel).more hls.bel.size) (Nat.le_refl _) (HG.out.shapeOkRev 0) ((Nats.below hn2' hls.bel).more hls.bel.size) hlx hti hti2
            have HRR := Lib.hid hr
            have HTI := Lib.hid (dfsF_length _ _ _ _ hti)
            clear hst hti hti2 hr hl0
            go_upto_region 19 with (go_at_call 58; refine HRR.out.mono ?_; rintro en w6 ⟨vin, vo6, rfl, hvin, hvo6, hb6⟩)
            have hbw6 := hls.bel.trans (hb6.mono hls.bel.size)
            have hsblk6 := hsblk5.below hbw6 hsblk5.lt
            have s0 : ∀ o, (w6.alloc o).cell? ⟨sb, 0, none⟩ = some (.int .i64 (n : Int)) := fun o => (hsblk6.alloc o).cellAt (i := 0) rfl
            go_upto_region 21 with fail
            go_wp2
            obtain ⟨Ain, cin, rfl, -, -, hmin, -⟩ := hvin.shape
            obtain ⟨Arr, crr, rfl, -, -, hmrr, -⟩ := hvr6.shape
            have htil : ti.1.length = n := HTI.out.trans List.length_replicate
            have hb7 := (Below.refl w6.heap.size w6).alloc (Nat.le_refl _) (.cells #[.int .i64 (m : Int), .slice none 0 0] 45)
            have hlb := Blk.newAt w6 45 #[.int .i64 (m : Int), .slice none 0 0] rfl
            have HTIL := Lib.hid htil
            clear htil s0
            go_loopw [106] (fun y wq => ∃ (p : Nat) (pv : Value), p ≤ n ∧ y = .int .i64 p ∧ Blk wq w6.heap.size 45 [.int .i64 (m : Int), pv] ∧ Fam 3 wq w6.heap.size [pv] [inLoop p m ti.1 t.1] ∧ Below w6.heap.size w6 wq) (fun y _ => n - (intOf y).toNat)
            case atStart => exact ⟨0, _, Nat.zero_le _, rfl, hlb, fam_one, hb7⟩
            case round =>
              obtain ⟨p, pv, hp, rfl, hlb', hfp, hb8⟩ := hrel
              clear hlb hb7
              by_cases hpn : p < n
              · have hpn1 : (p : Int) < (n : Int) := by omega
                obtain ⟨adi, rfl, hbi, hci⟩ := Bools.at hvin (j := p) (by rw [HTIL.out]; exact hpn)
                obtain ⟨adr, rfl, hbr, hcr⟩ := Bools.at hvr6 (j := p) (by rw [HTB.out]; exact hpn)
                have hci' := (hb8.cell (p := adi.add p) (by rw [block_add]; exact hbi)).trans hci
                have hcr' := ((hbw6.trans (hb8.mono hbw6.size)).cell (p := adr.add p) (by rw [block_add]; exact hbr)).trans hcr
                have hpn2 : (p : Int) < (ti.1.length : Int) := by rw [HTIL.out]; omega
                have hpn3 : (p : Int) < (t.1.length : Int) := by rw [HTB.out]; omega
                have clb := hlb'.cellAt (i := 1) rfl
                have hsu := inLoop_succ p m ti.1 t.1
                clear hci hcr
                by_cases hpm : p = m
                · subst hpm
                  rw [if_pos (by simp)] at hsu
                  have HSU := Lib.hid hsu
                  clear hsu
                  have hfa := hfp.alloc (.cells #[.int .i64 (p : Int)] 3)
                  have hnb : Blk (wr.alloc (.cells #[.int .i64 (p : Int)] 3)) wr.heap.size 3 [natV p] := Blk.newAt wr 3 #[.int .i64 (p : Int)] rfl
                  have hba := hb8.alloc hb8.size (.cells #[.int .i64 (p : Int)] 3)
                  have hlba := hlb'.alloc (.cells #[.int .i64 (p : Int)] 3)
                  go_wp2_with (at_builtin; refine wpList_append_fam rfl (.tmp 125) (.tmp 127) 27 rfl 3 Try.underlying27 info_int w6.heap.size [pv] [inLoop p p ti.1 t.1] 0 pv (inLoop p p ti.1 t.1) p wr.heap.size rfl rfl hfa hnb rfl rfl hba.size (by have := inLoop_length p p ti.1 t.1; omega) ?_)
                  intro g c' wq2 hF hgr
                  have hlb2 := hlba.famKeep hfa (by simp) hgr (by decide)
                  have hb9 := hba.grown hgr hba.size (fun b hb => (hfa.lt (i := 0) rfl hb).1)
                  have flb := hlb2.frozen 1
                  have clb := hlb2.cellAt (i := 1) rfl
                  have hF2 := hF.set hlb2 (by decide) 1 (.slice (some ⟨g, 0, none⟩) ((inLoop p p ti.1 t.1).length + 1) c')
                  have hlb3 := hlb2.set 1 (.slice (some ⟨g, 0, none⟩) ((inLoop p p ti.1 t.1).length + 1) c')
                  have hb10 := hb9.setCell (p := ⟨w6.heap.size, 1, none⟩) (Nat.le_refl _) (.slice (some ⟨g, 0, none⟩) ((inLoop p p ti.1 t.1).length + 1) c')
                  go_wp2
                  go_roundw
                  case rel =>
                    refine ⟨p + 1, _, by omega, by go_num, hlb3, ?_, hb10⟩
                    rw [HSU.out]
                    exact hF2
                  case measure => simp [intOf]; omega
                · have hpm' : ¬ ((p : Int) = (m : Int)) := by omega
                  have hpm2 : (p == m) = false := by simpa using hpm
                  clear hpm
                  cases h1 : ti.1.getD p false with
                  | false =>
                    rw [hpm2, h1, if_neg (by simp)] at hsu
                    rw [List.append_nil] at hsu
                    rw [h1] at hci'
                    have HSU := Lib.hid hsu
                    clear hsu hpm2 h1
                    go_wp2
                    go_roundw
                    case rel =>
                      refine ⟨p + 1, pv, by omega, by go_num, hlb', ?_, hb8⟩
                      rw [HSU.out]
                      exact hfp
                    case measure => simp [intOf]; omega
                  | true =>
                    rw [h1] at hci'
                    cases h2 : t.1.getD p false with
                    | false =>
                      rw [hpm2, h1, h2, if_neg (by simp)] at hsu
                      rw [List.append_nil] at hsu
                      rw [h2] at hcr'
                      have HSU := Lib.hid hsu
                      clear hsu hpm2 h1 h2
                      go_wp2
                      go_roundw
                      case rel =>
                        refine ⟨p + 1, pv, by omega, by go_num, hlb', ?_, hb8⟩
                        rw [HSU.out]
                        exact hfp
                      case measure => simp [intOf]; omega
                    | true =>
                      rw [hpm2, h1, h2, if_pos (by simp)] at hsu
                      rw [h2] at hcr'
                      have HSU := Lib.hid hsu
                      clear hsu hpm2 h1 h2
                      have hfa := hfp.alloc (.cells #[.int .i64 (p : Int)] 3)
                      have hnb : Blk (wr.alloc (.cells #[.int .i64 (p : Int)] 3)) wr.heap.size 3 [natV p] := Blk.newAt wr 3 #[.int .i64 (p : Int)] rfl
                      have hba := hb8.alloc hb8.size (.cells #[.int .i64 (p : Int)] 3)
                      have hlba := hlb'.alloc (.cells #[.int .i64 (p : Int)] 3)
                      go_wp2_with (at_builtin; refine wpList_append_fam rfl (.tmp 125) (.tmp 127) 27 rfl 3 Try.underlying27 info_int w6.heap.size [pv] [inLoop p m ti.1 t.1] 0 pv (inLoop p m ti.1 t.1) p wr.heap.size rfl rfl hfa hnb rfl rfl hba.size (by have := inLoop_length p m ti.1 t.1; omega) ?_)
                      intro g c' wq2 hF hgr
                      have hlb2 := hlba.famKeep hfa (by simp) hgr (by decide)
                      have hb9 := hba.grown hgr hba.size (fun b hb => (hfa.lt (i := 0) rfl hb).1)
                      have flb := hlb2.frozen 1
                      have clb := hlb2.cellAt (i := 1) rfl
                      have hF2 := hF.set hlb2 (by decide) 1 (.slice (some ⟨g, 0, none⟩) ((inLoop p m ti.1 t.1).length + 1) c')
                      have hlb3 := hlb2.set 1 (.slice (some ⟨g, 0, none⟩) ((inLoop p m ti.1 t.1).length + 1) c')
                      have hb10 := hb9.setCell (p := ⟨w6.heap.size, 1, none⟩) (Nat.le_refl _) (.slice (some ⟨g, 0, none⟩) ((inLoop p m ti.1 t.1).length + 1) c')
                      go_wp2
                      go_roundw
                      case rel =>
                        refine ⟨p + 1, _, by omega, by go_num, hlb3, ?_, hb10⟩
                        rw [HSU.out]
                        exact hF2
                      case measure => simp [intOf]; omega
              · have hgep : ¬ ((p : Int) < (n : Int)) := by omega
                obtain rfl : n = p := by omega
                have hrows := hfp.own 0 _ _ rfl rfl
                obtain ⟨Ap, cp, rfl⟩ := own_slice hrows
                have clb0 := hlb'.cellAt (i := 0) rfl
                have clb1 := hlb'.cellAt (i := 1) rfl
                have hls6 := hls.below (hb6.trans (hb8.mono hb6.size))
                have hpvlt : ∀ u ∈ pvs, ∀ b, u.ownBlock = some b → b < w6.heap.size := fun u hu b hb => by
                  obtain ⟨i, hi⟩ := List.mem_iff_getElem?.1 hu
                  exact ((hls.below hb6).fam.lt hi hb).2
                have hfs := hls6.fam.snoc hfp hbw6.size hpvlt
                obtain ⟨il, hil, hz0, hz1, hz2⟩ := info_parts info_loop
                have hownA := hls6.own.alloc (.cells #[.int .i64 (m : Int), .slice Ap (inLoop n m ti.1 t.1).length cp] 45)
                have hnb := Blk.newAt wr 45 #[.int .i64 (m : Int), .slice Ap (inLoop n m ti.1 t.1).length cp] rfl
                have hfsA := hfs.alloc (.cells #[.int .i64 (m : Int), .slice Ap (inLoop n m ti.1 t.1).length cp] 45)
                have hbA := hls6.bel.alloc hls6.bel.size (.cells #[.int .i64 (m : Int), .slice Ap (inLoop n m ti.1 t.1).length cp] 45)
                go_wp2_with (at_builtin; refine wpList_append_lies _ rfl (.tmp 131) (.tmp 133) 34 rfl w5.heap.size 45 il (.agg #[.int .i64 0, .slice none 0 0]) 2 32 Try.underlying34 hil hz0 hz1 hz2 rfl (by decide) vl ls.length _ rfl hownA ⟨wr.heap.size, 0, none⟩ 1 1 [.int .i64 (m : Int), .slice Ap (inLoop n m ti.1 t.1).length cp] rfl rfl (fun q u hq => by rw [add_none]; exact hnb.cellAt hq) ?c2 (by decide) ?c3 ?c4 hbA.size _ rfl ?_)
                case c2 => exact ⟨rfl, rfl⟩
                case c3 => unfold maxLen; omega
                case c4 => omega
                intro g c' wz hown hgr _ _
                have hF := hfsA.grown hgr (fun b hb u hu he => by
                  obtain ⟨i, hi⟩ := List.mem_iff_getElem?.1 hu
                  obtain ⟨lx, _, hox⟩ := hfsA.get hi
                  rcases own_types hox hownA (by decide) with h | h
                  · rw [h] at he; cases he
                  · exact h (he.trans hb.symm))
                have hbz := hbA.grown hgr hbA.size (fun b hb => (hownA.lt b hb).1)
                rw [← loopCells_snoc _ _ _ _ (by have := hls.len; simpa using this)] at hown
                have hlsz : LS w5 wz (.slice (some ⟨g, 0, none⟩) (ls.length + 1) c') (ls ++ [(m, inLoop n m ti.1 t.1)]) (pvs ++ [.slice Ap (inLoop n m ti.1 t.1).length cp]) := ⟨by simpa using hown, by simpa using hF, hbz⟩
                have HLZ := Lib.hid hlsz
                clear hown hF hbz hlsz
                go_wp2
                go_roundw
                case rel => exact ⟨m + 1, _, _, _, by omega, rfl, by go_num, by simp; omega, HNX.out, HLZ.out⟩
                case measure => simp [intOf]; omega
        · have hgem : ¬ ((m : Int) < (n : Int)) := by omega
          obtain rfl : n = m := by omega
          rw [List.take_of_length_le (by rw [List.length_zipIdx, HTL.out]; exact Nat.le_refl _), HRES.out] at hfold
          obtain rfl : res = ls := Option.some.inj hfold
          clear hfold
          go_wp2
          go_ret2
          exact ⟨_, rfl, LV.of hls.own hls.fam, hb12.trans (hls.bel.mono hb12.size)⟩

end Go.Proofs.Ytngfoinceakgdaa

/- Package graph at a well-formed graph: what the exported functions return, in words of paths. -/
import Derived.Test.YtngfoinceakgdaaDomTop
import Derived.Test.YtngfoinceakgdaaComp
import Derived.Test.YtngfoinceakgdaaRed2
import Derived.Test.YtngfoinceakgdaaPlain2
namespace Go.Proofs.Ytngfoinceakgdaa
open Go.RowKit Go.Shelf

theorem next_out {n : Nat} {E : List (Nat × Nat)} {p : Nat} (hp : ¬ p < n) : (shapeOf n E).next p = [] := by
  unfold Shp.next shapeOf
  simp only
  rw [List.getD_eq_getElem?_getD, List.getElem?_eq_none (by simp; omega)]
  rfl
theorem next_rev_out {n : Nat} {E : List (Nat × Nat)} {p e : Nat} (hp : ¬ p < n) : ((shapeOf n E).rev e).next p = [] := by
  unfold Shp.next Shp.rev shapeOf
  simp only
  rw [List.getD_eq_getElem?_getD, List.getElem?_eq_none (by simp; omega)]
  rfl
theorem GOk.mem_nx {n : Nat} {exit : Int} {E : List (Nat × Nat)} (h : GOk n exit E) {p x : Nat} : x ∈ nx n E p ↔ (p, x) ∈ E := by
  by_cases hp : p < n
  · exact mem_next hp
  · rw [show nx n E p = [] from next_out hp]
    exact ⟨fun h => by simp at h, fun hm => absurd (h.lt _ hm).1 hp⟩
theorem GOk.mem_rv {n : Nat} {exit : Int} {E : List (Nat × Nat)} (h : GOk n exit E) {p x e : Nat} : x ∈ ((shapeOf n E).rev e).next p ↔ (x, p) ∈ E := by
  by_cases hp : p < n
  · exact mem_next_rev hp
  · rw [next_rev_out hp]
    exact ⟨fun h => by simp at h, fun hm => absurd (h.lt _ hm).2 hp⟩
theorem mem_preds_rev {n : Nat} {E : List (Nat × Nat)} {p x e : Nat} (hp : p < n) : x ∈ ((shapeOf n E).rev e).preds p ↔ (p, x) ∈ E := mem_next hp
theorem Idom.lt {succ : Nat → List Nat} {ent n : Nat} {res : List Int} (h : IsIdom succ ent n res) (hs : ∀ p, p < n → ∀ x ∈ succ p, x < n) (hent : ent < n) (p : Nat) : getI res p < n := by
  by_cases hp : Rch succ (fun _ => True) ent p
  · by_cases he : p = ent
    · rw [he, h.entR]; omega
    · obtain ⟨a, ha, hr, -⟩ := h.up p hp he
      rw [ha]
      have := hr.lt hs hent
      omega
  · rw [h.no p hp]; omega

section
variable {n : Nat} {exit : Int} {E : List (Nat × Nat)}
theorem GOk.dfs0 (hg : GOk n exit E) (xs : List Nat) (hx : ∀ x ∈ xs, x < n) (k : Nat) (hk : n < k) : ∃ t, foldO (dfsV (shapeOf n E).next (-1) k) xs (List.replicate n false, []) = some t ∧ t.2.length ≤ n ∧ (∀ x ∈ t.2, x < n) ∧ t.1.length = n ∧
    ∀ x, t.1.getD x false = true ↔ ∃ a ∈ xs, Rch (nx n E) (fun _ => True) a x := by
  obtain ⟨t, ht⟩ := dfs_total (wo := -1) hg.next_lt hk hx
  have h1 := dfs_order hg.next_lt hx ht
  refine ⟨t, ht, h1.2.2.1, h1.2.1, h1.2.2.2.1, fun x => (dfs_reach hg.next_lt hx ht x).trans ?_⟩
  constructor
  · rintro ⟨a, ha, hr⟩; exact ⟨a, ha, hr.mono fun _ _ => trivial⟩
  · rintro ⟨a, ha, hr⟩; exact ⟨a, ha, hr.mono fun _ _ => by omega⟩
theorem GOk.dom0 (hg : GOk n exit E) {k : Nat} (hk : 2 * n < k) {t : List Bool × List Nat} (ht : foldO (dfsV (shapeOf n E).next (-1) k) [0] (List.replicate n false, []) = some t) : ∃ res, domF (shapeOf n E) k (n * (n + 1) + 1) t.2 = some res ∧ IsIdom (nx n E) 0 n res :=
  dom_total (s := shapeOf n E) hg.next_lt (fun _ q hp => (mem_preds hp).trans (hg.mem_nx (p := q)).symm) hg.n1 ht hk (Nat.lt_succ_self _)
theorem GOk.pdom0 (hg : GOk n exit E) {x k : Nat} (hx : x < n) (hk : 2 * n < k) {t : List Bool × List Nat} (ht : foldO (dfsV ((shapeOf n E).rev x).next (-1) k) [x] (List.replicate n false, []) = some t) :
    ∃ res, domF ((shapeOf n E).rev x) k (n * (n + 1) + 1) t.2 = some res ∧ IsIdom ((shapeOf n E).rev x).next x n res :=
  dom_total (s := (shapeOf n E).rev x) (hg.next_rev_lt x) (fun _ q hp => (mem_preds_rev hp).trans (hg.mem_rv (p := q)).symm) hx ht hk (Nat.lt_succ_self _)

variable (B : Nat) (w : World) (v : Value)
theorem reach_sem (hv : Edges B w v (castE E)) (hB : B ≤ w.heap.size) (hg : GOk n exit E) (f : Nat) (hf : f < n) :
    Calls Try.prog 31 #[.agg #[.int .i64 (n : Int), .int .i64 exit, v], .int .i64 (f : Int)] w fun en w' => ∃ vo l, en = .returned (.tuple #[vo, .int .i64 0]) ∧ Bools w'.heap.size w' vo l ∧ l.length = n ∧ (∀ x, l.getD x false = true ↔ Rch (nx n E) (fun _ => True) f x) ∧ Below w.heap.size w w' := by
  obtain ⟨t, ht, h1, h2, h3, h4⟩ := hg.dfs0 [f] (fun x hx => by simp at hx; omega) (n + 1) (Nat.lt_succ_self n)
  have := hg.n512
  refine (reachable_ok B w v n exit E hv hB hg f hf (n + 1) t ht (by omega)).mono ?_
  rintro en w' ⟨vo, he, hb, hw⟩
  exact ⟨vo, t.1, he, hb, h3, fun x => (h4 x).trans ⟨fun ⟨a, ha, hr⟩ => by simp at ha; subst ha; exact hr, fun hr => ⟨f, by simp, hr⟩⟩, hw⟩
theorem dom_sem (hv : Edges B w v (castE E)) (hB : B ≤ w.heap.size) (hg : GOk n exit E) :
    Calls Try.prog 18 #[.agg #[.int .i64 (n : Int), .int .i64 exit, v]] w fun en w' => ∃ vo res, en = .returned (.tuple #[vo, .int .i64 0]) ∧ Ints w'.heap.size w' vo res ∧ IsIdom (nx n E) 0 n res ∧ Below w.heap.size w w' := by
  have hn1 := hg.n1
  obtain ⟨t, ht, h1, h2, h3, h4⟩ := hg.dfs0 [0] (fun x hx => by simp at hx; omega) (2 * n + 1) (by omega)
  obtain ⟨res, hr, hi⟩ := hg.dom0 (Nat.lt_succ_self _) ht
  have := hg.n512
  refine (dominatorsG_ok B w v n exit E hv hB hg _ _ t res ht (by omega) h2 hr).mono ?_
  rintro en w' ⟨vo, he, hb, hw⟩
  exact ⟨vo, res, he, hb, hi, hw⟩
theorem pdom_sem (hv : Edges B w v (castE E)) (hB : B ≤ w.heap.size) (hg : GOk n exit E) (x : Nat) (hx : exit = (x : Int)) :
    Calls Try.prog 20 #[.agg #[.int .i64 (n : Int), .int .i64 exit, v]] w fun en w' => ∃ vo res, en = .returned (.tuple #[vo, .int .i64 0]) ∧ Ints w'.heap.size w' vo res ∧ IsIdom ((shapeOf n E).rev x).next x n res ∧ Below w.heap.size w w' := by
  have hxn : x < n := by have := hg.xn; omega
  have hx1 : ∀ y ∈ [x], y < n := fun y hy => by simp at hy; omega
  obtain ⟨t, ht⟩ := dfs_total (wo := -1) (hg.next_rev_lt x) (k := 2 * n + 1) (by omega) hx1
  have ho := dfs_order (hg.next_rev_lt x) hx1 ht
  obtain ⟨res, hr, hi⟩ := hg.pdom0 hxn (Nat.lt_succ_self _) ht
  have := hg.n512
  refine (postdominatorsG_ok B w v n x exit hx E hv hB hg _ _ t res ht (by omega) ho.2.1 hr).mono ?_
  rintro en w' ⟨vo, he, hb, hw⟩
  exact ⟨vo, res, he, hb, hi, hw⟩
theorem back_sem (hv : Edges B w v (castE E)) (hB : B ≤ w.heap.size) (hg : GOk n exit E) :
    Calls Try.prog 22 #[.agg #[.int .i64 (n : Int), .int .i64 exit, v]] w fun en w' => ∃ vo, en = .returned (.tuple #[vo, .int .i64 0]) ∧ Nats w'.heap.size w' vo (backsOf n E) ∧ Below w.heap.size w w' := by
  have hn1 := hg.n1
  obtain ⟨t, ht, h1, h2, h3, h4⟩ := hg.dfs0 [0] (fun x hx => by simp at hx; omega) (2 * n + 1) (by omega)
  obtain ⟨res, hr, hi⟩ := hg.dom0 (Nat.lt_succ_self _) ht
  have := hg.n512
  exact backG_ok B w v n exit E hv hB hg _ _ t res _ ht (by omega) h2 hr hi.len (Idom.lt hi hg.next_lt hn1) (backs_spec hi (fun x => (h4 x).trans ⟨fun ⟨a, ha, hr⟩ => by simp at ha; subst ha; exact hr, fun hr => ⟨0, by simp, hr⟩⟩) (by omega))
theorem backs_le (n : Nat) (E : List (Nat × Nat)) : (backsOf n E).length ≤ E.length := by
  unfold backsOf
  exact Nat.le_trans (List.length_filter_le _ _) (by simp)
theorem loops_sem (hv : Edges B w v (castE E)) (hB : B ≤ w.heap.size) (hg : GOk n exit E) :
    Calls Try.prog 24 #[.agg #[.int .i64 (n : Int), .int .i64 exit, v]] w fun en w' => ∃ vo, en = .returned (.tuple #[vo, .int .i64 0]) ∧ LV w'.heap.size w' vo (loopsOf n E (backsOf n E) n) ∧ Below w.heap.size w w' := by
  have hn1 := hg.n1
  obtain ⟨t, ht, h1, h2, h3, h4⟩ := hg.dfs0 [0] (fun x hx => by simp at hx; omega) (2 * n + 1) (by omega)
  obtain ⟨res, hr, hi⟩ := hg.dom0 (Nat.lt_succ_self _) ht
  have := hg.n512
  have hle := hg.len
  have hbe : ∀ e ∈ backsOf n E, e < E.length := fun e he => (mem_backs.1 he).1
  have hseen : ∀ x, t.1.getD x false = true ↔ RchE n E x := fun x => (h4 x).trans ⟨fun ⟨a, ha, hr⟩ => by simp at ha; subst ha; exact hr, fun hr => ⟨0, by simp, hr⟩⟩
  have hE : ∀ e ∈ backsOf n E, (E.getD e (0, 0)).1 < n ∧ (E.getD e (0, 0)).2 < n := fun e he => by
    have h1 := hbe e he
    rw [List.getD_eq_getElem?_getD, List.getElem?_eq_getElem h1]
    exact hg.lt _ (List.getElem_mem h1)
  have hT : ∀ l ∈ tailsF (shapeOf n E) (backsOf n E), ∀ x ∈ l, x < n := by
    rw [tails_fold _ (fun e he => (hE e he).2)]
    intro l hl x hx
    obtain ⟨q, -, rfl⟩ := List.mem_map.1 hl
    unfold tailsOf at hx
    obtain ⟨e, he, rfl⟩ := List.mem_map.1 hx
    exact (hE e (List.mem_filter.1 he).1).1
  exact loops_ok B w v n exit E hv hB hg hg.okIn hg.okTo _ _ t res _ _ ht (by omega) h2 hr hi.len (Idom.lt hi hg.next_lt hn1) (backs_spec hi hseen (by omega)) hbe (by have := backs_le n E; omega) hT h3 (fun h l t' hl ht' => hg.dfs_short h l t' hl ht') (loops_spec hg hbe hseen (by omega))
theorem red_sem (hv : Edges B w v (castE E)) (hB : B ≤ w.heap.size) (hg : GOk n exit E) :
    Calls Try.prog 26 #[.agg #[.int .i64 (n : Int), .int .i64 exit, v]] w fun en w' => ∃ b, en = .returned (.tuple #[.bool b, .int .i64 0]) ∧ (b = true ↔ ¬ Cyc (shapeOf n E) (inL (backsOf n E)) 0) ∧ Below w.heap.size w w' := by
  have hn1 := hg.n1
  obtain ⟨t, ht, h1, h2, h3, h4⟩ := hg.dfs0 [0] (fun x hx => by simp at hx; omega) (2 * n + 1) (by omega)
  obtain ⟨res, hr, hi⟩ := hg.dom0 (Nat.lt_succ_self _) ht
  have := hg.n512
  have hle := hg.len
  have hbe : ∀ e ∈ backsOf n E, e < E.length := fun e he => (mem_backs.1 he).1
  have hseen : ∀ x, t.1.getD x false = true ↔ RchE n E x := fun x => (h4 x).trans ⟨fun ⟨a, ha, hr⟩ => by simp at ha; subst ha; exact hr, fun hr => ⟨0, by simp, hr⟩⟩
  obtain ⟨r, hr2, hc⟩ := acy_total (s := shapeOf n E) (S := inL (backsOf n E)) (k := 2 * n + 1) (p := 0) (fun p e he => by
    rw [tg_getD]
    by_cases hp : p < n
    · rw [show (shapeOf n E).out.getD p [] = idxs Prod.fst E p from row_getD _ _ _ _ hp] at he
      have h1 := idxs_lt _ _ _ e he
      rw [List.getD_eq_getElem?_getD, List.getElem?_eq_getElem h1]
      exact (hg.lt _ (List.getElem_mem h1)).2
    · rw [show (shapeOf n E).out.getD p [] = [] by unfold shapeOf; simp only; rw [List.getD_eq_getElem?_getD, List.getElem?_eq_none (by simp; omega)]; rfl] at he
      cases he) (show 0 < n by omega) (show n < 2 * n + 1 by omega)
  refine (reducible_ok B w v n exit E hv hB hg _ _ t res _ r ht (by omega) h2 hr hi.len (Idom.lt hi hg.next_lt hn1) (backs_spec hi hseen (by omega)) hbe (by have := backs_le n E; omega) hr2).mono ?_
  rintro en w' ⟨he, hw⟩
  exact ⟨r.2, he, hc, hw⟩
theorem comp_sem (hv : Edges B w v (castE E)) (hB : B ≤ w.heap.size) (hg : GOk n exit E) :
    Calls Try.prog 15 #[.agg #[.int .i64 (n : Int), .int .i64 exit, v]] w fun en w' => ∃ vo gs, en = .returned (.tuple #[vo, .int .i64 0]) ∧ Ints w'.heap.size w' vo (compF (shapeOf n E) gs) ∧ IsGroups (nx n E) n gs ∧ Below w.heap.size w w' := by
  have hn1 := hg.n1
  have hxs : ∀ x ∈ List.range n, x < n := fun x hx => List.mem_range.1 hx
  obtain ⟨t, ht, h1, h2, h3, h4⟩ := hg.dfs0 (List.range n) hxs (2 * n + 1) (by omega)
  obtain ⟨r, hr, hgs, hnd, hpos⟩ := groups_total hg.next_lt (hg.next_rev_lt 0) (fun p q hp hq => (mem_next hp).trans (mem_next_rev hq).symm) (k := 2 * n + 1) (by omega) ht (by omega)
  have := hg.n512
  refine (components_ok B w v n exit E hv hB hg _ t r ht (by omega) h2 hg.grp_short hr hnd hpos hgs.ne (fun g hg x hx => (hgs.cls g hg x hx).1)).mono ?_
  rintro en w' ⟨vo, he, hb, hw⟩
  exact ⟨vo, _, he, hb, hgs, hw⟩
end
end Go.Proofs.Ytngfoinceakgdaa

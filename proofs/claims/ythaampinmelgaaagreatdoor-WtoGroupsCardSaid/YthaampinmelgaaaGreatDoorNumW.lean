/- The numbers of the components, plain. -/
import Derived.Test.YthaampinmelgaaaGreatDoorComW
import Derived.Test.YthaampinmelgaaaGreatDoorPlain2
import Derived.Test.YthaampinmelgaaaGreatDoorMat
import Derived.Lib.SlicesCompact
/-! What Components gives, in words of paths. -/
namespace Go.Proofs.YthaampinmelgaaaGreatDoor
open Go.RowKit Go.Shelf

theorem next_out {n : Nat} {E : List (Nat × Nat)} {p : Nat} (hp : ¬ p < n) : (shapeOf n E).next p = [] := by
  unfold Shp.next shapeOf
  simp only
  rw [List.getD_eq_getElem?_getD, List.getElem?_eq_none (by simp; omega)]
  rfl
theorem next_rev_out {n : Nat} {E : List (Nat × Nat)} {p e : Nat} (hp : ¬ p < n) : ((shapeOf n E).rev e).next p = [] := by
  unfold Shp.next Shp.rev shapeOf
  simp only
  rw [List.getD_eq_getElem?_getD, List.getElem?_eq_none (by simp; omega)]
  rfl
theorem GOk.mem_nx {n : Nat} {exit : Int} {E : List (Nat × Nat)} (h : GOk n exit E) {p x : Nat} : x ∈ nx n E p ↔ (p, x) ∈ E := by
  by_cases hp : p < n
  · exact mem_next hp
  · rw [show nx n E p = [] from next_out hp]
    exact ⟨fun h => by simp at h, fun hm => absurd (h.lt _ hm).1 hp⟩
theorem GOk.mem_rv {n : Nat} {exit : Int} {E : List (Nat × Nat)} (h : GOk n exit E) {p x e : Nat} : x ∈ ((shapeOf n E).rev e).next p ↔ (x, p) ∈ E := by
  by_cases hp : p < n
  · exact mem_next_rev hp
  · rw [next_rev_out hp]
    exact ⟨fun h => by simp at h, fun hm => absurd (h.lt _ hm).2 hp⟩
section
variable {n : Nat} {exit : Int} {E : List (Nat × Nat)}
theorem GOk.dfs0 (hg : GOk n exit E) (xs : List Nat) (hx : ∀ x ∈ xs, x < n) (k : Nat) (hk : n < k) : ∃ t, foldO (dfsV (shapeOf n E).next (-1) k) xs (List.replicate n false, []) = some t ∧ t.2.length ≤ n ∧ (∀ x ∈ t.2, x < n) ∧ t.1.length = n ∧
    ∀ x, t.1.getD x false = true ↔ ∃ a ∈ xs, Rch (nx n E) (fun _ => True) a x := by
  obtain ⟨t, ht⟩ := dfs_total (wo := -1) hg.next_lt hk hx
  have h1 := dfs_order hg.next_lt hx ht
  refine ⟨t, ht, h1.2.2.1, h1.2.1, h1.2.2.2.1, fun x => (dfs_reach hg.next_lt hx ht x).trans ?_⟩
  constructor
  · rintro ⟨a, ha, hr⟩; exact ⟨a, ha, hr.mono fun _ _ => trivial⟩
  · rintro ⟨a, ha, hr⟩; exact ⟨a, ha, hr.mono fun _ _ => by omega⟩
variable (B : Nat) (w : World) (v : Value)
theorem comp_sem (hv : Edges B w v (castE E)) (hB : B ≤ w.heap.size) (hg : GOk n exit E) :
    Calls Tryz.prog 7 #[.agg #[.int .i64 (n : Int), .int .i64 exit, v]] w fun en w' => ∃ vo gs, en = .returned (.tuple #[vo, .int .i64 0]) ∧ Ints w'.heap.size w' vo (compF (shapeOf n E) gs) ∧ IsGroups (nx n E) n gs ∧ Below w.heap.size w w' := by
  have hn1 := hg.n1
  have hxs : ∀ x ∈ List.range n, x < n := fun x hx => List.mem_range.1 hx
  obtain ⟨t, ht, h1, h2, h3, h4⟩ := hg.dfs0 (List.range n) hxs (2 * n + 1) (by omega)
  obtain ⟨r, hr, hgs, hnd, hpos⟩ := groups_total hg.next_lt (hg.next_rev_lt 0) (fun p q hp hq => (mem_next hp).trans (mem_next_rev hq).symm) (k := 2 * n + 1) (by omega) ht (by omega)
  have := hg.n512
  refine (components_ok B w v n exit E hv hB hg _ t r ht (by omega) h2 hg.grp_short hr hnd hpos hgs.ne (fun g hg x hx => (hgs.cls g hg x hx).1)).mono ?_
  rintro en w' ⟨vo, he, hb, hw⟩
  exact ⟨vo, _, he, hb, hgs, hw⟩
end
end Go.Proofs.YthaampinmelgaaaGreatDoor

/-! The reference: ends, and the plain model of Numbered. -/
/-! The reference: ends. -/
namespace Go.Proofs.YthaampinmelgaaaGreatDoor
open Go.RowKit Go.Shelf

/-- Does the edge lead from the component of p to another one without a number? -/
def open1 (M : Nat → Nat → Bool) (num : List Int) (p : Nat) (x : Nat × Nat) : Bool := (M p x.1 && M x.1 p) && (!(M p x.2 && M x.2 p) && decide (getI num x.2 < 0))
def endsF (M : Nat → Nat → Bool) (num : List Int) (p : Nat) (E : List (Nat × Nat)) : Bool := !E.any (open1 M num p)
theorem endsF_bad {M : Nat → Nat → Bool} {num : List Int} {p : Nat} {E : List (Nat × Nat)} {k : Nat} {x : Nat × Nat} (hx : E[k]? = some x) (h : open1 M num p x = true) : endsF M num p E = false := by
  unfold endsF
  rw [List.any_eq_true.2 ⟨x, List.mem_of_getElem? hx, h⟩]
  rfl

end Go.Proofs.YthaampinmelgaaaGreatDoor

/-! The plain model of the reference: Numbered. No program here. -/
namespace Go.Proofs.YthaampinmelgaaaGreatDoor

def numCand (M : Nat → Nat → Bool) (E : List (Nat × Nat)) (o : List Int) (p : Nat) : Bool := decide (getI o p < 0) && endsF M o p E
def numPick (M : Nat → Nat → Bool) (E : List (Nat × Nat)) (n : Nat) (o : List Int) : Option Nat := (List.range n).find? (numCand M E o)
def numSet1 (M : Nat → Nat → Bool) (p c : Nat) (o : List Int) (q : Nat) : List Int := if M p q && M q p then o.set q (c : Int) else o
def numSet (M : Nat → Nat → Bool) (n : Nat) (o : List Int) (p c : Nat) : List Int := (List.range n).foldl (numSet1 M p c) o
def numLoop (M : Nat → Nat → Bool) (E : List (Nat × Nat)) (n : Nat) : Nat → Nat → List Int → Option (List Int)
  | 0, _, _ => none
  | k + 1, c, o => match numPick M E n o with
    | none => some o
    | some p => numLoop M E n k (c + 1) (numSet M n o p c)
theorem numLoop_next {M : Nat → Nat → Bool} {E : List (Nat × Nat)} {n k c : Nat} {o res : List Int} (h : numLoop M E n (k + 1) c o = some res) : (numPick M E n o = none ∧ o = res) ∨ ∃ p, numPick M E n o = some p ∧ numLoop M E n k (c + 1) (numSet M n o p c) = some res := by
  simp only [numLoop] at h
  split at h
  · rename_i h1; exact .inl ⟨h1, Option.some.inj h⟩
  · rename_i p h1; exact .inr ⟨p, h1, h⟩
theorem numSet1_length {M : Nat → Nat → Bool} {p c : Nat} {o : List Int} {q : Nat} : (numSet1 M p c o q).length = o.length := by unfold numSet1; split <;> simp
theorem numFold_length {M : Nat → Nat → Bool} {p c : Nat} : ∀ (l : List Nat) (o : List Int), (l.foldl (numSet1 M p c) o).length = o.length
  | [], _ => rfl
  | x :: xs, o => by rw [List.foldl_cons, numFold_length xs]; exact numSet1_length
theorem numFold_succ {M : Nat → Nat → Bool} {p c : Nat} (q : Nat) (o : List Int) : (List.range (q + 1)).foldl (numSet1 M p c) o = numSet1 M p c ((List.range q).foldl (numSet1 M p c) o) q := by
  rw [List.range_succ, List.foldl_append]; rfl
theorem numPick_at {M : Nat → Nat → Bool} {E : List (Nat × Nat)} {n m : Nat} {o : List Int} (hm : m < n) (hno : ∀ j, j < m → numCand M E o j = false) (h : numCand M E o m = true) : numPick M E n o = some m := by
  unfold numPick
  have hsp : List.range n = List.range m ++ (m :: (List.range n).drop (m + 1)) := by
    have h1 := (List.take_append_drop m (List.range n)).symm
    rw [List.take_range, Nat.min_eq_left (by omega), List.drop_eq_getElem_cons (by simpa using hm), List.getElem_range] at h1
    exact h1
  rw [hsp, List.find?_append, List.find?_eq_none.2 (by intro x hx; rw [hno x (List.mem_range.1 hx)]; simp), Option.none_or, List.find?_cons_of_pos h]
theorem numPick_none {M : Nat → Nat → Bool} {E : List (Nat × Nat)} {n : Nat} {o : List Int} (hno : ∀ j, j < n → numCand M E o j = false) : numPick M E n o = none := by
  unfold numPick
  exact List.find?_eq_none.2 (by intro x hx; rw [hno x (List.mem_range.1 hx)]; simp)
/-- What is asked of a round of the loop over the points. -/
def NumRel (M : Nat → Nat → Bool) (E : List (Nat × Nat)) (n c : Nat) (o : List Int) (m : Nat) (b : Bool) (o2 : List Int) : Prop :=
  (b = false ∧ o2 = o ∧ ∀ j, j < m → numCand M E o j = false) ∨ (b = true ∧ ∃ q, numPick M E n o = some q ∧ o2 = numSet M n o q c)
/-- What is asked of a round of the outer loop. -/
def NumOut (M : Nat → Nat → Bool) (E : List (Nat × Nat)) (n k c : Nat) (b : Bool) (o res : List Int) : Prop := (b = true ∧ numLoop M E n k c o = some res) ∨ (b = false ∧ o = res)
theorem NumRel.out {M : Nat → Nat → Bool} {E : List (Nat × Nat)} {n k c m : Nat} {o o2 res : List Int} {b : Bool} (h : NumRel M E n c o m b o2) (hm : b = true ∨ m = n) (hl : numLoop M E n (k + 1) c o = some res) : NumOut M E n k (c + 1) b o2 res := by
  rcases h with ⟨rfl, rfl, h⟩ | ⟨rfl, q, h1, rfl⟩
  · have hm' : m = n := by rcases hm with h | h; cases h; exact h
    subst hm'
    rcases numLoop_next hl with ⟨-, h2⟩ | ⟨p, h2, -⟩
    · exact .inr ⟨rfl, h2⟩
    · rw [numPick_none h] at h2; cases h2
  · rcases numLoop_next hl with ⟨h2, -⟩ | ⟨p, h2, h3⟩
    · rw [h2] at h1; cases h1
    · rw [h2] at h1; cases h1; exact .inl ⟨rfl, h3⟩
end Go.Proofs.YthaampinmelgaaaGreatDoor

/-! Plain laws: the reference's numbers of the components are the program's. -/
namespace Go.Proofs.YthaampinmelgaaaGreatDoor

theorem getI_ext {a b : List Int} (hl : a.length = b.length) (h : ∀ x, getI a x = getI b x) : a = b := by
  apply List.ext_getElem hl
  intro i h1 h2
  have := h i
  unfold getI at this
  rw [List.getD_eq_getElem?_getD, List.getD_eq_getElem?_getD, List.getElem?_eq_getElem h1, List.getElem?_eq_getElem h2] at this
  exact this
theorem numFold_get {M : Nat → Nat → Bool} {p c : Nat} : ∀ (l : List Nat) (o : List Int) (x : Nat), getI (l.foldl (numSet1 M p c) o) x = if x ∈ l ∧ (M p x && M x p) = true ∧ x < o.length then (c : Int) else getI o x
  | [], o, x => by rw [List.foldl_nil, if_neg (by simp)]
  | q :: l, o, x => by
    rw [List.foldl_cons, numFold_get l, numSet1_length]
    by_cases h1 : x ∈ l ∧ (M p x && M x p) = true ∧ x < o.length
    · rw [if_pos h1, if_pos ⟨List.mem_cons_of_mem _ h1.1, h1.2⟩]
    · rw [if_neg h1]
      unfold numSet1
      by_cases h2 : x = q
      · subst h2
        by_cases h3 : (M p x && M x p) = true
        · rw [if_pos h3, getI_set]
          by_cases h4 : x < o.length
          · rw [if_pos ⟨rfl, h4⟩, if_pos ⟨List.mem_cons_self, h3, h4⟩]
          · rw [if_neg (fun h => h4 h.2), if_neg (fun h => h4 h.2.2)]
        · rw [if_neg h3, if_neg (fun h => h3 h.2.1)]
      · have h5 : ¬ (x ∈ q :: l ∧ (M p x && M x p) = true ∧ x < o.length) := fun h => by
          rcases List.mem_cons.1 h.1 with h6 | h6
          · exact h2 h6
          · exact h1 ⟨h6, h.2⟩
        rw [if_neg h5]
        split
        · rw [getI_set, if_neg (fun h => h2 h.1.symm)]
        · rfl
theorem setAll_get : ∀ (g : List Nat) (o : List Int) (c x : Nat), getI (setAll o g c) x = if x ∈ g ∧ x < o.length then (c : Int) else getI o x
  | [], o, c, x => by unfold setAll; rw [List.foldl_nil, if_neg (by simp)]
  | q :: g, o, c, x => by
    have ih := setAll_get g (o.set q (c : Int)) c x
    unfold setAll at ih ⊢
    rw [List.foldl_cons, ih, List.length_set]
    by_cases h1 : x ∈ g ∧ x < o.length
    · rw [if_pos h1, if_pos ⟨List.mem_cons_of_mem _ h1.1, h1.2⟩]
    · rw [if_neg h1, getI_set]
      by_cases h2 : x = q
      · subst h2
        by_cases h4 : x < o.length
        · rw [if_pos ⟨rfl, h4⟩, if_pos ⟨List.mem_cons_self, h4⟩]
        · rw [if_neg (fun h => h4 h.2), if_neg (fun h => h4 h.2)]
      · rw [if_neg (fun h => h2 h.1.symm), if_neg]
        rintro ⟨h5, h6⟩
        rcases List.mem_cons.1 h5 with h7 | h7
        · exact h2 h7
        · exact h1 ⟨h7, h6⟩
theorem setAll_length (g : List Nat) (c : Nat) : ∀ o : List Int, (setAll o g c).length = o.length := by
  unfold setAll
  induction g with
  | nil => intro o; rfl
  | cons x xs ih => intro o; rw [List.foldl_cons, ih]; simp

/-- The number of the group of a point. -/
theorem fillOf_get (k : Nat) : ∀ (g o : List Nat) (x : Nat), (fillOf o g k).getD x 0 = if x ∈ g ∧ x < o.length then k else o.getD x 0
  | [], o, x => by unfold fillOf; rw [List.foldl_nil, if_neg (by simp)]
  | q :: g, o, x => by
    have ih := fillOf_get k g (o.set q k) x
    unfold fillOf at ih ⊢
    rw [List.foldl_cons, ih, List.length_set]
    by_cases h1 : x ∈ g ∧ x < o.length
    · rw [if_pos h1, if_pos ⟨List.mem_cons_of_mem _ h1.1, h1.2⟩]
    · rw [if_neg h1, getD_set_n]
      by_cases h2 : x = q
      · subst h2
        by_cases h4 : x < o.length
        · rw [if_pos ⟨rfl, h4⟩, if_pos ⟨List.mem_cons_self, h4⟩]
        · rw [if_neg (fun h => h4 h.2), if_neg (fun h => h4 h.2)]
      · rw [if_neg (fun h => h2 h.1.symm), if_neg]
        rintro ⟨h5, h6⟩
        rcases List.mem_cons.1 h5 with h7 | h7
        · exact h2 h7
        · exact h1 ⟨h7, h6⟩

section
variable {n : Nat} {exit : Int} {E : List (Nat × Nat)} {gs : List (List Nat)}
theorem IsGroups.one {succ : Nat → List Nat} (h : IsGroups succ n gs) {i j x : Nat} (hi : i < gs.length) (hj : j < gs.length) (h1 : x ∈ gs[i]) (h2 : x ∈ gs[j]) : i = j := by
  have hh : ∀ {a b : Nat} (ha : a < gs.length) (hb : b < gs.length), a < b → x ∈ gs[a] → x ∈ gs[b] → False := by
    intro a b ha hb hab h1 h2
    have e : gs[a].getD 0 0 < gs[b].getD 0 0 := List.pairwise_iff_getElem.1 h.heads a b ha hb hab
    have ne := h.ne _ (List.getElem_mem hb)
    have ne1 := h.ne _ (List.getElem_mem ha)
    have m2 : gs[b].getD 0 0 ∈ gs[b] := by
      cases hb2 : gs[b] with
      | nil => exact absurd hb2 ne
      | cons y ys => simp
    have m1 : gs[b].getD 0 0 ∈ gs[a] := ((h.cls _ (List.getElem_mem ha) x h1).2 _).2 (((h.cls _ (List.getElem_mem hb) x h2).2 _).1 m2)
    have hs := h.sorted _ (List.getElem_mem hb)
    have m3 : gs[a].getD 0 0 ∈ gs[b] := by
      refine ((h.cls _ (List.getElem_mem hb) x h2).2 _).2 (((h.cls _ (List.getElem_mem ha) x h1).2 _).1 ?_)
      cases ha2 : gs[a] with
      | nil => exact absurd ha2 ne1
      | cons y ys => simp
    cases hb2 : gs[b] with
    | nil => exact absurd hb2 ne
    | cons y ys =>
      rw [hb2] at hs m3 e
      simp only [List.getD_cons_zero] at e
      rcases List.mem_cons.1 m3 with h5 | h5
      · omega
      · have := List.rel_of_pairwise_cons hs h5
        omega
  rcases Nat.lt_trichotomy i j with h3 | h3 | h3
  · exact (hh hi hj h3 h1 h2).elim
  · exact h3
  · exact (hh hj hi h3 h2 h1).elim
theorem IsGroups.head_mem {succ : Nat → List Nat} (h : IsGroups succ n gs) {k : Nat} (hk : k < gs.length) : gs[k].getD 0 0 ∈ gs[k] := by
  have ne := h.ne _ (List.getElem_mem hk)
  cases hb2 : gs[k] with
  | nil => exact absurd hb2 ne
  | cons y ys => simp
theorem IsGroups.head_le {succ : Nat → List Nat} (h : IsGroups succ n gs) {k x : Nat} (hk : k < gs.length) (hx : x ∈ gs[k]) : gs[k].getD 0 0 ≤ x := by
  have hs := h.sorted _ (List.getElem_mem hk)
  cases hb2 : gs[k] with
  | nil => rw [hb2] at hx; cases hx
  | cons y ys =>
    rw [hb2] at hs hx
    simp only [List.getD_cons_zero]
    rcases List.mem_cons.1 hx with h5 | h5
    · omega
    · have := List.rel_of_pairwise_cons hs h5; omega
theorem ofP_get {succ : Nat → List Nat} (h : IsGroups succ n gs) : ∀ (m : Nat), m ≤ gs.length → (ofP n gs m).length = n ∧ ∀ (j : Nat) (hj : j < gs.length), j < m → ∀ x ∈ gs[j], (ofP n gs m).getD x 0 = j
  | 0, _ => ⟨by rw [ofP_zero]; simp, fun j _ hj => by omega⟩
  | m + 1, hm => by
    obtain ⟨hl, ih⟩ := ofP_get h m (by omega)
    rw [ofP_succ n gs m (by omega)]
    refine ⟨by rw [fillOf_length]; exact hl, fun j hj hjm x hx => ?_⟩
    rw [fillOf_get, hl]
    have hxn := (h.cls _ (List.getElem_mem hj) x hx).1
    by_cases e : j = m
    · subst e; rw [if_pos ⟨hx, hxn⟩]
    · rw [if_neg, ih j hj (by omega) x hx]
      rintro ⟨h1, -⟩
      exact e (h.one hj (by omega) hx h1)
theorem ofF_get {succ : Nat → List Nat} (h : IsGroups succ n gs) {j x : Nat} (hj : j < gs.length) (hx : x ∈ gs[j]) : (ofF n gs).getD x 0 = j := by
  rw [← ofP_all]
  exact (ofP_get h gs.length (Nat.le_refl _)).2 j hj hj x hx
theorem rB_mut {p q : Nat} : (rB n E (-1) p q && rB n E (-1) q p) = true ↔ Mut (nx n E) p q := by
  unfold rB Mut
  rw [Bool.and_eq_true, bP_iff, bP_iff]
  exact ⟨fun h => ⟨h.1.mono fun _ _ => trivial, h.2.mono fun _ _ => trivial⟩, fun h => ⟨h.1.mono fun _ _ => by omega, h.2.mono fun _ _ => by omega⟩⟩
/-- The numbers are the same on each group. -/
def Const (gs : List (List Nat)) (o : List Int) : Prop := ∀ g ∈ gs, ∀ x ∈ g, ∀ y ∈ g, getI o x = getI o y
theorem cand_free (hg : GOk n exit E) (h : IsGroups (nx n E) n gs) {o : List Int} (hc : Const gs o) {k p : Nat} (hk : k < gs.length) (hp : p ∈ gs[k]) : numCand (rB n E (-1)) E o p = freeF (shapeOf n E) (ofF n gs) gs o k := by
  have hgk : gs.getD k [] = gs[k] := by rw [List.getD_eq_getElem?_getD, List.getElem?_eq_getElem hk]; rfl
  have hcl := h.cls _ (List.getElem_mem hk)
  unfold numCand freeF
  rw [hgk, hc _ (List.getElem_mem hk) p hp _ (h.head_mem hk)]
  congr 1
  unfold endsF blockedF
  congr 1
  rw [Bool.eq_iff_iff, List.any_eq_true, List.any_eq_true]
  constructor
  · rintro ⟨⟨a, b⟩, hab, ho⟩
    unfold open1 at ho
    simp only [Bool.and_eq_true, Bool.not_eq_true', decide_eq_true_eq] at ho
    obtain ⟨h1, h2, h3⟩ := ho
    have ha : a ∈ gs[k] := ((hcl p hp).2 a).2 (rB_mut.1 (by rw [h1.1, h1.2]; rfl))
    refine ⟨a, ha, List.any_eq_true.2 ⟨b, hg.mem_nx.2 hab, ?_⟩⟩
    rw [Bool.and_eq_true, decide_eq_true_eq, decide_eq_true_eq]
    refine ⟨fun e => ?_, h3⟩
    obtain ⟨g, hgm, hbg⟩ := h.all b (hg.lt _ hab).2
    obtain ⟨j, hj, rfl⟩ := List.mem_iff_getElem.1 hgm
    have e2 := ofF_get h hj hbg
    rw [e] at e2
    subst e2
    have := rB_mut.2 (((hcl p hp).2 b).1 hbg)
    rw [h2] at this
    cases this
  · rintro ⟨a, ha, hb⟩
    obtain ⟨b, hb, ho⟩ := List.any_eq_true.1 hb
    rw [Bool.and_eq_true, decide_eq_true_eq, decide_eq_true_eq] at ho
    have hab := hg.mem_nx.1 hb
    refine ⟨(a, b), hab, ?_⟩
    unfold open1
    simp only
    rw [rB_mut.2 (((hcl p hp).2 a).1 ha), decide_eq_true ho.2, Bool.and_true, Bool.true_and]
    cases hm : (rB n E (-1) p b && rB n E (-1) b p) with
    | false => rfl
    | true => exact absurd (ofF_get h hk (((hcl p hp).2 b).2 (rB_mut.1 hm))) ho.1
theorem pick_same (hg : GOk n exit E) (h : IsGroups (nx n E) n gs) {o : List Int} (hc : Const gs o) :
    (∃ p k, ∃ (hk : k < gs.length), numPick (rB n E (-1)) E n o = some p ∧ pickF (shapeOf n E) (ofF n gs) gs o = some k ∧ p ∈ gs[k] ∧ getI o p < 0) ∨ (numPick (rB n E (-1)) E n o = none ∧ pickF (shapeOf n E) (ofF n gs) gs o = none) := by
  cases hp : numPick (rB n E (-1)) E n o with
  | none =>
    right
    refine ⟨rfl, ?_⟩
    unfold numPick at hp
    rw [List.find?_eq_none] at hp
    unfold pickF
    rw [List.find?_eq_none]
    intro k hk
    have hk := List.mem_range.1 hk
    have hm := h.head_mem hk
    rw [← cand_free hg h hc hk hm]
    exact hp _ (List.mem_range.2 (h.cls _ (List.getElem_mem hk) _ hm).1)
  | some p =>
    left
    unfold numPick at hp
    have hcand := List.find?_some hp
    have hpn := List.mem_range.1 (List.mem_of_find?_eq_some hp)
    obtain ⟨g, hgm, hpg⟩ := h.all p hpn
    obtain ⟨k, hk, rfl⟩ := List.mem_iff_getElem.1 hgm
    have hneg : getI o p < 0 := by
      unfold numCand at hcand
      rw [Bool.and_eq_true, decide_eq_true_eq] at hcand
      exact hcand.1
    refine ⟨p, k, hk, rfl, ?_, hpg, hneg⟩
    obtain ⟨-, l1, l2, hsp, has⟩ := List.find?_eq_some_iff_append.1 hp
    have hlow : ∀ j, j < p → numCand (rB n E (-1)) E o j = false := fun j hj => by
      have hjn : j ∈ List.range n := List.mem_range.2 (by omega)
      rw [hsp] at hjn
      rcases List.mem_append.1 hjn with h1 | h1
      · have := has j h1
        cases hcj : numCand (rB n E (-1)) E o j with
        | false => rfl
        | true => rw [hcj] at this; cases this
      · have hpw : (l1 ++ p :: l2).Pairwise (· < ·) := by rw [← hsp]; exact List.pairwise_lt_range
        rcases List.mem_cons.1 h1 with h2 | h2
        · omega
        · have := List.rel_of_pairwise_cons (List.pairwise_append.1 hpw).2.1 h2
          omega
    unfold pickF
    refine List.find?_eq_some_iff_append.2 ⟨?_, List.range k, (List.range gs.length).drop (k + 1), ?_, fun j hj => ?_⟩
    · rw [← cand_free hg h hc hk hpg]; exact hcand
    · have h1 := (List.take_append_drop k (List.range gs.length)).symm
      rw [List.take_range, Nat.min_eq_left (by omega), List.drop_eq_getElem_cons (by simpa using hk), List.getElem_range] at h1
      exact h1
    · have hj := List.mem_range.1 hj
      have hjl : j < gs.length := by omega
      rw [← cand_free hg h hc hjl (h.head_mem hjl)]
      have e : gs[j].getD 0 0 < gs[k].getD 0 0 := List.pairwise_iff_getElem.1 h.heads j k hjl hk hj
      have := h.head_le hk hpg
      rw [hlow _ (by omega)]
      rfl
theorem set_same (h : IsGroups (nx n E) n gs) {o : List Int} (ho : o.length = n) {k p c : Nat} (hk : k < gs.length) (hp : p ∈ gs[k]) : numSet (rB n E (-1)) n o p c = setAll o gs[k] c := by
  apply getI_ext
  · rw [setAll_length]; unfold numSet; rw [numFold_length]
  · intro x
    unfold numSet
    rw [numFold_get, setAll_get]
    have hcl := h.cls _ (List.getElem_mem hk)
    by_cases hx : x ∈ gs[k] ∧ x < o.length
    · rw [if_pos hx, if_pos ⟨List.mem_range.2 (by omega), rB_mut.2 (((hcl p hp).2 x).1 hx.1), hx.2⟩]
    · rw [if_neg hx, if_neg]
      rintro ⟨h1, h2, h3⟩
      exact hx ⟨((hcl p hp).2 x).2 (rB_mut.1 h2), h3⟩
theorem const_set (h : IsGroups (nx n E) n gs) {o : List Int} (ho : o.length = n) (hc : Const gs o) {k c : Nat} (hk : k < gs.length) : Const gs (setAll o gs[k] c) := by
  intro g hgm x hx y hy
  obtain ⟨j, hj, rfl⟩ := List.mem_iff_getElem.1 hgm
  rw [setAll_get, setAll_get, ho]
  have hxn := (h.cls _ hgm x hx).1
  have hyn := (h.cls _ hgm y hy).1
  by_cases e : j = k
  · subst e; rw [if_pos ⟨hx, hxn⟩, if_pos ⟨hy, hyn⟩]
  · rw [if_neg (fun h1 => e (h.one hj hk hx h1.1)), if_neg (fun h1 => e (h.one hj hk hy h1.1))]
    exact hc _ hgm x hx y hy
/-- How many groups have no number. -/
def without (gs : List (List Nat)) (o : List Int) : Nat := (gs.filter fun g => decide (getI o (g.getD 0 0) < 0)).length
theorem filter_lt {α : Type} {f g : α → Bool} : ∀ {l : List α}, (∀ x ∈ l, g x = true → f x = true) → (∃ x ∈ l, f x = true ∧ g x = false) → (l.filter g).length < (l.filter f).length
  | [], _, ⟨x, hx, _⟩ => by cases hx
  | a :: l, h1, ⟨x, hx, h2, h3⟩ => by
    have hle : (l.filter g).length ≤ (l.filter f).length := by
      have : ∀ {l : List α}, (∀ x ∈ l, g x = true → f x = true) → (l.filter g).length ≤ (l.filter f).length := by
        intro l
        induction l with
        | nil => intro _; exact Nat.le_refl _
        | cons b l ih =>
          intro h
          have := ih (fun x hx => h x (List.mem_cons_of_mem _ hx))
          rw [List.filter_cons, List.filter_cons]
          by_cases hb : g b = true
          · rw [if_pos hb, if_pos (h b List.mem_cons_self hb)]; simpa using this
          · rw [if_neg hb]
            split
            · simp; omega
            · exact this
      exact this (fun x hx => h1 x (List.mem_cons_of_mem _ hx))
    rw [List.filter_cons, List.filter_cons]
    rcases List.mem_cons.1 hx with h4 | h4
    · subst h4
      rw [h2, h3]
      simp; omega
    · have ih := filter_lt (l := l) (fun x hx => h1 x (List.mem_cons_of_mem _ hx)) ⟨x, h4, h2, h3⟩
      by_cases ha : g a = true
      · rw [if_pos ha, if_pos (h1 a List.mem_cons_self ha)]; simpa using ih
      · rw [if_neg ha]
        split
        · simp; omega
        · exact ih
theorem without_set (h : IsGroups (nx n E) n gs) {o : List Int} (ho : o.length = n) (hc : Const gs o) {k p c : Nat} (hk : k < gs.length) (hp : p ∈ gs[k]) (hneg : getI o p < 0) : without gs (setAll o gs[k] c) < without gs o := by
  unfold without
  refine filter_lt (fun g hgm hx => ?_) ⟨gs[k], List.getElem_mem hk, ?_, ?_⟩
  · rw [decide_eq_true_eq] at hx ⊢
    rw [setAll_get] at hx
    split at hx
    · omega
    · exact hx
  · rw [decide_eq_true_eq, ← hc _ (List.getElem_mem hk) p hp _ (h.head_mem hk)]; exact hneg
  · have hm := h.head_mem hk
    rw [decide_eq_false_iff_not, setAll_get, if_pos ⟨hm, by rw [ho]; exact (h.cls _ (List.getElem_mem hk) _ hm).1⟩]
    omega
theorem foldl_fix {σ α : Type} {f : σ → α → σ} {s : σ} : ∀ (l : List α), (∀ x ∈ l, f s x = s) → l.foldl f s = s
  | [], _ => rfl
  | a :: l, h => by rw [List.foldl_cons, h a List.mem_cons_self]; exact foldl_fix l fun x hx => h x (List.mem_cons_of_mem _ hx)
theorem range'_cons (a r : Nat) : List.range' a (r + 1) = a :: List.range' (a + 1) r := rfl
theorem loop_same (hg : GOk n exit E) (h : IsGroups (nx n E) n gs) : ∀ (r c f : Nat) (o : List Int), o.length = n → Const gs o → without gs o ≤ r → r < f →
    numLoop (rB n E (-1)) E n f c o = some ((List.range' c r).foldl (roundF (shapeOf n E) (ofF n gs) gs) o)
  | r, c, 0, o, _, _, _, hf => by omega
  | r, c, f + 1, o, ho, hc, hw, hf => by
    simp only [numLoop]
    rcases pick_same hg h hc with ⟨p, k, hk, h1, h2, h3, h4⟩ | ⟨h1, h2⟩
    · rw [h1]
      simp only
      have hlt := without_set (c := c) h ho hc hk h3 h4
      cases r with
      | zero => omega
      | succ r =>
        rw [set_same h ho hk h3, range'_cons, List.foldl_cons]
        have e : roundF (shapeOf n E) (ofF n gs) gs o c = setAll o gs[k] c := by
          unfold roundF
          rw [h2]
          simp only
          rw [List.getD_eq_getElem?_getD, List.getElem?_eq_getElem hk]
          rfl
        rw [e]
        exact loop_same hg h r (c + 1) f _ (by rw [setAll_length]; exact ho) (const_set h ho hc hk) (by omega) (by omega)
    · rw [h1]
      simp only
      rw [foldl_fix]
      intro x _
      unfold roundF
      rw [h2]
theorem groups_le {succ : Nat → List Nat} (h : IsGroups succ n gs) : gs.length ≤ n := by
  have hnd : (gs.map fun g => g.getD 0 0).Nodup := by
    unfold List.Nodup
    rw [List.pairwise_map]
    exact h.heads.imp fun hab e => by omega
  have hlt : ∀ x ∈ gs.map fun g => g.getD 0 0, x < n := by
    intro x hx
    obtain ⟨g, hgm, rfl⟩ := List.mem_map.1 hx
    obtain ⟨k, hk, rfl⟩ := List.mem_iff_getElem.1 hgm
    exact (h.cls _ hgm _ (h.head_mem hk)).1
  have := nodup_lt_length hnd hlt
  simpa using this
/-- The numbers of the reference are the program's. -/
theorem comp_same (hg : GOk n exit E) (h : IsGroups (nx n E) n gs) : numLoop (rB n E (-1)) E n (n + 1) 0 (List.replicate n (-1)) = some (compF (shapeOf n E) gs) := by
  unfold compF
  rw [List.range_eq_range']
  refine loop_same hg h gs.length 0 (n + 1) _ (by simp) (fun g hgm x hx y hy => ?_) ?_ (by have := groups_le h; omega)
  · rw [getI_replicate, getI_replicate]
  · unfold without
    exact List.length_filter_le _ _
end
end Go.Proofs.YthaampinmelgaaaGreatDoor

/-! Plain laws: the numbers of the components: edges lead to lower ones, all numbers are used. -/
namespace Go.Proofs.YthaampinmelgaaaGreatDoor

section
variable {n : Nat} {exit : Int} {E : List (Nat × Nat)} {gs : List (List Nat)}
/-- The points without a number that can be reached from a point. -/
noncomputable def openR (n : Nat) (E : List (Nat × Nat)) (o : List Int) (x : Nat) : List Nat := (List.range n).filter fun y => decide (getI o y < 0) && bP (Rch (nx n E) (fun _ => True) x y)
theorem mem_openR {o : List Int} {x y : Nat} : y ∈ openR n E o x ↔ y < n ∧ getI o y < 0 ∧ Rch (nx n E) (fun _ => True) x y := by
  unfold openR
  rw [List.mem_filter, List.mem_range, Bool.and_eq_true, decide_eq_true_iff, bP_iff]
/-- Among the points without a number is one from whose component no edge leads to another such component. -/
theorem sink (hg : GOk n exit E) {o : List Int} : ∀ (d x : Nat), x < n → getI o x < 0 → (openR n E o x).length ≤ d → ∃ y, y < n ∧ getI o y < 0 ∧ ∀ a b, Mut (nx n E) y a → (a, b) ∈ E → ¬ Mut (nx n E) y b → 0 ≤ getI o b
  | d, x, hx, ho, hd => by
    by_cases h : ∀ a b, Mut (nx n E) x a → (a, b) ∈ E → ¬ Mut (nx n E) x b → 0 ≤ getI o b
    · exact ⟨x, hx, ho, h⟩
    · have h' : ∃ a b, Mut (nx n E) x a ∧ (a, b) ∈ E ∧ ¬ Mut (nx n E) x b ∧ getI o b < 0 :=
        Classical.byContradiction fun hn => h fun a b h1 h2 h3 => by
          rcases Int.lt_or_le (getI o b) 0 with h4 | h4
          · exact absurd ⟨a, b, h1, h2, h3, h4⟩ hn
          · exact h4
      obtain ⟨a, b, h1, h2, h3, h4⟩ := h'
      have hbn := (hg.lt _ h2).2
      have hxb : Rch (nx n E) (fun _ => True) x b := .step h1.1 (hg.mem_nx.2 h2) trivial
      have hnb : ¬ Rch (nx n E) (fun _ => True) b x := fun k => h3 ⟨hxb, k⟩
      have hlt : (openR n E o b).length < (openR n E o x).length := by
        unfold openR
        refine filter_lt (fun y _ hy => ?_) ⟨x, List.mem_range.2 hx, ?_, ?_⟩
        · rw [Bool.and_eq_true, decide_eq_true_iff, bP_iff] at hy ⊢
          exact ⟨hy.1, hxb.trans hy.2⟩
        · rw [Bool.and_eq_true, decide_eq_true_iff, bP_iff]
          exact ⟨ho, .refl trivial⟩
        · rw [Bool.and_eq_false_iff]
          exact .inr (bP_false.2 hnb)
      cases d with
      | zero => omega
      | succ d => exact sink hg d b hbn h4 (by omega)
/-- Where a group has no number, one is free. -/
theorem pick_some (hg : GOk n exit E) (h : IsGroups (nx n E) n gs) {o : List Int} (hc : Const gs o) (hw : 0 < without gs o) : ∃ k, ∃ (_ : k < gs.length), pickF (shapeOf n E) (ofF n gs) gs o = some k ∧ (∀ p ∈ gs[k], getI o p < 0) ∧ (∀ a b, a ∈ gs[k] → (a, b) ∈ E → b ∉ gs[k] → 0 ≤ getI o b) := by
  have hx : ∃ g ∈ gs, getI o (g.getD 0 0) < 0 := by
    unfold without at hw
    obtain ⟨g, hgm⟩ := List.exists_mem_of_length_pos hw
    rw [List.mem_filter, decide_eq_true_iff] at hgm
    exact ⟨g, hgm⟩
  obtain ⟨g0, hg0, hneg⟩ := hx
  obtain ⟨k0, hk0, rfl⟩ := List.mem_iff_getElem.1 hg0
  have hm0 := h.head_mem hk0
  obtain ⟨y, hy, hyo, hys⟩ := sink hg (openR n E o _).length _ (h.cls _ hg0 _ hm0).1 hneg (Nat.le_refl _)
  obtain ⟨g, hgm, hyg⟩ := h.all y hy
  obtain ⟨j, hj, rfl⟩ := List.mem_iff_getElem.1 hgm
  have hcl := h.cls _ hgm
  have hfree : freeF (shapeOf n E) (ofF n gs) gs o j = true := by
    rw [← cand_free hg h hc hj hyg]
    unfold numCand endsF
    rw [decide_eq_true hyo, Bool.true_and, Bool.not_eq_true', List.any_eq_false]
    rintro ⟨a, b⟩ hab ho
    unfold open1 at ho
    simp only [Bool.and_eq_true, Bool.not_eq_true', decide_eq_true_eq] at ho
    obtain ⟨h1, h2, h3⟩ := ho
    have := hys a b (rB_mut.1 (by rw [h1.1, h1.2]; rfl)) hab (fun hm => by rw [rB_mut.2 hm] at h2; cases h2)
    omega
  cases hp : pickF (shapeOf n E) (ofF n gs) gs o with
  | none =>
    unfold pickF at hp
    rw [List.find?_eq_none] at hp
    exact absurd hfree (hp j (List.mem_range.2 hj))
  | some k =>
    unfold pickF at hp
    have hf := List.find?_some hp
    have hk := List.mem_range.1 (List.mem_of_find?_eq_some hp)
    have hmk := h.head_mem hk
    have hclk := h.cls _ (List.getElem_mem hk)
    rw [← cand_free hg h hc hk hmk] at hf
    unfold numCand endsF at hf
    rw [Bool.and_eq_true, decide_eq_true_iff, Bool.not_eq_true', List.any_eq_false] at hf
    refine ⟨k, hk, rfl, fun p hp2 => by rw [hc _ (List.getElem_mem hk) p hp2 _ hmk]; exact hf.1, fun a b ha hab hb => ?_⟩
    have h1 := hf.2 (a, b) hab
    unfold open1 at h1
    rw [rB_mut.2 (((hclk _ hmk).2 a).1 ha)] at h1
    have h2 : (rB n E (-1) (gs[k].getD 0 0) b && rB n E (-1) b (gs[k].getD 0 0)) = false := by
      cases hx : (rB n E (-1) (gs[k].getD 0 0) b && rB n E (-1) b (gs[k].getD 0 0)) with
      | false => rfl
      | true => exact absurd (((hclk _ hmk).2 b).2 (rB_mut.1 hx)) hb
    simp only [h2, Bool.not_false, Bool.true_and, decide_eq_true_eq] at h1
    omega
/-- The numbers behind c rounds. -/
structure OrdI (n : Nat) (E : List (Nat × Nat)) (gs : List (List Nat)) (c : Nat) (o : List Int) : Prop where
  len : o.length = n
  const : Const gs o
  rng : ∀ x, x < n → getI o x = -1 ∨ (0 ≤ getI o x ∧ getI o x < (c : Int))
  all : ∀ k, k < c → ∃ x, x < n ∧ getI o x = (k : Int)
  inj : ∀ x y, x < n → y < n → 0 ≤ getI o x → getI o x = getI o y → Mut (nx n E) x y
  edge : ∀ a b, (a, b) ∈ E → 0 ≤ getI o a → 0 ≤ getI o b ∧ getI o b ≤ getI o a
  left : without gs o ≤ gs.length - c
theorem ordI (hg : GOk n exit E) (h : IsGroups (nx n E) n gs) : ∀ c, c ≤ gs.length → OrdI n E gs c ((List.range c).foldl (roundF (shapeOf n E) (ofF n gs) gs) (List.replicate n (-1)))
  | 0, _ => by
    refine ⟨by simp, fun g hgm x hx y hy => ?_, fun x hx => ?_, fun k hk => by omega, fun x y hx hy h0 => ?_, fun a b hab h0 => ?_, ?_⟩
    · simp only [List.range_zero, List.foldl_nil]; rw [getI_replicate, getI_replicate]
    · simp only [List.range_zero, List.foldl_nil]; exact .inl (getI_replicate _ _)
    · simp only [List.range_zero, List.foldl_nil] at h0; rw [getI_replicate] at h0; omega
    · simp only [List.range_zero, List.foldl_nil] at h0; rw [getI_replicate] at h0; omega
    · unfold without; exact List.length_filter_le _ _
  | c + 1, hc => by
    have ih := ordI hg h c (by omega)
    rw [List.range_succ, List.foldl_append]
    revert ih
    generalize (List.range c).foldl (roundF (shapeOf n E) (ofF n gs) gs) (List.replicate n (-1)) = o
    intro ih
    simp only [List.foldl_cons, List.foldl_nil]
    by_cases hw : 0 < without gs o
    · obtain ⟨k, hk, hp, hneg, hout⟩ := pick_some hg h ih.const hw
      have e : roundF (shapeOf n E) (ofF n gs) gs o c = setAll o gs[k] c := by
        unfold roundF
        rw [hp]
        simp only
        rw [List.getD_eq_getElem?_getD, List.getElem?_eq_getElem hk]
        rfl
      rw [e]
      have hget : ∀ x, x < n → getI (setAll o gs[k] c) x = if x ∈ gs[k] then (c : Int) else getI o x := fun x hx => by
        rw [setAll_get, ih.len]
        by_cases hm : x ∈ gs[k]
        · rw [if_pos ⟨hm, hx⟩, if_pos hm]
        · rw [if_neg (fun k => hm k.1), if_neg hm]
      have hmk := h.head_mem hk
      have hclk := h.cls _ (List.getElem_mem hk)
      refine ⟨by rw [setAll_length]; exact ih.len, const_set h ih.len ih.const hk, fun x hx => ?_, fun j hj => ?_, fun x y hx hy h0 hxy => ?_, fun a b hab h0 => ?_, ?_⟩
      · rw [hget x hx]
        split
        · exact .inr ⟨by omega, by omega⟩
        · rcases ih.rng x hx with h1 | h1
          · exact .inl h1
          · exact .inr ⟨h1.1, by omega⟩
      · by_cases hjc : j = c
        · subst hjc
          exact ⟨_, (hclk _ hmk).1, by rw [hget _ (hclk _ hmk).1, if_pos hmk]⟩
        · obtain ⟨x, hx, h1⟩ := ih.all j (by omega)
          refine ⟨x, hx, ?_⟩
          rw [hget x hx, if_neg (fun hm => by have := hneg x hm; omega)]
          exact h1
      · rw [hget x hx] at h0 hxy
        rw [hget y hy] at hxy
        by_cases hxm : x ∈ gs[k]
        · by_cases hym : y ∈ gs[k]
          · exact ((hclk x hxm).2 y).1 hym
          · rw [if_pos hxm, if_neg hym] at hxy
            rcases ih.rng y hy with h1 | h1 <;> omega
        · by_cases hym : y ∈ gs[k]
          · rw [if_neg hxm, if_pos hym] at hxy
            rcases ih.rng x hx with h1 | h1 <;> omega
          · rw [if_neg hxm] at h0 hxy
            rw [if_neg hym] at hxy
            exact ih.inj x y hx hy h0 hxy
      · have hab2 := hg.lt _ hab
        rw [hget a hab2.1] at h0
        rw [hget a hab2.1, hget b hab2.2]
        by_cases ham : a ∈ gs[k]
        · rw [if_pos ham]
          by_cases hbm : b ∈ gs[k]
          · rw [if_pos hbm]; omega
          · rw [if_neg hbm]
            have := hout a b ham hab hbm
            rcases ih.rng b hab2.2 with h1 | h1 <;> omega
        · rw [if_neg ham] at h0
          rw [if_neg ham]
          have h1 := ih.edge a b hab h0
          rw [if_neg (fun hm => by have := hneg b hm; omega)]
          exact h1
      · have := without_set (c := c) h ih.len ih.const hk hmk (hneg _ hmk)
        have := ih.left
        omega
    · exfalso
      have hcl : c < gs.length := by omega
      -- all groups have a number, but only c numbers are used
      have hall : ∀ (i : Nat) (hi : i < gs.length), 0 ≤ getI o (gs[i].getD 0 0) ∧ getI o (gs[i].getD 0 0) < (c : Int) := fun i hi => by
        have hmi := h.head_mem hi
        have hin := (h.cls _ (List.getElem_mem hi) _ hmi).1
        rcases ih.rng _ hin with h1 | h1
        · exfalso
          apply hw
          unfold without
          exact List.length_pos_of_mem (List.mem_filter.2 ⟨List.getElem_mem hi, by rw [decide_eq_true_iff]; omega⟩)
        · exact h1
      have hnd : ((List.range gs.length).map fun i => (getI o ((gs.getD i []).getD 0 0)).toNat).Nodup := by
        unfold List.Nodup
        rw [List.pairwise_map, List.pairwise_iff_getElem]
        intro i j hi hj hij
        simp only [List.getElem_range]
        simp only [List.length_range] at hi hj
        have ei : gs.getD i [] = gs[i] := by rw [List.getD_eq_getElem?_getD, List.getElem?_eq_getElem hi]; rfl
        have ej : gs.getD j [] = gs[j] := by rw [List.getD_eq_getElem?_getD, List.getElem?_eq_getElem hj]; rfl
        rw [ei, ej]
        intro e
        have h1 := hall i hi
        have h2 := hall j hj
        have hmi := h.head_mem hi
        have hmj := h.head_mem hj
        have hM := ih.inj _ _ (h.cls _ (List.getElem_mem hi) _ hmi).1 (h.cls _ (List.getElem_mem hj) _ hmj).1 h1.1 (by omega)
        have := h.one hi hj (((h.cls _ (List.getElem_mem hi) _ hmi).2 _).2 hM) hmj
        omega
      have := nodup_lt_length hnd (n := c) (fun x hx => by
        obtain ⟨i, hi, rfl⟩ := List.mem_map.1 hx
        have hi := List.mem_range.1 hi
        have ei : gs.getD i [] = gs[i] := by rw [List.getD_eq_getElem?_getD, List.getElem?_eq_getElem hi]; rfl
        rw [ei]
        have := hall i hi
        omega)
      simp at this
      omega
/-- The numbers of the components, at the end. -/
theorem comp_ord (hg : GOk n exit E) (h : IsGroups (nx n E) n gs) : (compF (shapeOf n E) gs).length = n ∧ (∀ x, x < n → 0 ≤ getI (compF (shapeOf n E) gs) x ∧ getI (compF (shapeOf n E) gs) x < (gs.length : Int)) ∧
    (∀ k, k < gs.length → ∃ x, x < n ∧ getI (compF (shapeOf n E) gs) x = (k : Int)) ∧ (∀ a b, (a, b) ∈ E → getI (compF (shapeOf n E) gs) b ≤ getI (compF (shapeOf n E) gs) a) ∧
    (∀ x y, x < n → y < n → (getI (compF (shapeOf n E) gs) x = getI (compF (shapeOf n E) gs) y ↔ Mut (nx n E) x y)) := by
  have hi := ordI hg h gs.length (Nat.le_refl _)
  have e : (List.range gs.length).foldl (roundF (shapeOf n E) (ofF n gs) gs) (List.replicate n (-1)) = compF (shapeOf n E) gs := rfl
  rw [e] at hi
  have hpos : ∀ x, x < n → 0 ≤ getI (compF (shapeOf n E) gs) x ∧ getI (compF (shapeOf n E) gs) x < (gs.length : Int) := fun x hx => by
    rcases hi.rng x hx with h1 | h1
    · exfalso
      obtain ⟨g, hgm, hxg⟩ := h.all x hx
      obtain ⟨j, hj, rfl⟩ := List.mem_iff_getElem.1 hgm
      have h2 := hi.const _ hgm x hxg _ (h.head_mem hj)
      have h3 : 0 < without gs (compF (shapeOf n E) gs) := by
        unfold without
        exact List.length_pos_of_mem (List.mem_filter.2 ⟨hgm, by rw [decide_eq_true_iff]; omega⟩)
      have := hi.left
      omega
    · exact h1
  refine ⟨hi.len, hpos, hi.all, fun a b hab => (hi.edge a b hab (hpos a (hg.lt _ hab).1).1).2, fun x y hx hy => ⟨fun hxy => hi.inj x y hx hy (hpos x hx).1 hxy, fun hm => ?_⟩⟩
  obtain ⟨g, hgm, hxg⟩ := h.all x hx
  exact hi.const _ hgm x hxg y (((h.cls _ hgm x hxg).2 y).2 hm)
end
end Go.Proofs.YthaampinmelgaaaGreatDoor

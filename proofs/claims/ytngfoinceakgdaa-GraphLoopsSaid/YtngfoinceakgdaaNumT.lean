/- Plain laws: the reference's numbers of the components are the program's. -/
import Derived.Test.YtngfoinceakgdaaEnds
import Derived.Test.YtngfoinceakgdaaPlain2
import Derived.Test.YtngfoinceakgdaaCompS
import Derived.Test.YtngfoinceakgdaaSem
namespace Go.Proofs.Ytngfoinceakgdaa

theorem getI_ext {a b : List Int} (hl : a.length = b.length) (h : ∀ x, getI a x = getI b x) : a = b := by
  apply List.ext_getElem hl
  intro i h1 h2
  have := h i
  unfold getI at this
  rw [List.getD_eq_getElem?_getD, List.getD_eq_getElem?_getD, List.getElem?_eq_getElem h1, List.getElem?_eq_getElem h2] at this
  exact this
theorem numFold_get {M : Nat → Nat → Bool} {p c : Nat} : ∀ (l : List Nat) (o : List Int) (x : Nat), getI (l.foldl (numSet1 M p c) o) x = if x ∈ l ∧ (M p x && M x p) = true ∧ x < o.length then (c : Int) else getI o x
  | [], o, x => by rw [List.foldl_nil, if_neg (by simp)]
  | q :: l, o, x => by
    rw [List.foldl_cons, numFold_get l, numSet1_length]
    by_cases h1 : x ∈ l ∧ (M p x && M x p) = true ∧ x < o.length
    · rw [if_pos h1, if_pos ⟨List.mem_cons_of_mem _ h1.1, h1.2⟩]
    · rw [if_neg h1]
      unfold numSet1
      by_cases h2 : x = q
      · subst h2
        by_cases h3 : (M p x && M x p) = true
        · rw [if_pos h3, getI_set]
          by_cases h4 : x < o.length
          · rw [if_pos ⟨rfl, h4⟩, if_pos ⟨List.mem_cons_self, h3, h4⟩]
          · rw [if_neg (fun h => h4 h.2), if_neg (fun h => h4 h.2.2)]
        · rw [if_neg h3, if_neg (fun h => h3 h.2.1)]
      · have h5 : ¬ (x ∈ q :: l ∧ (M p x && M x p) = true ∧ x < o.length) := fun h => by
          rcases List.mem_cons.1 h.1 with h6 | h6
          · exact h2 h6
          · exact h1 ⟨h6, h.2⟩
        rw [if_neg h5]
        split
        · rw [getI_set, if_neg (fun h => h2 h.1.symm)]
        · rfl
theorem setAll_get : ∀ (g : List Nat) (o : List Int) (c x : Nat), getI (setAll o g c) x = if x ∈ g ∧ x < o.length then (c : Int) else getI o x
  | [], o, c, x => by unfold setAll; rw [List.foldl_nil, if_neg (by simp)]
  | q :: g, o, c, x => by
    have ih := setAll_get g (o.set q (c : Int)) c x
    unfold setAll at ih ⊢
    rw [List.foldl_cons, ih, List.length_set]
    by_cases h1 : x ∈ g ∧ x < o.length
    · rw [if_pos h1, if_pos ⟨List.mem_cons_of_mem _ h1.1, h1.2⟩]
    · rw [if_neg h1, getI_set]
      by_cases h2 : x = q
      · subst h2
        by_cases h4 : x < o.length
        · rw [if_pos ⟨rfl, h4⟩, if_pos ⟨List.mem_cons_self, h4⟩]
        · rw [if_neg (fun h => h4 h.2), if_neg (fun h => h4 h.2)]
      · rw [if_neg (fun h => h2 h.1.symm), if_neg]
        rintro ⟨h5, h6⟩
        rcases List.mem_cons.1 h5 with h7 | h7
        · exact h2 h7
        · exact h1 ⟨h7, h6⟩
theorem setAll_length (g : List Nat) (c : Nat) : ∀ o : List Int, (setAll o g c).length = o.length := by
  unfold setAll
  induction g with
  | nil => intro o; rfl
  | cons x xs ih => intro o; rw [List.foldl_cons, ih]; simp

/-- The number of the group of a point. -/
theorem fillOf_get (k : Nat) : ∀ (g o : List Nat) (x : Nat), (fillOf o g k).getD x 0 = if x ∈ g ∧ x < o.length then k else o.getD x 0
  | [], o, x => by unfold fillOf; rw [List.foldl_nil, if_neg (by simp)]
  | q :: g, o, x => by
    have ih := fillOf_get k g (o.set q k) x
    unfold fillOf at ih ⊢
    rw [List.foldl_cons, ih, List.length_set]
    by_cases h1 : x ∈ g ∧ x < o.length
    · rw [if_pos h1, if_pos ⟨List.mem_cons_of_mem _ h1.1, h1.2⟩]
    · rw [if_neg h1, getD_set_n]
      by_cases h2 : x = q
      · subst h2
        by_cases h4 : x < o.length
        · rw [if_pos ⟨rfl, h4⟩, if_pos ⟨List.mem_cons_self, h4⟩]
        · rw [if_neg (fun h => h4 h.2), if_neg (fun h => h4 h.2)]
      · rw [if_neg (fun h => h2 h.1.symm), if_neg]
        rintro ⟨h5, h6⟩
        rcases List.mem_cons.1 h5 with h7 | h7
        · exact h2 h7
        · exact h1 ⟨h7, h6⟩

section
variable {n : Nat} {exit : Int} {E : List (Nat × Nat)} {gs : List (List Nat)}
theorem IsGroups.one {succ : Nat → List Nat} (h : IsGroups succ n gs) {i j x : Nat} (hi : i < gs.length) (hj : j < gs.length) (h1 : x ∈ gs[i]) (h2 : x ∈ gs[j]) : i = j := by
  have hh : ∀ {a b : Nat} (ha : a < gs.length) (hb : b < gs.length), a < b → x ∈ gs[a] → x ∈ gs[b] → False := by
    intro a b ha hb hab h1 h2
    have e : gs[a].getD 0 0 < gs[b].getD 0 0 := List.pairwise_iff_getElem.1 h.heads a b ha hb hab
    have ne := h.ne _ (List.getElem_mem hb)
    have ne1 := h.ne _ (List.getElem_mem ha)
    have m2 : gs[b].getD 0 0 ∈ gs[b] := by
      cases hb2 : gs[b] with
      | nil => exact absurd hb2 ne
      | cons y ys => simp
    have m1 : gs[b].getD 0 0 ∈ gs[a] := ((h.cls _ (List.getElem_mem ha) x h1).2 _).2 (((h.cls _ (List.getElem_mem hb) x h2).2 _).1 m2)
    have hs := h.sorted _ (List.getElem_mem hb)
    have m3 : gs[a].getD 0 0 ∈ gs[b] := by
      refine ((h.cls _ (List.getElem_mem hb) x h2).2 _).2 (((h.cls _ (List.getElem_mem ha) x h1).2 _).1 ?_)
      cases ha2 : gs[a] with
      | nil => exact absurd ha2 ne1
      | cons y ys => simp
    cases hb2 : gs[b] with
    | nil => exact absurd hb2 ne
    | cons y ys =>
      rw [hb2] at hs m3 e
      simp only [List.getD_cons_zero] at e
      rcases List.mem_cons.1 m3 with h5 | h5
      · omega
      · have := List.rel_of_pairwise_cons hs h5
        omega
  rcases Nat.lt_trichotomy i j with h3 | h3 | h3
  · exact (hh hi hj h3 h1 h2).elim
  · exact h3
  · exact (hh hj hi h3 h2 h1).elim
theorem IsGroups.head_mem {succ : Nat → List Nat} (h : IsGroups succ n gs) {k : Nat} (hk : k < gs.length) : gs[k].getD 0 0 ∈ gs[k] := by
  have ne := h.ne _ (List.getElem_mem hk)
  cases hb2 : gs[k] with
  | nil => exact absurd hb2 ne
  | cons y ys => simp
theorem IsGroups.head_le {succ : Nat → List Nat} (h : IsGroups succ n gs) {k x : Nat} (hk : k < gs.length) (hx : x ∈ gs[k]) : gs[k].getD 0 0 ≤ x := by
  have hs := h.sorted _ (List.getElem_mem hk)
  cases hb2 : gs[k] with
  | nil => rw [hb2] at hx; cases hx
  | cons y ys =>
    rw [hb2] at hs hx
    simp only [List.getD_cons_zero]
    rcases List.mem_cons.1 hx with h5 | h5
    · omega
    · have := List.rel_of_pairwise_cons hs h5; omega
theorem ofP_get {succ : Nat → List Nat} (h : IsGroups succ n gs) : ∀ (m : Nat), m ≤ gs.length → (ofP n gs m).length = n ∧ ∀ (j : Nat) (hj : j < gs.length), j < m → ∀ x ∈ gs[j], (ofP n gs m).getD x 0 = j
  | 0, _ => ⟨by rw [ofP_zero]; simp, fun j _ hj => by omega⟩
  | m + 1, hm => by
    obtain ⟨hl, ih⟩ := ofP_get h m (by omega)
    rw [ofP_succ n gs m (by omega)]
    refine ⟨by rw [fillOf_length]; exact hl, fun j hj hjm x hx => ?_⟩
    rw [fillOf_get, hl]
    have hxn := (h.cls _ (List.getElem_mem hj) x hx).1
    by_cases e : j = m
    · subst e; rw [if_pos ⟨hx, hxn⟩]
    · rw [if_neg, ih j hj (by omega) x hx]
      rintro ⟨h1, -⟩
      exact e (h.one hj (by omega) hx h1)
theorem ofF_get {succ : Nat → List Nat} (h : IsGroups succ n gs) {j x : Nat} (hj : j < gs.length) (hx : x ∈ gs[j]) : (ofF n gs).getD x 0 = j := by
  rw [← ofP_all]
  exact (ofP_get h gs.length (Nat.le_refl _)).2 j hj hj x hx
theorem rB_mut {p q : Nat} : (rB n E (-1) p q && rB n E (-1) q p) = true ↔ Mut (nx n E) p q := by
  unfold rB Mut
  rw [Bool.and_eq_true, bP_iff, bP_iff]
  exact ⟨fun h => ⟨h.1.mono fun _ _ => trivial, h.2.mono fun _ _ => trivial⟩, fun h => ⟨h.1.mono fun _ _ => by omega, h.2.mono fun _ _ => by omega⟩⟩
/-- The numbers are the same on each group. -/
def Const (gs : List (List Nat)) (o : List Int) : Prop := ∀ g ∈ gs, ∀ x ∈ g, ∀ y ∈ g, getI o x = getI o y
theorem cand_free (hg : GOk n exit E) (h : IsGroups (nx n E) n gs) {o : List Int} (hc : Const gs o) {k p : Nat} (hk : k < gs.length) (hp : p ∈ gs[k]) : numCand (rB n E (-1)) E o p = freeF (shapeOf n E) (ofF n gs) gs o k := by
  have hgk : gs.getD k [] = gs[k] := by rw [List.getD_eq_getElem?_getD, List.getElem?_eq_getElem hk]; rfl
  have hcl := h.cls _ (List.getElem_mem hk)
  unfold numCand freeF
  rw [hgk, hc _ (List.getElem_mem hk) p hp _ (h.head_mem hk)]
  congr 1
  unfold endsF blockedF
  congr 1
  rw [Bool.eq_iff_iff, List.any_eq_true, List.any_eq_true]
  constructor
  · rintro ⟨⟨a, b⟩, hab, ho⟩
    unfold open1 at ho
    simp only [Bool.and_eq_true, Bool.not_eq_true', decide_eq_true_eq] at ho
    obtain ⟨h1, h2, h3⟩ := ho
    have ha : a ∈ gs[k] := ((hcl p hp).2 a).2 (rB_mut.1 (by rw [h1.1, h1.2]; rfl))
    refine ⟨a, ha, List.any_eq_true.2 ⟨b, hg.mem_nx.2 hab, ?_⟩⟩
    rw [Bool.and_eq_true, decide_eq_true_eq, decide_eq_true_eq]
    refine ⟨fun e => ?_, h3⟩
    obtain ⟨g, hgm, hbg⟩ := h.all b (hg.lt _ hab).2
    obtain ⟨j, hj, rfl⟩ := List.mem_iff_getElem.1 hgm
    have e2 := ofF_get h hj hbg
    rw [e] at e2
    subst e2
    have := rB_mut.2 (((hcl p hp).2 b).1 hbg)
    rw [h2] at this
    cases this
  · rintro ⟨a, ha, hb⟩
    obtain ⟨b, hb, ho⟩ := List.any_eq_true.1 hb
    rw [Bool.and_eq_true, decide_eq_true_eq, decide_eq_true_eq] at ho
    have hab := hg.mem_nx.1 hb
    refine ⟨(a, b), hab, ?_⟩
    unfold open1
    simp only
    rw [rB_mut.2 (((hcl p hp).2 a).1 ha), decide_eq_true ho.2, Bool.and_true, Bool.true_and]
    cases hm : (rB n E (-1) p b && rB n E (-1) b p) with
    | false => rfl
    | true => exact absurd (ofF_get h hk (((hcl p hp).2 b).2 (rB_mut.1 hm))) ho.1
theorem pick_same (hg : GOk n exit E) (h : IsGroups (nx n E) n gs) {o : List Int} (hc : Const gs o) :
    (∃ p k, ∃ (hk : k < gs.length), numPick (rB n E (-1)) E n o = some p ∧ pickF (shapeOf n E) (ofF n gs) gs o = some k ∧ p ∈ gs[k] ∧ getI o p < 0) ∨ (numPick (rB n E (-1)) E n o = none ∧ pickF (shapeOf n E) (ofF n gs) gs o = none) := by
  cases hp : numPick (rB n E (-1)) E n o with
  | none =>
    right
    refine ⟨rfl, ?_⟩
    unfold numPick at hp
    rw [List.find?_eq_none] at hp
    unfold pickF
    rw [List.find?_eq_none]
    intro k hk
    have hk := List.mem_range.1 hk
    have hm := h.head_mem hk
    rw [← cand_free hg h hc hk hm]
    exact hp _ (List.mem_range.2 (h.cls _ (List.getElem_mem hk) _ hm).1)
  | some p =>
    left
    unfold numPick at hp
    have hcand := List.find?_some hp
    have hpn := List.mem_range.1 (List.mem_of_find?_eq_some hp)
    obtain ⟨g, hgm, hpg⟩ := h.all p hpn
    obtain ⟨k, hk, rfl⟩ := List.mem_iff_getElem.1 hgm
    have hneg : getI o p < 0 := by
      unfold numCand at hcand
      rw [Bool.and_eq_true, decide_eq_true_eq] at hcand
      exact hcand.1
    refine ⟨p, k, hk, rfl, ?_, hpg, hneg⟩
    obtain ⟨-, l1, l2, hsp, has⟩ := List.find?_eq_some_iff_append.1 hp
    have hlow : ∀ j, j < p → numCand (rB n E (-1)) E o j = false := fun j hj => by
      have hjn : j ∈ List.range n := List.mem_range.2 (by omega)
      rw [hsp] at hjn
      rcases List.mem_append.1 hjn with h1 | h1
      · have := has j h1
        cases hcj : numCand (rB n E (-1)) E o j with
        | false => rfl
        | true => rw [hcj] at this; cases this
      · have hpw : (l1 ++ p :: l2).Pairwise (· < ·) := by rw [← hsp]; exact List.pairwise_lt_range
        rcases List.mem_cons.1 h1 with h2 | h2
        · omega
        · have := List.rel_of_pairwise_cons (List.pairwise_append.1 hpw).2.1 h2
          omega
    unfold pickF
    refine List.find?_eq_some_iff_append.2 ⟨?_, List.range k, (List.range gs.length).drop (k + 1), ?_, fun j hj => ?_⟩
    · rw [← cand_free hg h hc hk hpg]; exact hcand
    · have h1 := (List.take_append_drop k (List.range gs.length)).symm
      rw [List.take_range, Nat.min_eq_left (by omega), List.drop_eq_getElem_cons (by simpa using hk), List.getElem_range] at h1
      exact h1
    · have hj := List.mem_range.1 hj
      have hjl : j < gs.length := by omega
      rw [← cand_free hg h hc hjl (h.head_mem hjl)]
      have e : gs[j].getD 0 0 < gs[k].getD 0 0 := List.pairwise_iff_getElem.1 h.heads j k hjl hk hj
      have := h.head_le hk hpg
      rw [hlow _ (by omega)]
      rfl
theorem set_same (h : IsGroups (nx n E) n gs) {o : List Int} (ho : o.length = n) {k p c : Nat} (hk : k < gs.length) (hp : p ∈ gs[k]) : numSet (rB n E (-1)) n o p c = setAll o gs[k] c := by
  apply getI_ext
  · rw [setAll_length]; unfold numSet; rw [numFold_length]
  · intro x
    unfold numSet
    rw [numFold_get, setAll_get]
    have hcl := h.cls _ (List.getElem_mem hk)
    by_cases hx : x ∈ gs[k] ∧ x < o.length
    · rw [if_pos hx, if_pos ⟨List.mem_range.2 (by omega), rB_mut.2 (((hcl p hp).2 x).1 hx.1), hx.2⟩]
    · rw [if_neg hx, if_neg]
      rintro ⟨h1, h2, h3⟩
      exact hx ⟨((hcl p hp).2 x).2 (rB_mut.1 h2), h3⟩
theorem const_set (h : IsGroups (nx n E) n gs) {o : List Int} (ho : o.length = n) (hc : Const gs o) {k c : Nat} (hk : k < gs.length) : Const gs (setAll o gs[k] c) := by
  intro g hgm x hx y hy
  obtain ⟨j, hj, rfl⟩ := List.mem_iff_getElem.1 hgm
  rw [setAll_get, setAll_get, ho]
  have hxn := (h.cls _ hgm x hx).1
  have hyn := (h.cls _ hgm y hy).1
  by_cases e : j = k
  · subst e; rw [if_pos ⟨hx, hxn⟩, if_pos ⟨hy, hyn⟩]
  · rw [if_neg (fun h1 => e (h.one hj hk hx h1.1)), if_neg (fun h1 => e (h.one hj hk hy h1.1))]
    exact hc _ hgm x hx y hy
/-- How many groups have no number. -/
def without (gs : List (List Nat)) (o : List Int) : Nat := (gs.filter fun g => decide (getI o (g.getD 0 0) < 0)).length
theorem filter_lt {α : Type} {f g : α → Bool} : ∀ {l : List α}, (∀ x ∈ l, g x = true → f x = true) → (∃ x ∈ l, f x = true ∧ g x = false) → (l.filter g).length < (l.filter f).length
  | [], _, ⟨x, hx, _⟩ => by cases hx
  | a :: l, h1, ⟨x, hx, h2, h3⟩ => by
    have hle : (l.filter g).length ≤ (l.filter f).length := by
      have : ∀ {l : List α}, (∀ x ∈ l, g x = true → f x = true) → (l.filter g).length ≤ (l.filter f).length := by
        intro l
        induction l with
        | nil => intro _; exact Nat.le_refl _
        | cons b l ih =>
          intro h
          have := ih (fun x hx => h x (List.mem_cons_of_mem _ hx))
          rw [List.filter_cons, List.filter_cons]
          by_cases hb : g b = true
          · rw [if_pos hb, if_pos (h b List.mem_cons_self hb)]; simpa using this
          · rw [if_neg hb]
            split
            · simp; omega
            · exact this
      exact this (fun x hx => h1 x (List.mem_cons_of_mem _ hx))
    rw [List.filter_cons, List.filter_cons]
    rcases List.mem_cons.1 hx with h4 | h4
    · subst h4
      rw [h2, h3]
      simp; omega
    · have ih := filter_lt (l := l) (fun x hx => h1 x (List.mem_cons_of_mem _ hx)) ⟨x, h4, h2, h3⟩
      by_cases ha : g a = true
      · rw [if_pos ha, if_pos (h1 a List.mem_cons_self ha)]; simpa using ih
      · rw [if_neg ha]
        split
        · simp; omega
        · exact ih
theorem without_set (h : IsGroups (nx n E) n gs) {o : List Int} (ho : o.length = n) (hc : Const gs o) {k p c : Nat} (hk : k < gs.length) (hp : p ∈ gs[k]) (hneg : getI o p < 0) : without gs (setAll o gs[k] c) < without gs o := by
  unfold without
  refine filter_lt (fun g hgm hx => ?_) ⟨gs[k], List.getElem_mem hk, ?_, ?_⟩
  · rw [decide_eq_true_eq] at hx ⊢
    rw [setAll_get] at hx
    split at hx
    · omega
    · exact hx
  · rw [decide_eq_true_eq, ← hc _ (List.getElem_mem hk) p hp _ (h.head_mem hk)]; exact hneg
  · have hm := h.head_mem hk
    rw [decide_eq_false_iff_not, setAll_get, if_pos ⟨hm, by rw [ho]; exact (h.cls _ (List.getElem_mem hk) _ hm).1⟩]
    omega
theorem foldl_fix {σ α : Type} {f : σ → α → σ} {s : σ} : ∀ (l : List α), (∀ x ∈ l, f s x = s) → l.foldl f s = s
  | [], _ => rfl
  | a :: l, h => by rw [List.foldl_cons, h a List.mem_cons_self]; exact foldl_fix l fun x hx => h x (List.mem_cons_of_mem _ hx)
theorem range'_cons (a r : Nat) : List.range' a (r + 1) = a :: List.range' (a + 1) r := rfl
theorem loop_same (hg : GOk n exit E) (h : IsGroups (nx n E) n gs) : ∀ (r c f : Nat) (o : List Int), o.length = n → Const gs o → without gs o ≤ r → r < f →
    numLoop (rB n E (-1)) E n f c o = some ((List.range' c r).foldl (roundF (shapeOf n E) (ofF n gs) gs) o)
  | r, c, 0, o, _, _, _, hf => by omega
  | r, c, f + 1, o, ho, hc, hw, hf => by
    simp only [numLoop]
    rcases pick_same hg h hc with ⟨p, k, hk, h1, h2, h3, h4⟩ | ⟨h1, h2⟩
    · rw [h1]
      simp only
      have hlt := without_set (c := c) h ho hc hk h3 h4
      cases r with
      | zero => omega
      | succ r =>
        rw [set_same h ho hk h3, range'_cons, List.foldl_cons]
        have e : roundF (shapeOf n E) (ofF n gs) gs o c = setAll o gs[k] c := by
          unfold roundF
          rw [h2]
          simp only
          rw [List.getD_eq_getElem?_getD, List.getElem?_eq_getElem hk]
          rfl
        rw [e]
        exact loop_same hg h r (c + 1) f _ (by rw [setAll_length]; exact ho) (const_set h ho hc hk) (by omega) (by omega)
    · rw [h1]
      simp only
      rw [foldl_fix]
      intro x _
      unfold roundF
      rw [h2]
theorem groups_le {succ : Nat → List Nat} (h : IsGroups succ n gs) : gs.length ≤ n := by
  have hnd : (gs.map fun g => g.getD 0 0).Nodup := by
    unfold List.Nodup
    rw [List.pairwise_map]
    exact h.heads.imp fun hab e => by omega
  have hlt : ∀ x ∈ gs.map fun g => g.getD 0 0, x < n := by
    intro x hx
    obtain ⟨g, hgm, rfl⟩ := List.mem_map.1 hx
    obtain ⟨k, hk, rfl⟩ := List.mem_iff_getElem.1 hgm
    exact (h.cls _ hgm _ (h.head_mem hk)).1
  have := nodup_lt_length hnd hlt
  simpa using this
/-- The numbers of the reference are the program's. -/
theorem comp_same (hg : GOk n exit E) (h : IsGroups (nx n E) n gs) : numLoop (rB n E (-1)) E n (n + 1) 0 (List.replicate n (-1)) = some (compF (shapeOf n E) gs) := by
  unfold compF
  rw [List.range_eq_range']
  refine loop_same hg h gs.length 0 (n + 1) _ (by simp) (fun g hgm x hx y hy => ?_) ?_ (by have := groups_le h; omega)
  · rw [getI_replicate, getI_replicate]
  · unfold without
    exact List.length_filter_le _ _
end
end Go.Proofs.Ytngfoinceakgdaa

/- Plain laws: the numbers of the components: edges lead to lower ones, all numbers are used. -/
import Derived.Test.YtngfoinceakgdaaNumT
import Derived.Lib.SlicesCompact
namespace Go.Proofs.Ytngfoinceakgdaa

section
variable {n : Nat} {exit : Int} {E : List (Nat × Nat)} {gs : List (List Nat)}
/-- The points without a number that can be reached from a point. -/
noncomputable def openR (n : Nat) (E : List (Nat × Nat)) (o : List Int) (x : Nat) : List Nat := (List.range n).filter fun y => decide (getI o y < 0) && bP (Rch (nx n E) (fun _ => True) x y)
theorem mem_openR {o : List Int} {x y : Nat} : y ∈ openR n E o x ↔ y < n ∧ getI o y < 0 ∧ Rch (nx n E) (fun _ => True) x y := by
  unfold openR
  rw [List.mem_filter, List.mem_range, Bool.and_eq_true, decide_eq_true_iff, bP_iff]
/-- Among the points without a number is one from whose component no edge leads to another such component. -/
theorem sink (hg : GOk n exit E) {o : List Int} : ∀ (d x : Nat), x < n → getI o x < 0 → (openR n E o x).length ≤ d → ∃ y, y < n ∧ getI o y < 0 ∧ ∀ a b, Mut (nx n E) y a → (a, b) ∈ E → ¬ Mut (nx n E) y b → 0 ≤ getI o b
  | d, x, hx, ho, hd => by
    by_cases h : ∀ a b, Mut (nx n E) x a → (a, b) ∈ E → ¬ Mut (nx n E) x b → 0 ≤ getI o b
    · exact ⟨x, hx, ho, h⟩
    · have h' : ∃ a b, Mut (nx n E) x a ∧ (a, b) ∈ E ∧ ¬ Mut (nx n E) x b ∧ getI o b < 0 :=
        Classical.byContradiction fun hn => h fun a b h1 h2 h3 => by
          rcases Int.lt_or_le (getI o b) 0 with h4 | h4
          · exact absurd ⟨a, b, h1, h2, h3, h4⟩ hn
          · exact h4
      obtain ⟨a, b, h1, h2, h3, h4⟩ := h'
      have hbn := (hg.lt _ h2).2
      have hxb : Rch (nx n E) (fun _ => True) x b := .step h1.1 (hg.mem_nx.2 h2) trivial
      have hnb : ¬ Rch (nx n E) (fun _ => True) b x := fun k => h3 ⟨hxb, k⟩
      have hlt : (openR n E o b).length < (openR n E o x).length := by
        unfold openR
        refine filter_lt (fun y _ hy => ?_) ⟨x, List.mem_range.2 hx, ?_, ?_⟩
        · rw [Bool.and_eq_true, decide_eq_true_iff, bP_iff] at hy ⊢
          exact ⟨hy.1, hxb.trans hy.2⟩
        · rw [Bool.and_eq_true, decide_eq_true_iff, bP_iff]
          exact ⟨ho, .refl trivial⟩
        · rw [Bool.and_eq_false_iff]
          exact .inr (bP_false.2 hnb)
      cases d with
      | zero => omega
      | succ d => exact sink hg d b hbn h4 (by omega)
/-- Where a group has no number, one is free. -/
theorem pick_some (hg : GOk n exit E) (h : IsGroups (nx n E) n gs) {o : List Int} (hc : Const gs o) (hw : 0 < without gs o) : ∃ k, ∃ (_ : k < gs.length), pickF (shapeOf n E) (ofF n gs) gs o = some k ∧ (∀ p ∈ gs[k], getI o p < 0) ∧ (∀ a b, a ∈ gs[k] → (a, b) ∈ E → b ∉ gs[k] → 0 ≤ getI o b) := by
  have hx : ∃ g ∈ gs, getI o (g.getD 0 0) < 0 := by
    unfold without at hw
    obtain ⟨g, hgm⟩ := List.exists_mem_of_length_pos hw
    rw [List.mem_filter, decide_eq_true_iff] at hgm
    exact ⟨g, hgm⟩
  obtain ⟨g0, hg0, hneg⟩ := hx
  obtain ⟨k0, hk0, rfl⟩ := List.mem_iff_getElem.1 hg0
  have hm0 := h.head_mem hk0
  obtain ⟨y, hy, hyo, hys⟩ := sink hg (openR n E o _).length _ (h.cls _ hg0 _ hm0).1 hneg (Nat.le_refl _)
  obtain ⟨g, hgm, hyg⟩ := h.all y hy
  obtain ⟨j, hj, rfl⟩ := List.mem_iff_getElem.1 hgm
  have hcl := h.cls _ hgm
  have hfree : freeF (shapeOf n E) (ofF n gs) gs o j = true := by
    rw [← cand_free hg h hc hj hyg]
    unfold numCand endsF
    rw [decide_eq_true hyo, Bool.true_and, Bool.not_eq_true', List.any_eq_false]
    rintro ⟨a, b⟩ hab ho
    unfold open1 at ho
    simp only [Bool.and_eq_true, Bool.not_eq_true', decide_eq_true_eq] at ho
    obtain ⟨h1, h2, h3⟩ := ho
    have := hys a b (rB_mut.1 (by rw [h1.1, h1.2]; rfl)) hab (fun hm => by rw [rB_mut.2 hm] at h2; cases h2)
    omega
  cases hp : pickF (shapeOf n E) (ofF n gs) gs o with
  | none =>
    unfold pickF at hp
    rw [List.find?_eq_none] at hp
    exact absurd hfree (hp j (List.mem_range.2 hj))
  | some k =>
    unfold pickF at hp
    have hf := List.find?_some hp
    have hk := List.mem_range.1 (List.mem_of_find?_eq_some hp)
    have hmk := h.head_mem hk
    have hclk := h.cls _ (List.getElem_mem hk)
    rw [← cand_free hg h hc hk hmk] at hf
    unfold numCand endsF at hf
    rw [Bool.and_eq_true, decide_eq_true_iff, Bool.not_eq_true', List.any_eq_false] at hf
    refine ⟨k, hk, rfl, fun p hp2 => by rw [hc _ (List.getElem_mem hk) p hp2 _ hmk]; exact hf.1, fun a b ha hab hb => ?_⟩
    have h1 := hf.2 (a, b) hab
    unfold open1 at h1
    rw [rB_mut.2 (((hclk _ hmk).2 a).1 ha)] at h1
    have h2 : (rB n E (-1) (gs[k].getD 0 0) b && rB n E (-1) b (gs[k].getD 0 0)) = false := by
      cases hx : (rB n E (-1) (gs[k].getD 0 0) b && rB n E (-1) b (gs[k].getD 0 0)) with
      | false => rfl
      | true => exact absurd (((hclk _ hmk).2 b).2 (rB_mut.1 hx)) hb
    simp only [h2, Bool.not_false, Bool.true_and, decide_eq_true_eq] at h1
    omega
/-- The numbers behind c rounds. -/
structure OrdI (n : Nat) (E : List (Nat × Nat)) (gs : List (List Nat)) (c : Nat) (o : List Int) : Prop where
  len : o.length = n
  const : Const gs o
  rng : ∀ x, x < n → getI o x = -1 ∨ (0 ≤ getI o x ∧ getI o x < (c : Int))
  all : ∀ k, k < c → ∃ x, x < n ∧ getI o x = (k : Int)
  inj : ∀ x y, x < n → y < n → 0 ≤ getI o x → getI o x = getI o y → Mut (nx n E) x y
  edge : ∀ a b, (a, b) ∈ E → 0 ≤ getI o a → 0 ≤ getI o b ∧ getI o b ≤ getI o a
  left : without gs o ≤ gs.length - c
theorem ordI (hg : GOk n exit E) (h : IsGroups (nx n E) n gs) : ∀ c, c ≤ gs.length → OrdI n E gs c ((List.range c).foldl (roundF (shapeOf n E) (ofF n gs) gs) (List.replicate n (-1)))
  | 0, _ => by
    refine ⟨by simp, fun g hgm x hx y hy => ?_, fun x hx => ?_, fun k hk => by omega, fun x y hx hy h0 => ?_, fun a b hab h0 => ?_, ?_⟩
    · simp only [List.range_zero, List.foldl_nil]; rw [getI_replicate, getI_replicate]
    · simp only [List.range_zero, List.foldl_nil]; exact .inl (getI_replicate _ _)
    · simp only [List.range_zero, List.foldl_nil] at h0; rw [getI_replicate] at h0; omega
    · simp only [List.range_zero, List.foldl_nil] at h0; rw [getI_replicate] at h0; omega
    · unfold without; exact List.length_filter_le _ _
  | c + 1, hc => by
    have ih := ordI hg h c (by omega)
    rw [List.range_succ, List.foldl_append]
    revert ih
    generalize (List.range c).foldl (roundF (shapeOf n E) (ofF n gs) gs) (List.replicate n (-1)) = o
    intro ih
    simp only [List.foldl_cons, List.foldl_nil]
    by_cases hw : 0 < without gs o
    · obtain ⟨k, hk, hp, hneg, hout⟩ := pick_some hg h ih.const hw
      have e : roundF (shapeOf n E) (ofF n gs) gs o c = setAll o gs[k] c := by
        unfold roundF
        rw [hp]
        simp only
        rw [List.getD_eq_getElem?_getD, List.getElem?_eq_getElem hk]
        rfl
      rw [e]
      have hget : ∀ x, x < n → getI (setAll o gs[k] c) x = if x ∈ gs[k] then (c : Int) else getI o x := fun x hx => by
        rw [setAll_get, ih.len]
        by_cases hm : x ∈ gs[k]
        · rw [if_pos ⟨hm, hx⟩, if_pos hm]
        · rw [if_neg (fun k => hm k.1), if_neg hm]
      have hmk := h.head_mem hk
      have hclk := h.cls _ (List.getElem_mem hk)
      refine ⟨by rw [setAll_length]; exact ih.len, const_set h ih.len ih.const hk, fun x hx => ?_, fun j hj => ?_, fun x y hx hy h0 hxy => ?_, fun a b hab h0 => ?_, ?_⟩
      · rw [hget x hx]
        split
        · exact .inr ⟨by omega, by omega⟩
        · rcases ih.rng x hx with h1 | h1
          · exact .inl h1
          · exact .inr ⟨h1.1, by omega⟩
      · by_cases hjc : j = c
        · subst hjc
          exact ⟨_, (hclk _ hmk).1, by rw [hget _ (hclk _ hmk).1, if_pos hmk]⟩
        · obtain ⟨x, hx, h1⟩ := ih.all j (by omega)
          refine ⟨x, hx, ?_⟩
          rw [hget x hx, if_neg (fun hm => by have := hneg x hm; omega)]
          exact h1
      · rw [hget x hx] at h0 hxy
        rw [hget y hy] at hxy
        by_cases hxm : x ∈ gs[k]
        · by_cases hym : y ∈ gs[k]
          · exact ((hclk x hxm).2 y).1 hym
          · rw [if_pos hxm, if_neg hym] at hxy
            rcases ih.rng y hy with h1 | h1 <;> omega
        · by_cases hym : y ∈ gs[k]
          · rw [if_neg hxm, if_pos hym] at hxy
            rcases ih.rng x hx with h1 | h1 <;> omega
          · rw [if_neg hxm] at h0 hxy
            rw [if_neg hym] at hxy
            exact ih.inj x y hx hy h0 hxy
      · have hab2 := hg.lt _ hab
        rw [hget a hab2.1] at h0
        rw [hget a hab2.1, hget b hab2.2]
        by_cases ham : a ∈ gs[k]
        · rw [if_pos ham]
          by_cases hbm : b ∈ gs[k]
          · rw [if_pos hbm]; omega
          · rw [if_neg hbm]
            have := hout a b ham hab hbm
            rcases ih.rng b hab2.2 with h1 | h1 <;> omega
        · rw [if_neg ham] at h0
          rw [if_neg ham]
          have h1 := ih.edge a b hab h0
          rw [if_neg (fun hm => by have := hneg b hm; omega)]
          exact h1
      · have := without_set (c := c) h ih.len ih.const hk hmk (hneg _ hmk)
        have := ih.left
        omega
    · exfalso
      have hcl : c < gs.length := by omega
      -- all groups have a number, but only c numbers are used
      have hall : ∀ (i : Nat) (hi : i < gs.length), 0 ≤ getI o (gs[i].getD 0 0) ∧ getI o (gs[i].getD 0 0) < (c : Int) := fun i hi => by
        have hmi := h.head_mem hi
        have hin := (h.cls _ (List.getElem_mem hi) _ hmi).1
        rcases ih.rng _ hin with h1 | h1
        · exfalso
          apply hw
          unfold without
          exact List.length_pos_of_mem (List.mem_filter.2 ⟨List.getElem_mem hi, by rw [decide_eq_true_iff]; omega⟩)
        · exact h1
      have hnd : ((List.range gs.length).map fun i => (getI o ((gs.getD i []).getD 0 0)).toNat).Nodup := by
        unfold List.Nodup
        rw [List.pairwise_map, List.pairwise_iff_getElem]
        intro i j hi hj hij
        simp only [List.getElem_range]
        simp only [List.length_range] at hi hj
        have ei : gs.getD i [] = gs[i] := by rw [List.getD_eq_getElem?_getD, List.getElem?_eq_getElem hi]; rfl
        have ej : gs.getD j [] = gs[j] := by rw [List.getD_eq_getElem?_getD, List.getElem?_eq_getElem hj]; rfl
        rw [ei, ej]
        intro e
        have h1 := hall i hi
        have h2 := hall j hj
        have hmi := h.head_mem hi
        have hmj := h.head_mem hj
        have hM := ih.inj _ _ (h.cls _ (List.getElem_mem hi) _ hmi).1 (h.cls _ (List.getElem_mem hj) _ hmj).1 h1.1 (by omega)
        have := h.one hi hj (((h.cls _ (List.getElem_mem hi) _ hmi).2 _).2 hM) hmj
        omega
      have := nodup_lt_length hnd (n := c) (fun x hx => by
        obtain ⟨i, hi, rfl⟩ := List.mem_map.1 hx
        have hi := List.mem_range.1 hi
        have ei : gs.getD i [] = gs[i] := by rw [List.getD_eq_getElem?_getD, List.getElem?_eq_getElem hi]; rfl
        rw [ei]
        have := hall i hi
        omega)
      simp at this
      omega
/-- The numbers of the components, at the end. -/
theorem comp_ord (hg : GOk n exit E) (h : IsGroups (nx n E) n gs) : (compF (shapeOf n E) gs).length = n ∧ (∀ x, x < n → 0 ≤ getI (compF (shapeOf n E) gs) x ∧ getI (compF (shapeOf n E) gs) x < (gs.length : Int)) ∧
    (∀ k, k < gs.length → ∃ x, x < n ∧ getI (compF (shapeOf n E) gs) x = (k : Int)) ∧ (∀ a b, (a, b) ∈ E → getI (compF (shapeOf n E) gs) b ≤ getI (compF (shapeOf n E) gs) a) ∧
    (∀ x y, x < n → y < n → (getI (compF (shapeOf n E) gs) x = getI (compF (shapeOf n E) gs) y ↔ Mut (nx n E) x y)) := by
  have hi := ordI hg h gs.length (Nat.le_refl _)
  have e : (List.range gs.length).foldl (roundF (shapeOf n E) (ofF n gs) gs) (List.replicate n (-1)) = compF (shapeOf n E) gs := rfl
  rw [e] at hi
  have hpos : ∀ x, x < n → 0 ≤ getI (compF (shapeOf n E) gs) x ∧ getI (compF (shapeOf n E) gs) x < (gs.length : Int) := fun x hx => by
    rcases hi.rng x hx with h1 | h1
    · exfalso
      obtain ⟨g, hgm, hxg⟩ := h.all x hx
      obtain ⟨j, hj, rfl⟩ := List.mem_iff_getElem.1 hgm
      have h2 := hi.const _ hgm x hxg _ (h.head_mem hj)
      have h3 : 0 < without gs (compF (shapeOf n E) gs) := by
        unfold without
        exact List.length_pos_of_mem (List.mem_filter.2 ⟨hgm, by rw [decide_eq_true_iff]; omega⟩)
      have := hi.left
      omega
    · exact h1
  refine ⟨hi.len, hpos, hi.all, fun a b hab => (hi.edge a b hab (hpos a (hg.lt _ hab).1).1).2, fun x y hx hy => ⟨fun hxy => hi.inj x y hx hy (hpos x hx).1 hxy, fun hm => ?_⟩⟩
  obtain ⟨g, hgm, hxg⟩ := h.all x hx
  exact hi.const _ hgm x hxg y (((h.cls _ hgm x hxg).2 y).2 hm)
end
end Go.Proofs.Ytngfoinceakgdaa

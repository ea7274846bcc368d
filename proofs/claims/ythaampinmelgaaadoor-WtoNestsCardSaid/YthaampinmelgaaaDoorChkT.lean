/- Package wto: Check, plain: the first error of the elements, the points that are left out, the edges that lead backwards. No program here but words of the iterator. -/
import Derived.Test.YthaampinmelgaaaDoorWithin
namespace Go.Proofs.YthaampinmelgaaaDoor
open Go.RowKit

/-- The error of an element, some points having come before it. -/
def eltErr (n : Nat) (R : List Bool) (seen : List Int) (x : El) : Int :=
  if x.c = false ∧ x.body ≠ [] then 3 else if x.p < 0 ∨ (n : Int) ≤ x.p ∨ R.getD x.p.toNat false = false then 6 else if x.p ∈ seen then 7 else 0
def eachErr (n : Nat) (R : List Bool) : List Int → List (El × List Int) → Int
  | _, [] => 0
  | seen, z :: G => if eltErr n R seen z.1 ≠ 0 then eltErr n R seen z.1 else eachErr n R (seen ++ [z.1.p]) G
def placeI (ps : List Int) (k : Int) : Int := ((ps.findIdx? fun x => decide (x = k)).map fun i : Nat => (i : Int)).getD 0
def insW (G : List (El × List Int)) (k : Int) : List Int := ((G.find? fun z => decide (z.1.p = k)).map Prod.snd).getD []
def gapB (n : Nat) (R : List Bool) (ps : List Int) : Bool := (List.range n).any fun p => R.getD p false && !decide ((p : Int) ∈ ps)
def badEdge' (R : List Bool) (ps : List Int) (G : List (El × List Int)) (x : Nat × Nat) : Bool :=
  R.getD x.1 false && decide (placeI ps x.2 ≤ placeI ps x.1) && !(insW G x.1).contains (x.2 : Int)
def chkV (n : Nat) (E : List (Nat × Nat)) (R : List Bool) (l : List El) : Int :=
  if eachErr n R [] (walkL l []) ≠ 0 then eachErr n R [] (walkL l [])
  else if gapB n R (ptsL l) = true then 20
  else if E.any (badEdge' R (ptsL l) (walkL l [])) = true then 14 else 0
theorem eachErr_append (n : Nat) (R : List Bool) : ∀ (G : List (El × List Int)) (seen : List Int) (H : List (El × List Int)), eachErr n R seen G = 0 → eachErr n R seen (G ++ H) = eachErr n R (seen ++ G.map fun z => z.1.p) H
  | [], seen, H, _ => by simp
  | z :: G, seen, H, h => by
    simp only [eachErr] at h
    rw [List.cons_append]
    simp only [eachErr]
    by_cases hz : eltErr n R seen z.1 ≠ 0
    · rw [if_pos hz] at h; exact absurd h hz
    · rw [if_neg hz] at h ⊢
      rw [eachErr_append n R G _ H h]
      simp
theorem eachErr_one {n : Nat} {R : List Bool} {G : List (El × List Int)} {z : El × List Int} {H : List (El × List Int)} (h : eachErr n R [] G = 0) (hz : eltErr n R (G.map fun z => z.1.p) z.1 ≠ 0) : eachErr n R [] (G ++ z :: H) = eltErr n R (G.map fun z => z.1.p) z.1 := by
  rw [eachErr_append n R G [] _ h]
  simp only [eachErr, List.nil_append]
  rw [if_pos hz]
theorem eachErr_next {n : Nat} {R : List Bool} {G : List (El × List Int)} {z : El × List Int} (h : eachErr n R [] G = 0) (hz : eltErr n R (G.map fun z => z.1.p) z.1 = 0) : eachErr n R [] (G ++ [z]) = 0 := by
  rw [eachErr_append n R G [] _ h]
  simp only [eachErr, List.nil_append]
  rw [if_neg (fun e => e hz)]

section
variable {n : Nat} {R : List Bool} {seen : List Int} {p : Int} {cc : Bool} {bb : List El}
theorem elt3 (h1 : cc = false) (h2 : bb ≠ []) : eltErr n R seen (.mk p cc bb) = 3 := by
  unfold eltErr; exact if_pos ⟨h1, h2⟩
theorem elt6 (hf : ¬ (cc = false ∧ bb ≠ [])) (h : p < 0 ∨ (n : Int) ≤ p ∨ R.getD p.toNat false = false) : eltErr n R seen (.mk p cc bb) = 6 := by
  unfold eltErr; exact (if_neg hf).trans (if_pos h)
theorem elt7 (hf : ¬ (cc = false ∧ bb ≠ [])) (h : ¬ (p < 0 ∨ (n : Int) ≤ p ∨ R.getD p.toNat false = false)) (hs : p ∈ seen) : eltErr n R seen (.mk p cc bb) = 7 := by
  unfold eltErr; exact (if_neg hf).trans ((if_neg h).trans (if_pos hs))
theorem elt0 (hf : ¬ (cc = false ∧ bb ≠ [])) (h : ¬ (p < 0 ∨ (n : Int) ≤ p ∨ R.getD p.toNat false = false)) (hs : p ∉ seen) : eltErr n R seen (.mk p cc bb) = 0 := by
  unfold eltErr; exact (if_neg hf).trans ((if_neg h).trans (if_neg hs))
end

/-- What the two maps hold. -/
def ptsY (ys : List Yd) : List Int := ys.map fun y => y.x.p
theorem ptsY_key (ys : List Yd) : (ys.map Yd.key).map (fun z => z.1.p) = ptsY ys := by unfold ptsY; rw [List.map_map]; rfl
def plS (ys : List Yd) (k : Int) : Option Value := ((ptsY ys).findIdx? fun x => decide (x = k)).map fun i : Nat => .int .i64 (i : Int)
def wiS (ys : List Yd) (k : Int) : Option Value := (ys.find? fun y => decide (y.x.p = k)).map fun y => y.hv
theorem plS_some {ys : List Yd} {k : Int} : (plS ys k).isSome = decide (k ∈ ptsY ys) := by
  unfold plS
  rw [Option.isSome_map, List.findIdx?_isSome]
  by_cases h : k ∈ ptsY ys
  · rw [decide_eq_true h, List.any_eq_true]; exact ⟨k, h, by simp⟩
  · rw [decide_eq_false h, List.any_eq_false]
    intro x hx
    simp
    rintro rfl
    exact h hx
theorem plS_none {ys : List Yd} {k : Int} (h : k ∉ ptsY ys) : plS ys k = none := by
  have := plS_some (ys := ys) (k := k)
  rw [decide_eq_false h] at this
  simpa using this
theorem wiS_none {ys : List Yd} {k : Int} (h : k ∉ ptsY ys) : wiS ys k = none := by
  unfold wiS
  rw [Option.map_eq_none_iff, List.find?_eq_none]
  intro y hy
  simp
  rintro rfl
  exact h (List.mem_map.2 ⟨y, hy, rfl⟩)
theorem plS_snoc {ys : List Yd} {y : Yd} (h : y.x.p ∉ ptsY ys) : plS (ys ++ [y]) = fun j => if j = y.x.p then some (.int .i64 (ys.length : Int)) else plS ys j := by
  funext j
  unfold plS ptsY
  rw [List.map_append, List.findIdx?_append]
  by_cases hj : j = y.x.p
  · subst hj
    have hn : (ys.map fun y => y.x.p).findIdx? (fun x => decide (x = y.x.p)) = none := by
      rw [List.findIdx?_eq_none_iff]
      intro x hx
      simp
      rintro rfl
      exact h hx
    rw [if_pos rfl, hn]
    simp
  · rw [if_neg hj]
    have : ¬ y.x.p = j := fun e => hj e.symm
    cases (ys.map fun y => y.x.p).findIdx? (fun x => decide (x = j)) <;> simp [this]
theorem wiS_snoc {ys : List Yd} {y : Yd} (h : y.x.p ∉ ptsY ys) : wiS (ys ++ [y]) = fun j => if j = y.x.p then some y.hv else wiS ys j := by
  funext j
  unfold wiS
  rw [List.find?_append]
  by_cases hj : j = y.x.p
  · subst hj
    have hn : ys.find? (fun z => decide (z.x.p = y.x.p)) = none := by
      rw [List.find?_eq_none]
      intro x hx
      simp
      intro e
      exact h (e ▸ List.mem_map.2 ⟨x, hx, rfl⟩)
    rw [if_pos rfl, hn]
    simp
  · rw [if_neg hj]
    have : ¬ y.x.p = j := fun e => hj e.symm
    cases ys.find? (fun z => decide (z.x.p = j)) <;> simp [this]
theorem plS_get (ys : List Yd) (k : Int) : (plS ys k).getD (.int .i64 0) = .int .i64 (placeI (ptsY ys) k) := by
  unfold plS placeI
  cases (ptsY ys).findIdx? (fun x => decide (x = k)) <;> rfl
theorem wiS_get {ys : List Yd} {l : List El} (h : ys.map Yd.key = walkL l []) {w : World} (hd : ∀ y ∈ ys, HeadsAt (fun _ => True) w y.hv y.hs) (k : Int) : HeadsAt (fun _ => True) w ((wiS ys k).getD (.slice none 0 0)) (insW (walkL l []) k) := by
  have e : insW (walkL l []) k = ((ys.find? fun y => decide (y.x.p = k)).map Yd.hs).getD [] := by
    unfold insW
    rw [← h, List.find?_map]
    have : ((fun z : El × List Int => decide (z.1.p = k)) ∘ Yd.key) = fun y : Yd => decide (y.x.p = k) := rfl
    rw [this]
    cases ys.find? (fun y => decide (y.x.p = k)) <;> rfl
  rw [e]
  unfold wiS
  cases hf : ys.find? (fun y => decide (y.x.p = k)) with
  | none => exact HeadsAt.nil _ _
  | some y => exact hd y (List.mem_of_find?_eq_some hf)
theorem HeadsAt.ints {w : World} {v : Value} {hs : List Int} (h : HeadsAt (fun _ => True) w v hs) : Ints w.heap.size w v hs := by
  obtain ⟨A, c, rfl, h2, h3, -, h4⟩ := h
  refine ⟨A, c, rfl, h2, h3, fun j x hx => ?_⟩
  obtain ⟨ad, h5, -, h7, h8⟩ := h4 j x hx
  exact ⟨ad, _, h5, h8.lt, h7, rfl⟩
theorem gap_none {n : Nat} {R : List Bool} {ps : List Int} (h : ∀ j, j < n → R.getD j false = true → ((j : Nat) : Int) ∈ ps) : gapB n R ps = false := by
  unfold gapB
  rw [List.any_eq_false]
  intro j hj
  have hj' := List.mem_range.1 hj
  cases hr : R.getD j false with
  | false => simp
  | true => simp [h j hj' hr]
theorem gap_some {n : Nat} {R : List Bool} {ps : List Int} {j : Nat} (hj : j < n) (hr : R.getD j false = true) (h : ((j : Nat) : Int) ∉ ps) : gapB n R ps = true := by
  unfold gapB
  rw [List.any_eq_true]
  exact ⟨j, List.mem_range.2 hj, by rw [hr]; simp [h]⟩
theorem chkV_gap {n : Nat} {E : List (Nat × Nat)} {R : List Bool} {l : List El} (h1 : eachErr n R [] (walkL l []) = 0) (h2 : gapB n R (ptsL l) = true) : chkV n E R l = 20 := by
  unfold chkV; exact (if_neg (fun e => e h1)).trans (if_pos h2)
theorem chkV_edge {n : Nat} {E : List (Nat × Nat)} {R : List Bool} {l : List El} (h1 : eachErr n R [] (walkL l []) = 0) (h2 : gapB n R (ptsL l) = false) (h3 : E.any (badEdge' R (ptsL l) (walkL l [])) = true) : chkV n E R l = 14 := by
  unfold chkV; exact (if_neg (fun e => e h1)).trans ((if_neg (by rw [h2]; simp)).trans (if_pos h3))
theorem chkV_ok {n : Nat} {E : List (Nat × Nat)} {R : List Bool} {l : List El} (h1 : eachErr n R [] (walkL l []) = 0) (h2 : gapB n R (ptsL l) = false) (h3 : E.any (badEdge' R (ptsL l) (walkL l [])) = false) : chkV n E R l = 0 := by
  unfold chkV; exact (if_neg (fun e => e h1)).trans ((if_neg (by rw [h2]; simp)).trans (if_neg (by rw [h3]; simp)))
theorem chkV_err {n : Nat} {E : List (Nat × Nat)} {R : List Bool} {l : List El} (h1 : eachErr n R [] (walkL l []) ≠ 0) : chkV n E R l = eachErr n R [] (walkL l []) := by
  unfold chkV; exact if_pos h1
end Go.Proofs.YthaampinmelgaaaDoor

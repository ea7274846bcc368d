/- What the plain functions come to at the example that every law looks at. No program here. -/
import Derived.Test.YtngfoinceakgdaaKos
import Derived.Test.YtngfoinceakgdaaDomU
namespace Go.Proofs.Ytngfoinceakgdaa

def ex5 : List (Nat × Nat) := [(0, 1), (1, 2), (2, 1), (1, 3), (3, 4)]
def ex6 : List (Nat × Nat) := ex5 ++ [(0, 2)]
def all5 : List Bool := [true, true, true, true, true]

theorem ex5_ok : GOk 5 4 ex5 := ⟨by decide, by decide, by decide, by decide, by decide, by decide⟩
theorem ex6_ok : GOk 5 4 ex6 := ⟨by decide, by decide, by decide, by decide, by decide, by decide⟩
theorem ex5_all : foldO (dfsV (shapeOf 5 ex5).next (-1) 20) (List.range 5) (List.replicate 5 false, []) = some (all5, [2, 4, 3, 1, 0]) := by decide
theorem ex5_dfs : foldO (dfsV (shapeOf 5 ex5).next (-1) 20) [0] (List.replicate 5 false, []) = some (all5, [2, 4, 3, 1, 0]) := by decide
theorem ex5_dom : domF (shapeOf 5 ex5) 20 20 [2, 4, 3, 1, 0] = some [-1, 0, 1, 1, 3] := by decide
theorem ex5_rdfs : foldO (dfsV ((shapeOf 5 ex5).rev 4).next (-1) 20) [4] (List.replicate 5 false, []) = some (all5, [0, 2, 1, 3, 4]) := by decide
theorem ex5_pdom : domF ((shapeOf 5 ex5).rev 4) 20 20 [0, 2, 1, 3, 4] = some [1, 3, 1, 4, -1] := by decide
theorem ex5_back : backF (shapeOf 5 ex5) [-1, 0, 1, 1, 3] all5 20 = some [2] := by decide
theorem ex5_tails : tailsF (shapeOf 5 ex5) [2] = [[], [2], [], [], []] := by decide
theorem ex5_loops : loopsF (shapeOf 5 ex5) all5 [2] 20 = some [(1, [1, 2])] := by decide
theorem ex5_acy : acyF (shapeOf 5 ex5) (inL [2]) 20 (List.replicate 5 0) 0 = some ([2, 2, 2, 2, 2], true) := by decide
theorem ex6_dfs : foldO (dfsV (shapeOf 5 ex6).next (-1) 20) [0] (List.replicate 5 false, []) = some (all5, [2, 4, 3, 1, 0]) := by decide
theorem ex6_dom : domF (shapeOf 5 ex6) 20 20 [2, 4, 3, 1, 0] = some [-1, 0, 0, 1, 3] := by decide
theorem ex6_back : backF (shapeOf 5 ex6) [-1, 0, 0, 1, 3] all5 20 = some [] := by decide
theorem ex6_acy : acyF (shapeOf 5 ex6) (inL []) 20 (List.replicate 5 0) 0 = some ([1, 1, 1, 0, 0], false) := by decide

theorem sortN_of {l : List Nat} (h : l.Pairwise fun a b => decide (a ≤ b) = true) : sortN l = l := List.mergeSort_of_pairwise h
theorem step_old {succ : Nat → List Nat} {k : Nat} {st : List Bool × List (List Nat)} {p : Nat} (h : st.1.getD p false = true) : grpStep succ k st p = some st := by
  unfold grpStep; rw [if_pos h]
theorem step_new {succ : Nat → List Nat} {k : Nat} {st : List Bool × List (List Nat)} {p : Nat} {t : List Bool × List Nat} (h : st.1.getD p false = false) (ht : grpV succ k (st.1, []) p = some t) (hs : t.2.Pairwise fun a b => decide (a ≤ b) = true) :
    grpStep succ k st p = some (t.1, st.2 ++ [t.2]) := by
  unfold grpStep; rw [if_neg (by rw [h]; simp), ht, Option.map_some, sortN_of hs]
theorem ex5_groups : grpsF ((shapeOf 5 ex5).rev 0).next 20 5 [2, 4, 3, 1, 0] = some (all5, [[0], [1, 2], [3], [4]]) := by
  unfold grpsF
  show foldO _ [0, 1, 3, 4, 2] _ = _
  unfold foldO
  rw [step_new (t := ([true, false, false, false, false], [0])) (by decide) (by decide) (by decide), Option.bind_some]
  unfold foldO
  rw [step_new (t := ([true, true, true, false, false], [1, 2])) (by decide) (by decide) (by decide), Option.bind_some]
  unfold foldO
  rw [step_new (t := ([true, true, true, true, false], [3])) (by decide) (by decide) (by decide), Option.bind_some]
  unfold foldO
  rw [step_new (t := ([true, true, true, true, true], [4])) (by decide) (by decide) (by decide), Option.bind_some]
  unfold foldO
  rw [step_old (by decide), Option.bind_some]
  rfl
theorem ex5_sorted : sortG [[0], [1, 2], [3], [4]] = [[0], [1, 2], [3], [4]] := List.mergeSort_of_pairwise (by decide)
theorem ex5_comp : compF (shapeOf 5 ex5) [[0], [1, 2], [3], [4]] = [3, 2, 2, 1, 0] := by decide

/-- The groups are short, whatever point they are begun at. -/
theorem GOk.grp_short {n : Nat} {exit : Int} {E : List (Nat × Nat)} (hg : GOk n exit E) {k : Nat} : ∀ (sn : List Bool) (p : Nat) (u : List Bool × List Nat), sn.length = n → grpV ((shapeOf n E).rev 0).next k (sn, []) p = some u → u.2.length ≤ 1000000 := by
  intro sn p u hl hu
  have h512 := hg.n512
  by_cases hp : p < n
  · obtain ⟨nw, had⟩ := grpV_adds (hg.next_rev_lt 0) k (sn, []) p u hl hp hu
    have h1 : u.2 = nw := by simpa using had.ord
    rw [h1]
    have := nodup_lt_length had.nodup (fun x hx => (had.fresh x hx).1)
    omega
  · cases k with
    | zero => simp [grpV] at hu
    | succ k =>
      have hnx : ((shapeOf n E).rev 0).next p = [] := by
        unfold Shp.next Shp.rev shapeOf
        simp only
        rw [List.getD_eq_getElem?_getD, List.getElem?_eq_none (by simp; omega)]
        rfl
      simp only [grpV] at hu
      split at hu
      · cases hu; simp
      · rw [hnx] at hu
        cases hu
        simp
theorem GOk.dfs_short {n : Nat} {exit : Int} {E : List (Nat × Nat)} (hg : GOk n exit E) {k : Nat} : ∀ (h : Int) l (t' : List Bool × List Nat), (∀ x ∈ l, x < n) → foldO (dfsV ((shapeOf n E).rev 0).next h k) l (List.replicate n false, []) = some t' → t'.2.length ≤ 1000000 := by
  intro h l t' hl ht
  have h512 := hg.n512
  have := (dfs_order (hg.next_rev_lt 0) hl ht).2.2.1
  omega

end Go.Proofs.Ytngfoinceakgdaa

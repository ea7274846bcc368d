/- Plain: the edges at each point, as they are collected one edge after the other. -/
namespace Go.Proofs.Ytngfoinceakgdaa

def idxs (f : Nat × Nat → Nat) (E : List (Nat × Nat)) (p : Nat) : List Nat := (List.range E.length).filter fun k => f (E.getD k (0, 0)) == p
def rowsAt (n : Nat) (T : List (Nat × Nat)) : List (List Nat) := T.map Prod.fst :: T.map Prod.snd :: ((List.range n).map (idxs Prod.fst T) ++ (List.range n).map (idxs Prod.snd T))

theorem idxs_nil (f : Nat × Nat → Nat) (p : Nat) : idxs f [] p = [] := rfl
theorem idxs_snoc (f : Nat × Nat → Nat) (T : List (Nat × Nat)) (x : Nat × Nat) (p : Nat) : idxs f (T ++ [x]) p = idxs f T p ++ (if f x = p then [T.length] else []) := by
  unfold idxs
  rw [List.length_append, List.length_singleton, List.range_succ, List.filter_append]
  congr 1
  · refine List.filter_congr fun k hk => ?_
    have hk' := List.mem_range.1 hk
    simp [List.getElem?_append_left hk']
  · by_cases h : f x = p <;> simp [h]
theorem idxs_length (f : Nat × Nat → Nat) (T : List (Nat × Nat)) (p : Nat) : (idxs f T p).length ≤ T.length := by
  unfold idxs
  exact Nat.le_trans (List.length_filter_le _ _) (by simp)
theorem map_idxs_snoc (f : Nat × Nat → Nat) (n : Nat) (T : List (Nat × Nat)) (x : Nat × Nat) : (List.range n).map (idxs f (T ++ [x])) = ((List.range n).map (idxs f T)).set (f x) (idxs f T (f x) ++ [T.length]) := by
  apply List.ext_getElem
  · simp
  · intro i h1 h2
    simp only [List.getElem_map, List.getElem_range, List.getElem_set, idxs_snoc]
    by_cases h : f x = i
    · subst h; simp
    · simp [h]
theorem rowsAt_nil (n : Nat) : rowsAt n [] = List.replicate (n + n + 2) [] := by
  have h : ∀ f, (List.range n).map (idxs f []) = List.replicate n [] := fun f => by
    apply List.ext_getElem
    · simp
    · intro i h1 h2; simp [idxs_nil]
  unfold rowsAt
  rw [h, h, List.replicate_append_replicate]
  rfl
theorem rowsAt_snoc (n : Nat) (T : List (Nat × Nat)) (x : Nat × Nat) (hf : x.1 < n) :
    rowsAt n (T ++ [x]) = ((((rowsAt n T).set 0 (T.map Prod.fst ++ [x.1])).set 1 (T.map Prod.snd ++ [x.2])).set (x.1 + 2) (idxs Prod.fst T x.1 ++ [T.length])).set (n + x.2 + 2) (idxs Prod.snd T x.2 ++ [T.length]) := by
  unfold rowsAt
  simp only [List.set_cons_zero, List.set_cons_succ, List.map_append, List.map_cons, List.map_nil, map_idxs_snoc]
  rw [List.set_append_left _ _ (by simpa using hf), List.set_append_right _ _ (by simp)]
  simp
theorem rowsAt_get0 (n : Nat) (T : List (Nat × Nat)) : (rowsAt n T)[0]? = some (T.map Prod.fst) := rfl
theorem rowsAt_get1 (n : Nat) (T : List (Nat × Nat)) : (rowsAt n T)[1]? = some (T.map Prod.snd) := rfl
theorem rowsAt_getF (n : Nat) (T : List (Nat × Nat)) (p : Nat) (hp : p < n) : (rowsAt n T)[p + 2]? = some (idxs Prod.fst T p) := by
  simp [rowsAt, List.getElem?_append_left, hp]
theorem rowsAt_getT (n : Nat) (T : List (Nat × Nat)) (p : Nat) (hp : p < n) : (rowsAt n T)[n + p + 2]? = some (idxs Prod.snd T p) := by
  simp [rowsAt, hp]

end Go.Proofs.Ytngfoinceakgdaa

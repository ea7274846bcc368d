/- Plain laws: the edges of a shape. -/
import Derived.Test.YtngfoinceakgdaaReachT
import Derived.Test.YtngfoinceakgdaaModel
namespace Go.Proofs.Ytngfoinceakgdaa

theorem mem_idxs (f : Nat × Nat → Nat) (E : List (Nat × Nat)) (p k : Nat) : k ∈ idxs f E p ↔ ∃ x, E[k]? = some x ∧ f x = p := by
  unfold idxs
  rw [List.mem_filter, List.mem_range]
  constructor
  · rintro ⟨hk, h⟩
    refine ⟨E[k], List.getElem?_eq_getElem hk, ?_⟩
    rw [List.getD_eq_getElem?_getD, List.getElem?_eq_getElem hk] at h
    simpa using h
  · rintro ⟨x, hx, rfl⟩
    obtain ⟨hk, rfl⟩ := List.getElem?_eq_some_iff.1 hx
    refine ⟨hk, ?_⟩
    rw [List.getD_eq_getElem?_getD, hx]
    simp

theorem row_getD (f : Nat × Nat → Nat) (n : Nat) (E : List (Nat × Nat)) (p : Nat) (hp : p < n) : ((List.range n).map (idxs f E)).getD p [] = idxs f E p := by
  rw [List.getD_eq_getElem?_getD, List.getElem?_map, List.getElem?_range hp]; rfl

theorem map_getD' (f : Nat × Nat → Nat) (E : List (Nat × Nat)) (k : Nat) (x : Nat × Nat) (h : E[k]? = some x) : (E.map f).getD k 0 = f x := by
  rw [List.getD_eq_getElem?_getD, List.getElem?_map, h]; rfl

theorem mem_next {n : Nat} {E : List (Nat × Nat)} {p x : Nat} (hp : p < n) : x ∈ (shapeOf n E).next p ↔ (p, x) ∈ E := by
  unfold Shp.next shapeOf
  simp only
  rw [row_getD _ _ _ _ hp, List.mem_map]
  constructor
  · rintro ⟨k, hk, rfl⟩
    obtain ⟨⟨a, b⟩, he, rfl⟩ := (mem_idxs _ _ _ _).1 hk
    rw [map_getD' _ _ _ _ he]
    exact List.mem_of_getElem? he
  · intro h
    obtain ⟨k, hk⟩ := List.mem_iff_getElem?.1 h
    exact ⟨k, (mem_idxs _ _ _ _).2 ⟨_, hk, rfl⟩, map_getD' _ _ _ _ hk⟩

theorem mem_next_rev {n : Nat} {E : List (Nat × Nat)} {p x e : Nat} (hp : p < n) : x ∈ ((shapeOf n E).rev e).next p ↔ (x, p) ∈ E := by
  unfold Shp.next Shp.rev shapeOf
  simp only
  rw [row_getD _ _ _ _ hp, List.mem_map]
  constructor
  · rintro ⟨k, hk, rfl⟩
    obtain ⟨⟨a, b⟩, he, rfl⟩ := (mem_idxs _ _ _ _).1 hk
    rw [map_getD' _ _ _ _ he]
    exact List.mem_of_getElem? he
  · intro h
    obtain ⟨k, hk⟩ := List.mem_iff_getElem?.1 h
    exact ⟨k, (mem_idxs _ _ _ _).2 ⟨_, hk, rfl⟩, map_getD' _ _ _ _ hk⟩

theorem mem_preds {n : Nat} {E : List (Nat × Nat)} {p x : Nat} (hp : p < n) : x ∈ (shapeOf n E).preds p ↔ (x, p) ∈ E := by
  unfold Shp.preds shapeOf
  simp only
  rw [row_getD _ _ _ _ hp, List.mem_map]
  constructor
  · rintro ⟨k, hk, rfl⟩
    obtain ⟨⟨a, b⟩, he, rfl⟩ := (mem_idxs _ _ _ _).1 hk
    rw [map_getD' _ _ _ _ he]
    exact List.mem_of_getElem? he
  · intro h
    obtain ⟨k, hk⟩ := List.mem_iff_getElem?.1 h
    exact ⟨k, (mem_idxs _ _ _ _).2 ⟨_, hk, rfl⟩, map_getD' _ _ _ _ hk⟩

theorem GOk.next_lt {n : Nat} {exit : Int} {E : List (Nat × Nat)} (h : GOk n exit E) : ∀ p, p < n → ∀ x ∈ (shapeOf n E).next p, x < n := fun _ hp _ hx => (h.lt _ ((mem_next hp).1 hx)).2
theorem GOk.next_rev_lt {n : Nat} {exit : Int} {E : List (Nat × Nat)} (h : GOk n exit E) (e : Nat) : ∀ p, p < n → ∀ x ∈ ((shapeOf n E).rev e).next p, x < n := fun _ hp _ hx => (h.lt _ ((mem_next_rev hp).1 hx)).1

end Go.Proofs.Ytngfoinceakgdaa

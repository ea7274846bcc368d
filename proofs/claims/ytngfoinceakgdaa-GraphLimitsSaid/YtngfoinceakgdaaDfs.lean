/- Plain functions that the walks of package graph come to: a search by depth. No program here. -/
namespace Go.Proofs.Ytngfoinceakgdaa

def foldO {σ α : Type} (f : σ → α → Option σ) : List α → σ → Option σ
  | [], s => some s
  | x :: xs, s => (f s x).bind (foldO f xs)

theorem foldO_append {σ α : Type} (f : σ → α → Option σ) : ∀ (xs ys : List α) (s : σ), foldO f (xs ++ ys) s = (foldO f xs s).bind (foldO f ys)
  | [], _, _ => rfl
  | x :: xs, ys, s => by
    simp only [List.cons_append, foldO]
    cases f s x with
    | none => rfl
    | some t => simp only [Option.bind_some]; exact foldO_append f xs ys t

theorem foldO_snoc {σ α : Type} (f : σ → α → Option σ) (xs : List α) (x : α) (s t : σ) (h : foldO f xs s = some t) : foldO f (xs ++ [x]) s = f t x := by
  rw [foldO_append, h]
  simp only [Option.bind_some, foldO]
  cases f t x <;> rfl

/-- If the whole list comes to something, so does each first part, and the step behind it. -/
theorem foldO_part {σ α : Type} (f : σ → α → Option σ) (xs : List α) (x : α) (ys : List α) (s t : σ) (h : foldO f (xs ++ x :: ys) s = some t) :
    ∃ u v, foldO f xs s = some u ∧ f u x = some v ∧ foldO f ys v = some t := by
  rw [foldO_append] at h
  cases hx : foldO f xs s with
  | none => rw [hx] at h; cases h
  | some u =>
    rw [hx] at h
    simp only [Option.bind_some, foldO] at h
    cases hv : f u x with
    | none => rw [hv] at h; cases h
    | some v => rw [hv] at h; exact ⟨u, v, rfl, hv, h⟩

/-- The visit of a point: what has been seen, and the points in postorder. -/
def dfsV (succ : Nat → List Nat) (wo : Int) : Nat → List Bool × List Nat → Nat → Option (List Bool × List Nat)
  | 0, _, _ => none
  | k + 1, s, p =>
    if (p : Int) = wo then some s
    else if s.1.getD p false = true then some s
    else (foldO (dfsV succ wo k) (succ p) (s.1.set p true, s.2)).map fun t => (t.1, t.2 ++ [p])

theorem foldO_keeps {σ α : Type} {f : σ → α → Option σ} {I : σ → Prop} (hf : ∀ s x t, I s → f s x = some t → I t) : ∀ (xs : List α) (s t : σ), I s → foldO f xs s = some t → I t
  | [], s, t, hs, h => by cases h; exact hs
  | x :: xs, s, t, hs, h => by
    simp only [foldO] at h
    cases hx : f s x with
    | none => rw [hx] at h; cases h
    | some u => rw [hx] at h; exact foldO_keeps hf xs u t (hf s x u hs hx) h

theorem dfsV_length {succ : Nat → List Nat} {wo : Int} : ∀ (k : Nat) (s : List Bool × List Nat) (p : Nat) (t : List Bool × List Nat), dfsV succ wo k s p = some t → t.1.length = s.1.length
  | 0, _, _, _, h => by simp [dfsV] at h
  | k + 1, s, p, t, h => by
    simp only [dfsV] at h
    split at h
    · cases h; rfl
    · split at h
      · cases h; rfl
      · cases hf : foldO (dfsV succ wo k) (succ p) (s.1.set p true, s.2) with
        | none => rw [hf] at h; cases h
        | some u =>
          rw [hf] at h
          cases h
          have := foldO_keeps (I := fun u => u.1.length = s.1.length) (fun a x b ha hb => (dfsV_length k a x b hb).trans ha) _ _ _ (by simp) hf
          simpa using this

theorem dfsV_more {succ : Nat → List Nat} {wo : Int} : ∀ (k : Nat) (s : List Bool × List Nat) (p : Nat) (t : List Bool × List Nat), dfsV succ wo k s p = some t → s.2.length ≤ t.2.length
  | 0, _, _, _, h => by simp [dfsV] at h
  | k + 1, s, p, t, h => by
    simp only [dfsV] at h
    split at h
    · cases h; exact Nat.le_refl _
    · split at h
      · cases h; exact Nat.le_refl _
      · cases hf : foldO (dfsV succ wo k) (succ p) (s.1.set p true, s.2) with
        | none => rw [hf] at h; cases h
        | some u =>
          rw [hf] at h
          cases h
          have := foldO_keeps (I := fun u => s.2.length ≤ u.2.length) (fun a x b ha hb => Nat.le_trans ha (dfsV_more k a x b hb)) _ _ _ (Nat.le_refl _) hf
          simp only [List.length_append, List.length_singleton]
          omega

theorem dfsF_more {succ : Nat → List Nat} {wo : Int} (k : Nat) (xs : List Nat) (s t : List Bool × List Nat) (h : foldO (dfsV succ wo k) xs s = some t) : s.2.length ≤ t.2.length :=
  foldO_keeps (I := fun u => s.2.length ≤ u.2.length) (fun a x b ha hb => Nat.le_trans ha (dfsV_more k a x b hb)) _ _ _ (Nat.le_refl _) h

theorem dfsF_length {succ : Nat → List Nat} {wo : Int} (k : Nat) (xs : List Nat) (s t : List Bool × List Nat) (h : foldO (dfsV succ wo k) xs s = some t) : t.1.length = s.1.length :=
  foldO_keeps (I := fun u => u.1.length = s.1.length) (fun a x b ha hb => (dfsV_length k a x b hb).trans ha) _ _ _ rfl h

end Go.Proofs.Ytngfoinceakgdaa

/- Plain laws: the search by depth sees exactly what can be reached. No program here. -/
import Derived.Test.YtngfoinceakgdaaDfsT
namespace Go.Proofs.Ytngfoinceakgdaa

/-- Reached by a path on which every point is allowed. -/
inductive Rch (succ : Nat → List Nat) (ok : Nat → Prop) : Nat → Nat → Prop
  | refl {a : Nat} : ok a → Rch succ ok a a
  | step {a b c : Nat} : Rch succ ok a b → c ∈ succ b → ok c → Rch succ ok a c

theorem Rch.trans {succ : Nat → List Nat} {ok : Nat → Prop} {a b c : Nat} (h : Rch succ ok a b) (k : Rch succ ok b c) : Rch succ ok a c := by
  induction k with
  | refl _ => exact h
  | step _ h1 h2 ih => exact .step ih h1 h2
theorem Rch.head {succ : Nat → List Nat} {ok : Nat → Prop} {a b c : Nat} (h : b ∈ succ a) (ha : ok a) (k : Rch succ ok b c) : Rch succ ok a c := by
  induction k with
  | refl hb => exact .step (.refl ha) h hb
  | step _ h1 h2 ih => exact .step ih h1 h2
theorem Rch.ok_right {succ : Nat → List Nat} {ok : Nat → Prop} {a b : Nat} (h : Rch succ ok a b) : ok b := by cases h <;> assumption
theorem Rch.ok_left {succ : Nat → List Nat} {ok : Nat → Prop} {a b : Nat} (h : Rch succ ok a b) : ok a := by
  induction h with
  | refl h => exact h
  | step _ _ _ ih => exact ih

theorem Rch.mono {succ : Nat → List Nat} {ok ok' : Nat → Prop} {a b : Nat} (hm : ∀ x, ok x → ok' x) (h : Rch succ ok a b) : Rch succ ok' a b := by
  induction h with
  | refl h => exact .refl (hm _ h)
  | step _ h1 h2 ih => exact .step ih h1 (hm _ h2)


/-- What a search says of what it adds: it can be reached, and nothing that it leads to is left out. -/
structure Said (succ : Nat → List Nat) (wo : Int) (xs : List Nat) (s t : List Bool × List Nat) : Prop where
  sound : ∀ x, t.1.getD x false = true → s.1.getD x false = true ∨ ∃ a ∈ xs, Rch succ (fun q => (q : Int) ≠ wo) a x
  closed : ∀ x, t.1.getD x false = true → s.1.getD x false = true ∨ ∀ y ∈ succ x, (y : Int) = wo ∨ t.1.getD y false = true
  start : ∀ a ∈ xs, (a : Int) = wo ∨ t.1.getD a false = true
  keep : ∀ x, s.1.getD x false = true → t.1.getD x false = true

theorem foldO_said {n : Nat} {succ : Nat → List Nat} {wo : Int} {f : List Bool × List Nat → Nat → Option (List Bool × List Nat)} (hlen : ∀ s x t, s.1.length = n → x < n → f s x = some t → t.1.length = n)
    (hf : ∀ s x t, s.1.length = n → x < n → f s x = some t → Said succ wo [x] s t) :
    ∀ (xs : List Nat) (s t : List Bool × List Nat), s.1.length = n → (∀ x ∈ xs, x < n) → foldO f xs s = some t → Said succ wo xs s t
  | [], s, t, _, _, h => by cases h; exact ⟨fun _ h => .inl h, fun _ h => .inl h, fun a ha => by simp at ha, fun _ h => h⟩
  | x :: xs, s, t, hs, hx, h => by
    simp only [foldO] at h
    cases hq : f s x with
    | none => rw [hq] at h; cases h
    | some u =>
      rw [hq] at h
      have h1 := hf s x u hs (hx x List.mem_cons_self) hq
      have h2 := foldO_said hlen hf xs u t (hlen s x u hs (hx x List.mem_cons_self) hq) (fun y hy => hx y (List.mem_cons_of_mem _ hy)) h
      refine ⟨fun y hy => ?_, fun y hy => ?_, fun a ha => ?_, fun y hy => h2.keep y (h1.keep y hy)⟩
      · rcases h2.sound y hy with h3 | ⟨a, ha, hr⟩
        · rcases h1.sound y h3 with h4 | ⟨a, ha, hr⟩
          · exact .inl h4
          · simp at ha; subst ha; exact .inr ⟨a, List.mem_cons_self, hr⟩
        · exact .inr ⟨a, List.mem_cons_of_mem _ ha, hr⟩
      · rcases h2.closed y hy with h3 | h3
        · rcases h1.closed y h3 with h4 | h4
          · exact .inl h4
          · exact .inr fun z hz => (h4 z hz).imp id (h2.keep z)
        · exact .inr h3
      · rcases List.mem_cons.1 ha with rfl | ha
        · exact (h1.start a (by simp)).imp id (h2.keep a)
        · exact h2.start a ha

theorem dfsV_said {n : Nat} {succ : Nat → List Nat} {wo : Int} (hsucc : ∀ p, p < n → ∀ x ∈ succ p, x < n) : ∀ (k : Nat) (s : List Bool × List Nat) (p : Nat) (t : List Bool × List Nat), s.1.length = n → p < n → dfsV succ wo k s p = some t → Said succ wo [p] s t
  | 0, _, _, _, _, _, h => by simp [dfsV] at h
  | k + 1, s, p, t, hs, hp, h => by
    simp only [dfsV] at h
    split at h
    · rename_i hw
      cases h
      exact ⟨fun _ h => .inl h, fun _ h => .inl h, fun a ha => by simp at ha; subst ha; exact .inl hw, fun _ h => h⟩
    · rename_i hw
      split at h
      · rename_i hp2
        cases h
        exact ⟨fun _ h => .inl h, fun _ h => .inl h, fun a ha => by simp at ha; subst ha; exact .inr hp2, fun _ h => h⟩
      · obtain ⟨u, hu, rfl⟩ := Option.map_eq_some_iff.1 h
        have ih := foldO_said (succ := succ) (wo := wo) (fun s x t h1 h2 h3 => (dfsV_length k s x t h3).trans h1) (fun s x t h1 h2 h3 => dfsV_said hsucc k s x t h1 h2 h3) (succ p) (s.1.set p true, s.2) u (by simpa using hs) (hsucc p hp) hu
        have hself : (s.1.set p true).getD p false = true := by rw [getD_set_b, if_pos ⟨rfl, by omega⟩]
        refine ⟨fun y hy => ?_, fun y hy => ?_, fun a ha => ?_, fun y hy => ih.keep y ?_⟩
        · rcases ih.sound y hy with h1 | ⟨a, ha, hr⟩
          · simp only at h1
            rw [getD_set_b] at h1
            split at h1
            · rename_i h3
              obtain ⟨rfl, _⟩ := h3
              exact .inr ⟨p, by simp, .refl hw⟩
            · exact .inl h1
          · exact .inr ⟨p, by simp, Rch.head ha hw hr⟩
        · rcases ih.closed y hy with h1 | h1
          · simp only at h1
            rw [getD_set_b] at h1
            split at h1
            · rename_i h3
              obtain ⟨rfl, _⟩ := h3
              exact .inr fun z hz => ih.start z hz
            · exact .inl h1
          · exact .inr h1
        · simp at ha; subst ha
          exact .inr (ih.keep a hself)
        · simp only
          rw [getD_set_b]
          split
          · rfl
          · exact hy

/-- The search sees exactly what can be reached. -/
theorem dfs_reach {n : Nat} {succ : Nat → List Nat} {wo : Int} (hsucc : ∀ p, p < n → ∀ x ∈ succ p, x < n) {k : Nat} {xs : List Nat} {t : List Bool × List Nat} (hx : ∀ x ∈ xs, x < n) (h : foldO (dfsV succ wo k) xs (List.replicate n false, []) = some t) (x : Nat) :
    t.1.getD x false = true ↔ ∃ a ∈ xs, Rch succ (fun q => (q : Int) ≠ wo) a x := by
  have hs := foldO_said (succ := succ) (wo := wo) (fun s x t h1 h2 h3 => (dfsV_length k s x t h3).trans h1) (fun s x t h1 h2 h3 => dfsV_said hsucc k s x t h1 h2 h3) xs (List.replicate n false, []) t (by simp) hx h
  have hf : ∀ x, (List.replicate n false).getD x false = true → False := fun x h => by rw [List.getD_eq_getElem?_getD, List.getElem?_replicate] at h; split at h <;> cases h
  constructor
  · intro h1
    rcases hs.sound x h1 with h2 | h2
    · exact (hf x h2).elim
    · exact h2
  · rintro ⟨a, ha, hr⟩
    induction hr with
    | refl hok =>
      rcases hs.start _ ha with h1 | h1
      · exact absurd h1 hok
      · exact h1
    | step hr' hm hok ih =>
      rcases hs.closed _ ih with h1 | h1
      · exact (hf _ h1).elim
      · rcases h1 _ hm with h2 | h2
        · exact absurd h2 hok
        · exact h2

end Go.Proofs.Ytngfoinceakgdaa

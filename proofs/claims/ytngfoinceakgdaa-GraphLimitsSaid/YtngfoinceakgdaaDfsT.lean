/- Plain laws on the search by depth: what it adds to the order. No program here. -/
import Derived.Test.YtngfoinceakgdaaDfs
namespace Go.Proofs.Ytngfoinceakgdaa

/-- What a search adds to what has been seen and to the order. -/
structure Adds (n : Nat) (s t : List Bool × List Nat) (new : List Nat) : Prop where
  ord : t.2 = s.2 ++ new
  nodup : new.Nodup
  fresh : ∀ x ∈ new, x < n ∧ s.1.getD x false = false ∧ t.1.getD x false = true
  keep : ∀ x, s.1.getD x false = true → t.1.getD x false = true
  only : ∀ x, t.1.getD x false = true → s.1.getD x false = true ∨ x ∈ new
  len : t.1.length = s.1.length

theorem Adds.refl (n : Nat) (s : List Bool × List Nat) : Adds n s s [] := ⟨by simp, List.nodup_nil, fun x hx => by simp at hx, fun _ h => h, fun _ h => .inl h, rfl⟩
theorem Adds.trans {n : Nat} {s t u : List Bool × List Nat} {a b : List Nat} (h : Adds n s t a) (k : Adds n t u b) : Adds n s u (a ++ b) := by
  refine ⟨by rw [k.ord, h.ord, List.append_assoc], List.nodup_append.2 ⟨h.nodup, k.nodup, fun x hx y hy => ?_⟩, fun x hx => ?_, fun x hx => k.keep x (h.keep x hx), fun x hx => ?_, k.len.trans h.len⟩
  · rintro rfl
    have h1 := (h.fresh x hx).2.2
    have h2 := (k.fresh x hy).2.1
    rw [h1] at h2; cases h2
  · rcases List.mem_append.1 hx with hx | hx
    · have := h.fresh x hx
      exact ⟨this.1, this.2.1, k.keep x this.2.2⟩
    · have h1 := k.fresh x hx
      refine ⟨h1.1, ?_, h1.2.2⟩
      cases hs : s.1.getD x false with
      | false => rfl
      | true => have := h.keep x hs; rw [h1.2.1] at this; cases this
  · rcases k.only x hx with hx | hx
    · rcases h.only x hx with hx | hx
      · exact .inl hx
      · exact .inr (List.mem_append_left _ hx)
    · exact .inr (List.mem_append_right _ hx)

theorem getD_set_b (l : List Bool) (p x : Nat) : (l.set p true).getD x false = if p = x ∧ p < l.length then true else l.getD x false := by
  rw [List.getD_eq_getElem?_getD, List.getD_eq_getElem?_getD, List.getElem?_set]
  by_cases h : p = x
  · subst h
    by_cases h2 : p < l.length <;> simp [h2]
  · simp [h]

theorem foldO_adds {n : Nat} {f : List Bool × List Nat → Nat → Option (List Bool × List Nat)} (hf : ∀ s x t, s.1.length = n → x < n → f s x = some t → ∃ new, Adds n s t new) :
    ∀ (xs : List Nat) (s t : List Bool × List Nat), s.1.length = n → (∀ x ∈ xs, x < n) → foldO f xs s = some t → ∃ new, Adds n s t new
  | [], s, t, _, _, h => by cases h; exact ⟨[], Adds.refl n s⟩
  | x :: xs, s, t, hs, hx, h => by
    simp only [foldO] at h
    cases hq : f s x with
    | none => rw [hq] at h; cases h
    | some u =>
      rw [hq] at h
      obtain ⟨a, ha⟩ := hf s x u hs (hx x List.mem_cons_self) hq
      obtain ⟨b, hb⟩ := foldO_adds hf xs u t (ha.len.trans hs) (fun y hy => hx y (List.mem_cons_of_mem _ hy)) h
      exact ⟨a ++ b, ha.trans hb⟩

theorem dfsV_adds {n : Nat} {succ : Nat → List Nat} {wo : Int} (hsucc : ∀ p, p < n → ∀ x ∈ succ p, x < n) : ∀ (k : Nat) (s : List Bool × List Nat) (p : Nat) (t : List Bool × List Nat), s.1.length = n → p < n → dfsV succ wo k s p = some t → ∃ new, Adds n s t new
  | 0, _, _, _, _, _, h => by simp [dfsV] at h
  | k + 1, s, p, t, hs, hp, h => by
    simp only [dfsV] at h
    split at h
    · cases h; exact ⟨[], Adds.refl n _⟩
    · split at h
      · cases h; exact ⟨[], Adds.refl n _⟩
      · rename_i h2
        obtain ⟨u, hu, rfl⟩ := Option.map_eq_some_iff.1 h
        obtain ⟨a, ha⟩ := foldO_adds (fun s x t h1 h2 h3 => dfsV_adds hsucc k s x t h1 h2 h3) (succ p) (s.1.set p true, s.2) u (by simpa using hs) (hsucc p hp) hu
        have hpf : s.1.getD p false = false := by simpa using h2
        have hself : (s.1.set p true).getD p false = true := by rw [getD_set_b, if_pos ⟨rfl, by omega⟩]
        have hpa : p ∉ a := fun hm => by have := (ha.fresh p hm).2.1; simp only at this; rw [hself] at this; cases this
        refine ⟨a ++ [p], by rw [ha.ord, List.append_assoc], List.nodup_append.2 ⟨ha.nodup, by simp, fun x hx y hy => ?_⟩, fun x hx => ?_, fun x hx => ?_, fun x hx => ?_, by rw [ha.len]; simp⟩
        · rintro rfl
          simp at hy
          subst hy
          exact hpa hx
        · rcases List.mem_append.1 hx with hx | hx
          · have h1 := ha.fresh x hx
            refine ⟨h1.1, ?_, h1.2.2⟩
            have h2 := h1.2.1
            simp only at h2
            rw [getD_set_b] at h2
            split at h2
            · cases h2
            · exact h2
          · simp at hx
            subst hx
            exact ⟨hp, hpf, ha.keep x hself⟩
        · refine ha.keep x ?_
          simp only
          rw [getD_set_b]
          split
          · rfl
          · exact hx
        · rcases ha.only x hx with h1 | h1
          · simp only at h1
            rw [getD_set_b] at h1
            split at h1
            · rename_i h3
              exact .inr (List.mem_append_right _ (by simp [h3.1]))
            · exact .inl h1
          · exact .inr (List.mem_append_left _ h1)

/-- Numbers below n without doubles are at most n. -/
theorem nodup_lt_length : ∀ {n : Nat} {l : List Nat}, l.Nodup → (∀ x ∈ l, x < n) → l.length ≤ n
  | 0, l, _, hl => by
    cases l with
    | nil => exact Nat.le_refl _
    | cons x xs => have := hl x List.mem_cons_self; omega
  | n + 1, l, hn, hl => by
    have h1 := nodup_lt_length (n := n) (l := l.erase n) (hn.erase n) (fun x hx => by
      have h2 := hl x (List.mem_of_mem_erase hx)
      have h3 : x ≠ n := (hn.mem_erase_iff.1 hx).1
      omega)
    rw [List.length_erase] at h1
    split at h1 <;> omega

/-- The whole search: its order is short, without doubles, and says what has been seen. -/
theorem dfs_order {n : Nat} {succ : Nat → List Nat} {wo : Int} (hsucc : ∀ p, p < n → ∀ x ∈ succ p, x < n) {k : Nat} {xs : List Nat} {t : List Bool × List Nat} (hx : ∀ x ∈ xs, x < n) (h : foldO (dfsV succ wo k) xs (List.replicate n false, []) = some t) :
    t.2.Nodup ∧ (∀ x ∈ t.2, x < n) ∧ t.2.length ≤ n ∧ t.1.length = n ∧ ∀ x, t.1.getD x false = true ↔ x ∈ t.2 := by
  obtain ⟨new, ha⟩ := foldO_adds (fun s x t h1 h2 h3 => dfsV_adds hsucc k s x t h1 h2 h3) xs _ t (by simp) hx h
  have ho : t.2 = new := by rw [ha.ord]; rfl
  rw [ho]
  have hf : ∀ x, (List.replicate n false).getD x false = false := fun x => by rw [List.getD_eq_getElem?_getD, List.getElem?_replicate]; split <;> rfl
  refine ⟨ha.nodup, fun x hx => (ha.fresh x hx).1, nodup_lt_length ha.nodup (fun x hx => (ha.fresh x hx).1), by rw [ha.len]; simp, fun x => ⟨fun hx => ?_, fun hx => (ha.fresh x hx).2.2⟩⟩
  rcases ha.only x hx with h1 | h1
  · simp only at h1; rw [hf] at h1; cases h1
  · exact h1

theorem count_false_le : ∀ {a b : List Bool}, a.length = b.length → (∀ x, a.getD x false = true → b.getD x false = true) → b.count false ≤ a.count false
  | [], [], _, _ => Nat.le_refl _
  | [], _ :: _, h, _ => by simp at h
  | _ :: _, [], h, _ => by simp at h
  | x :: xs, y :: ys, h, hk => by
    have ih := count_false_le (a := xs) (b := ys) (by simpa using h) (fun i hi => by have := hk (i + 1); simpa using this (by simpa using hi))
    have h0 := hk 0
    simp at h0
    cases x <;> cases y <;> simp at h0 ⊢ <;> omega

theorem count_false_set : ∀ (a : List Bool) (p : Nat), p < a.length → a.getD p false = false → (a.set p true).count false + 1 = a.count false
  | [], p, h, _ => by simp at h
  | x :: xs, 0, _, h => by
    simp at h
    subst h
    simp
  | x :: xs, p + 1, h, hp => by
    have ih := count_false_set xs p (by simpa using h) (by simpa using hp)
    rw [List.set_cons_succ]
    cases x <;> simp <;> omega

theorem foldO_some {n c : Nat} {f : List Bool × List Nat → Nat → Option (List Bool × List Nat)} (hf : ∀ s x t, s.1.length = n → x < n → f s x = some t → ∃ new, Adds n s t new)
    (hs : ∀ s x, s.1.length = n → x < n → s.1.count false ≤ c → ∃ t, f s x = some t) : ∀ (xs : List Nat) (s : List Bool × List Nat), s.1.length = n → (∀ x ∈ xs, x < n) → s.1.count false ≤ c → ∃ t, foldO f xs s = some t
  | [], s, _, _, _ => ⟨s, rfl⟩
  | x :: xs, s, hl, hx, hc => by
    obtain ⟨u, hu⟩ := hs s x hl (hx x List.mem_cons_self) hc
    obtain ⟨new, ha⟩ := hf s x u hl (hx x List.mem_cons_self) hu
    obtain ⟨t, ht⟩ := foldO_some hf hs xs u (ha.len.trans hl) (fun y hy => hx y (List.mem_cons_of_mem _ hy)) (Nat.le_trans (count_false_le ha.len.symm ha.keep) hc)
    exact ⟨t, by simp only [foldO, hu, Option.bind_some]; exact ht⟩

theorem dfsV_some {n : Nat} {succ : Nat → List Nat} {wo : Int} (hsucc : ∀ p, p < n → ∀ x ∈ succ p, x < n) : ∀ (k : Nat) (s : List Bool × List Nat) (p : Nat), s.1.length = n → p < n → s.1.count false < k → ∃ t, dfsV succ wo k s p = some t
  | 0, _, _, _, _, h => by omega
  | k + 1, s, p, hl, hp, hc => by
    simp only [dfsV]
    by_cases h1 : (p : Int) = wo
    · rw [if_pos h1]; exact ⟨_, rfl⟩
    · rw [if_neg h1]
      by_cases h2 : s.1.getD p false = true
      · rw [if_pos h2]; exact ⟨_, rfl⟩
      · rw [if_neg h2]
        have h3 := count_false_set s.1 p (by omega) (by simpa using h2)
        obtain ⟨t, ht⟩ := foldO_some (c := k - 1) (fun s x t h1 h2 h3 => dfsV_adds hsucc k s x t h1 h2 h3) (fun s x h1 h2 h4 => dfsV_some hsucc k s x h1 h2 (by omega)) (succ p) (s.1.set p true, s.2) (by simpa using hl) (hsucc p hp) (by simp only; omega)
        rw [ht]
        exact ⟨_, rfl⟩

/-- Enough fuel: one more than there are points. -/
theorem dfs_total {n : Nat} {succ : Nat → List Nat} {wo : Int} (hsucc : ∀ p, p < n → ∀ x ∈ succ p, x < n) {k : Nat} (hk : n < k) {xs : List Nat} (hx : ∀ x ∈ xs, x < n) : ∃ t, foldO (dfsV succ wo k) xs (List.replicate n false, []) = some t :=
  foldO_some (c := n) (fun s x t h1 h2 h3 => dfsV_adds hsucc k s x t h1 h2 h3) (fun s x h1 h2 h3 => dfsV_some hsucc k s x h1 h2 (by omega)) xs _ (by simp) hx (Nat.le_trans (List.count_le_length) (by simp))

end Go.Proofs.Ytngfoinceakgdaa

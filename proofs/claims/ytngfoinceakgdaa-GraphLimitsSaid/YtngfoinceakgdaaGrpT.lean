/- Plain laws on the visits that make a group. No program here. -/
import Derived.Test.YtngfoinceakgdaaReachT
import Derived.Test.YtngfoinceakgdaaModel
namespace Go.Proofs.Ytngfoinceakgdaa

theorem grpV_adds {n : Nat} {succ : Nat → List Nat} (hsucc : ∀ p, p < n → ∀ x ∈ succ p, x < n) : ∀ (k : Nat) (s : List Bool × List Nat) (p : Nat) (t : List Bool × List Nat), s.1.length = n → p < n → grpV succ k s p = some t → ∃ new, Adds n s t new
  | 0, _, _, _, _, _, h => by simp [grpV] at h
  | k + 1, s, p, t, hs, hp, h => by
    simp only [grpV] at h
    split at h
    · cases h; exact ⟨[], Adds.refl n _⟩
    · rename_i h2
      obtain ⟨a, ha⟩ := foldO_adds (fun s x t h1 h2 h3 => grpV_adds hsucc k s x t h1 h2 h3) (succ p) (s.1.set p true, s.2 ++ [p]) t (by simpa using hs) (hsucc p hp) h
      have hpf : s.1.getD p false = false := by simpa using h2
      have hself : (s.1.set p true).getD p false = true := by rw [getD_set_b, if_pos ⟨rfl, by omega⟩]
      have hfirst : Adds n s (s.1.set p true, s.2 ++ [p]) [p] := by
        refine ⟨rfl, by simp, fun x hx => ?_, fun x hx => ?_, fun x hx => ?_, by simp⟩
        · simp at hx; subst hx; exact ⟨hp, hpf, hself⟩
        · simp only
          rw [getD_set_b]
          split
          · rfl
          · exact hx
        · simp only at hx
          rw [getD_set_b] at hx
          split at hx
          · rename_i h3; exact .inr (by simp [h3.1])
          · exact .inl hx
      exact ⟨[p] ++ a, hfirst.trans ha⟩

theorem grpV_some {n : Nat} {succ : Nat → List Nat} (hsucc : ∀ p, p < n → ∀ x ∈ succ p, x < n) : ∀ (k : Nat) (s : List Bool × List Nat) (p : Nat), s.1.length = n → p < n → s.1.count false < k → ∃ t, grpV succ k s p = some t
  | 0, _, _, _, _, h => by omega
  | k + 1, s, p, hl, hp, hc => by
    simp only [grpV]
    by_cases h2 : s.1.getD p false = true
    · rw [if_pos h2]; exact ⟨_, rfl⟩
    · rw [if_neg h2]
      have h3 := count_false_set s.1 p (by omega) (by simpa using h2)
      exact foldO_some (c := k - 1) (fun s x t h1 h2 h3 => grpV_adds hsucc k s x t h1 h2 h3) (fun s x h1 h2 h4 => grpV_some hsucc k s x h1 h2 (by omega)) (succ p) (s.1.set p true, s.2 ++ [p]) (by simpa using hl) (hsucc p hp) (by simp only; omega)

theorem grpV_said {n : Nat} {succ : Nat → List Nat} (hsucc : ∀ p, p < n → ∀ x ∈ succ p, x < n) : ∀ (k : Nat) (s : List Bool × List Nat) (p : Nat) (t : List Bool × List Nat), s.1.length = n → p < n → grpV succ k s p = some t → Said succ (-1) [p] s t
  | 0, _, _, _, _, _, h => by simp [grpV] at h
  | k + 1, s, p, t, hs, hp, h => by
    simp only [grpV] at h
    split at h
    · rename_i hp2
      cases h
      exact ⟨fun _ h => .inl h, fun _ h => .inl h, fun a ha => by simp at ha; subst ha; exact .inr hp2, fun _ h => h⟩
    · have hw : (p : Int) ≠ -1 := by omega
      have ih := foldO_said (succ := succ) (wo := -1) (fun s x t h1 h2 h3 => by obtain ⟨a, ha⟩ := grpV_adds hsucc k s x t h1 h2 h3; exact ha.len.trans h1) (fun s x t h1 h2 h3 => grpV_said hsucc k s x t h1 h2 h3) (succ p) (s.1.set p true, s.2 ++ [p]) t (by simpa using hs) (hsucc p hp) h
      have hself : (s.1.set p true).getD p false = true := by rw [getD_set_b, if_pos ⟨rfl, by omega⟩]
      refine ⟨fun y hy => ?_, fun y hy => ?_, fun a ha => ?_, fun y hy => ih.keep y ?_⟩
      · rcases ih.sound y hy with h1 | ⟨a, ha, hr⟩
        · simp only at h1
          rw [getD_set_b] at h1
          split at h1
          · rename_i h3
            obtain ⟨rfl, _⟩ := h3
            exact .inr ⟨p, by simp, .refl hw⟩
          · exact .inl h1
        · exact .inr ⟨p, by simp, Rch.head ha hw hr⟩
      · rcases ih.closed y hy with h1 | h1
        · simp only at h1
          rw [getD_set_b] at h1
          split at h1
          · rename_i h3
            obtain ⟨rfl, _⟩ := h3
            exact .inr fun z hz => ih.start z hz
          · exact .inl h1
        · exact .inr h1
      · simp at ha; subst ha
        exact .inr (ih.keep a hself)
      · simp only
        rw [getD_set_b]
        split
        · rfl
        · exact hy

end Go.Proofs.Ytngfoinceakgdaa

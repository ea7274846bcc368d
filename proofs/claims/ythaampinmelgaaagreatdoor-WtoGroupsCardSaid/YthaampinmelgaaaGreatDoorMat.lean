/- Matrices of truth values, as they are read; the reference's Reached, by paths. -/
import Derived.Test.YthaampinmelgaaaGreatDoorReached
import Derived.Test.YthaampinmelgaaaGreatDoorPlain2
import Derived.Test.YthaampinmelgaaaGreatDoorRef1
namespace Go.Proofs.YthaampinmelgaaaGreatDoor
open Go.RowKit Go.Shelf

theorem info_bools : (Tryz.prog.info? 93).map (fun i => (i.zero, i.size, i.bytes)) = some (some (.slice none 0 0), 1, 24) := by kernel_rfl
/-- A matrix of n rows of n truth values, each of its blocks as P says. -/
def MatP (P : Nat → Prop) (w : World) (A : Option Addr) (n : Nat) (D : Nat → Nat → Bool) : Prop :=
  ∃ (ad : Addr) (R : Nat → Addr) (C : Nat → Nat), A = some ad ∧ P ad.block ∧
    ∀ i, i < n → w.cell? (ad.add i) = some (.slice (some (R i)) n (C i)) ∧ n ≤ C i ∧ C i ≤ maxLen ∧ P (R i).block ∧ ∀ j, j < n → w.cell? ((R i).add j) = some (.bool (D i j))
/-- All of it below block B. -/
def Mat (B : Nat) (w : World) (A : Option Addr) (n : Nat) (D : Nat → Nat → Bool) : Prop := MatP (fun b => b < B) w A n D
section
variable {P P' : Nat → Prop} {B B' n : Nat} {w w' : World} {A : Option Addr} {D : Nat → Nat → Bool}
theorem MatP.keep (h : MatP P w A n D) (hk : ∀ p : Addr, P p.block → w'.cell? p = w.cell? p) : MatP P w' A n D := by
  obtain ⟨ad, R, C, rfl, h1, h2⟩ := h
  refine ⟨ad, R, C, rfl, h1, fun i hi => ?_⟩
  obtain ⟨a1, a2, a3, a4, a5⟩ := h2 i hi
  exact ⟨(hk _ (by rw [block_add]; exact h1)).trans a1, a2, a3, a4, fun j hj => (hk _ (by rw [block_add]; exact a4)).trans (a5 j hj)⟩
theorem MatP.relax (h : MatP P w A n D) (hP : ∀ b, P b → P' b) : MatP P' w A n D := by
  obtain ⟨ad, R, C, rfl, h1, h2⟩ := h
  refine ⟨ad, R, C, rfl, hP _ h1, fun i hi => ?_⟩
  obtain ⟨a1, a2, a3, a4, a5⟩ := h2 i hi
  exact ⟨a1, a2, a3, hP _ a4, a5⟩
theorem MatP.drew (h : MatP P w A n D) : MatP P w.drew A n D := h
theorem MatP.drewN (h : MatP P w A n D) (k : Nat) : MatP P (w.drewN k) A n D := h
theorem Mat.below (h : Mat B w A n D) (hb : Below B w w') : Mat B w' A n D := MatP.keep h (fun _ hp => hb.cell hp)
theorem Mat.more (h : Mat B w A n D) (hB : B ≤ B') : Mat B' w A n D := MatP.relax h (fun _ hb => Nat.lt_of_lt_of_le hb hB)
theorem Mat.congr {D' : Nat → Nat → Bool} (h : Mat B w A n D) (hD : ∀ i j, i < n → j < n → D i j = D' i j) : Mat B w A n D' := by
  obtain ⟨ad, R, C, rfl, h1, h2⟩ := h
  refine ⟨ad, R, C, rfl, h1, fun i hi => ?_⟩
  obtain ⟨a1, a2, a3, a4, a5⟩ := h2 i hi
  exact ⟨a1, a2, a3, a4, fun j hj => by rw [← hD i j hi hj]; exact a5 j hj⟩
end
theorem ints_of {w : World} {g B n : Nat} {o : List Int} (h : Blk w g 3 (o.map intV)) (hl : o.length = n) (hn : n ≤ 512) (hB : g < B) : Ints B w (.slice (some ⟨g, 0, none⟩) n n) o := by
  subst hl
  exact Sl.of_blk (R := RInt) intV (fun _ _ => rfl) h (Nat.le_refl _) (by unfold maxLen; omega) hB

theorem GOk.wf {n : Nat} {exit : Int} {E : List (Nat × Nat)} (h : GOk n exit E) : n ≤ 512 ∧ (∀ x ∈ E, x.1 < n ∧ x.2 < n) ∧ E.length ≤ 1024 := ⟨h.n512, h.lt, h.len⟩

/-- What can be reached from f without wo, as a truth value. -/
noncomputable def rB (n : Nat) (E : List (Nat × Nat)) (wo : Int) (f x : Nat) : Bool := bP (Rch (nx n E) (fun q => (q : Int) ≠ wo) f x)
theorem rB_cell {w : World} {g n : Nat} {F : Nat → Bool} (h : Blk w g 4 ((List.range n).map fun x => .bool (F x))) {p : Nat} (hp : p < n) : w.cell? ⟨g, p, none⟩ = some (.bool (F p)) :=
  h.cellAt (by simp [hp])
theorem bools_of {w : World} {g n B : Nat} {F : Nat → Bool} (h : Blk w g 4 ((List.range n).map fun x => .bool (F x))) (hn : n ≤ 512) (hB : g < B) : Bools B w (.slice (some ⟨g, 0, none⟩) n n) ((List.range n).map F) := by
  have h' : Blk w g 4 (((List.range n).map F).map Value.bool) := by rw [List.map_map]; exact h
  have := Sl.of_blk (R := RBool) (xs := (List.range n).map F) (c := n) Value.bool (fun _ _ => rfl) h' (by simp) (by unfold maxLen; omega) hB
  simpa using this
end Go.Proofs.YthaampinmelgaaaGreatDoor

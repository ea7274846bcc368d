/- The library's slices.Sort at a row of whole numbers of the call's own. -/
import Derived.Test.YtngfoinceakgdaaPlain1
import Derived.Test.YtngfoinceakgdaaBack
import Derived.Shelf.Sort.Plain
import Derived.Shelf.Slices.In.SortNone
import Derived.Test.YtngfoinceakgdaaLaid
import Derived.Sort.OwnSortedInts
namespace Go.Proofs.Ytngfoinceakgdaa
open Go.RowKit Go.Shelf Go.Sort


theorem sortN_cast (l : List Nat) : (l.map fun x : Nat => (x : Int)).mergeSort (fun x y => decide (x ≤ y)) = (sortN l).map fun x : Nat => (x : Int) := by
  unfold sortN
  rw [List.map_mergeSort (s := fun x y : Int => decide (x ≤ y))]
  intro a _ b _
  simp

theorem sort_own (w : World) (base : Nat) (v : Value) (l : List Nat) (h : w.ownsRow base 3 1 v l.length (l.map natV)) (hl : l.length ≤ 1000000) :
    Calls Try.prog 44 #[v] w fun en w' => en = .returned (.tuple #[]) ∧ w'.ownsRow base 3 1 v l.length ((sortN l).map natV) ∧ w.grownBy w' v.ownBlock := by
  rcases h.2 with ⟨rfl, h0⟩ | ⟨g, cap, cur, rfl, hb, hh, h1, h2, h3, h4⟩
  · have : l = [] := List.eq_nil_of_length_eq_zero h0
    subst this
    have hc := Any.slices_Sort_int_none Try.l189 none 0 w
    change Calls Try.prog 44 _ _ _ at hc
    refine hc.mono ?_
    rintro en w' ⟨rfl, rfl⟩
    exact ⟨rfl, by simpa [sortN] using h, ⟨rfl, rfl, rfl, Nat.le_refl _, fun _ _ _ => rfl⟩⟩
  · have e : l.map natV = (l.map fun x : Nat => (x : Int)).map (Value.int .i64) := by rw [List.map_map]; rfl
    have hH : Holds (Value.int .i64) w g 0 (l.map fun x : Nat => (x : Int)).toArray := holds_of_blockI hh (by rw [List.length_map, ← e, ← h4, Nat.mul_one])
    have hc := Any.slices_Sort_int Try.l189 g 0 cap (l.map fun x : Nat => (x : Int)) w hH (lt_of_block hh) (by rw [List.length_map]; omega)
    change Calls Try.prog 44 _ _ _ at hc
    rw [List.length_map] at hc
    refine hc.mono ?_
    rintro en w' ⟨rfl, n, os, rfl⟩
    rw [sortN_cast]
    refine ⟨rfl, ?_, grownBy_sortedI _⟩
    have := ownsRow_sortedI (n := n) (os := os) (ss := l.map fun x : Nat => (x : Int)) (ts := (sortN l).map fun x : Nat => (x : Int)) (by simp [sortN_length]) hb hh (by simpa using h1) h2 h3
    rw [List.length_map, List.map_map] at this
    exact this

#print axioms sort_own

end Go.Proofs.Ytngfoinceakgdaa

/- A slice of bytes that comes in as an argument, laid open. -/
import Derived.Test.YtngfoinceakgdaaArg
import Derived.ChangeSlices
namespace Go.Proofs.Ytngfoinceakgdaa
open Go.RowKit Go.Joins Go.ChangeShapes Go.WideShapes Go.Deep

def R8 : World → Value → Nat → Prop := fun _ u x => u = .int .u8 (x : Int) ∧ x < 256
set_option maxRecDepth 100000 in
theorem open_bytes {H : Type} {enc : TypeId × Value → H} {W : World} {base : Nat} {v : Value} {d : DataW H} {p : List MemPlace} (hv : Value.okWide Try.prog W .any base 80 v)
    (h : DataW.Trod enc Try.prog W 0 (fun _ => true) true 80 v d p) : ∃ zs : List Nat, Sl R8 W.heap.size W v zs := by
  obtain ⟨a, len, cap, rfl⟩ := okWide_slice Try.underlying80 hv
  obtain ⟨fuel, hf⟩ := h
  rcases open_ints Try.underlying80 Try.underlying5 (by kernel_rfl) hf with ⟨hcs, _⟩ | ⟨x, l, c, zs, hcs, _, hl, hm, hz, _, hcell, hwz⟩
  · simp [Value.cells] at hcs
    obtain ⟨rfl, rfl, rfl⟩ := hcs
    exact ⟨[], none, 0, rfl, by simp, by simp [maxLen], fun j x hx => by simp at hx⟩
  · simp [Value.cells] at hcs
    obtain ⟨rfl, rfl, rfl⟩ := hcs
    have hlz : len ≤ zs.length := by rw [hz]; split <;> omega
    refine ⟨(zs.take len).map Int.toNat, some x, cap, by simp [Nat.min_eq_left hlz], by simp [Nat.min_eq_left hlz]; exact hl, hm, fun j y hy => ?_⟩
    rw [List.getElem?_map, Option.map_eq_some_iff] at hy
    obtain ⟨z, hz2, rfl⟩ := hy
    have hj : j < len := by have := (List.getElem?_eq_some_iff.1 hz2).1; simp at this; omega
    have hz3 : zs[j]? = some z := by
      rw [List.getElem?_take, if_pos hj] at hz2
      exact hz2
    have hc := hcell j (by omega)
    have hgd : zs.getD j 0 = z := by rw [List.getD_eq_getElem?_getD, hz3]; rfl
    rw [hgd] at hc
    have hb := bounds_u8 (hwz z (List.mem_of_getElem? hz3))
    have hlt := lt_of_cell hc
    rw [block_add] at hlt
    exact ⟨x, _, rfl, hlt, hc, by congr 1; omega, by omega⟩
end Go.Proofs.Ytngfoinceakgdaa

/- A law over a graph: the graph in its variable. -/
import Derived.Test.YthaampinmelgaaaGreatDoorBase
import Derived.Test.YthaampinmelgaaaGreatDoorProg
namespace Go.Proofs.YthaampinmelgaaaGreatDoor
open Go.RowKit

structure GV (w W : World) (n exit : Int) (v : Value) : Prop where
  g : Blk W w.heap.size 24 [.int .i64 n, .int .i64 exit, v]
  bel : Below w.heap.size w W
section
variable {w W W' : World} {n exit : Int} {v : Value}
theorem GV.start (w : World) (n exit : Int) (v : Value) : GV w (w.alloc (.cells #[.int .i64 n, .int .i64 exit, v] 24)) n exit v := ⟨Blk.newAt w 24 #[.int .i64 n, .int .i64 exit, v] rfl, (Below.refl _ _).alloc (Nat.le_refl _) _⟩
theorem GV.step (h : GV w W n exit v) (hb : Below W.heap.size W W') : GV w W' n exit v := ⟨h.g.below hb h.g.lt, h.bel.trans (hb.mono h.bel.size)⟩
theorem GV.only (h : GV w W n exit v) (ho : Only (fun _ => False) W W') : GV w W' n exit v := ⟨h.g.only ho (fun f => f), h.bel.trans (ho.below h.bel.size (fun _ _ f => f))⟩
theorem GV.cells (h : GV w W n exit v) : W.cell? ⟨w.heap.size, 0, none⟩ = some (.int .i64 n) ∧ W.cell? ⟨w.heap.size, 1, none⟩ = some (.int .i64 exit) ∧ W.cell? ⟨w.heap.size, 2, none⟩ = some v := ⟨h.g.cellAt rfl, h.g.cellAt rfl, h.g.cellAt rfl⟩
theorem GV.edges {es : List (Int × Int)} (h : GV w W n exit v) (hv : Edges w.heap.size w v es) : Edges W.heap.size W v es := (hv.below h.bel).more h.bel.size
theorem GV.drew (h : GV w W n exit v) : GV w W.drew n exit v := ⟨h.g, h.bel.drew⟩
theorem GV.drewN (h : GV w W n exit v) (k : Nat) : GV w (W.drewN k) n exit v := ⟨h.g, below_drewN' h.bel k⟩
theorem GV.alloc (h : GV w W n exit v) (o : Obj) : GV w (W.alloc o) n exit v := ⟨h.g.alloc _, h.bel.alloc h.bel.size _⟩
end
/-- What was read below the heap's size is read in a world that has changed nothing of it. -/
theorem Ints.only {B : Nat} {w w' : World} {v : Value} {xs : List Int} (h : Ints B w v xs) (ho : Only (fun _ => False) w w') (hB : B ≤ w.heap.size) : Ints B w' v xs := h.below (ho.below hB (fun _ _ f => f))
theorem Bools.only {B : Nat} {w w' : World} {v : Value} {xs : List Bool} (h : Bools B w v xs) (ho : Only (fun _ => False) w w') (hB : B ≤ w.heap.size) : Bools B w' v xs := h.below (ho.below hB (fun _ _ f => f))
end Go.Proofs.YthaampinmelgaaaGreatDoor

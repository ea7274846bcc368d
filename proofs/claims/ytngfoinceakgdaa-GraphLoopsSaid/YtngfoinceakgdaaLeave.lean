/- A function that has left many loops over functions: all of their records are taken at its end. -/
import Derived.Test.YtngfoinceakgdaaBase
import Derived.RangeFuncLeaves
import Derived.RangeFuncRecord
import Derived.RangeFuncBox
namespace Go.Proofs.Ytngfoinceakgdaa
open Go Go.RowKit

/-- The records that the loops over functions have left. -/
def collected (Ds : List Nat) : List Deferred := Ds.map fun D => { target := .collected D, args := #[] }

theorem leaves_collected {F : Fence} {n : Nat} {P : Program} {fn : Func} {tmps : Array Value} {R : Ending → World → Prop} : ∀ (Ds : List Nat) (w : World), Ds.Nodup → (∀ D ∈ Ds, w.heap[D]? = some (.deferred (some []))) →
    (∀ w', Only (fun b => b ∈ Ds) w w' → LeavesInM F n P fn tmps R [] .returning w') → LeavesInM F n P fn tmps R (collected Ds) .returning w
  | [], w, _, _, h => h w (Only.refl _ _)
  | D :: Ds, w, hn, hd, h => by
    have hnd := List.nodup_cons.1 hn
    have hD := hd D List.mem_cons_self
    refine ⟨by simp, .inl ⟨D, _, rfl, run_takeDeferred hD, ?_⟩⟩
    have hg : w.grownBy (w.putObj D (.deferred none)) (some D) := grownBy_putObj' _ D _
    refine leaves_collected Ds _ hnd.2 (fun D' hD' => ?_) (fun w' ho => h w' ?_)
    · have h1 := hd D' (List.mem_cons_of_mem _ hD')
      have hne : D' ≠ D := fun e => hnd.1 (e ▸ hD')
      exact (hg.block D' (lt_of_block h1) (by simp; exact hne)).trans h1
    · exact (Only.of_grown (S := fun b => b ∈ D :: Ds) hg (fun b e => by cases e; exact List.mem_cons_self)).trans ho (fun b _ hb => List.mem_cons_of_mem _ hb)

end Go.Proofs.Ytngfoinceakgdaa

/- Package graph: 'reversed'. -/
import Derived.Test.YtngfoinceakgdaaShape
import Derived.StillTailTactics
namespace Go.Proofs.Ytngfoinceakgdaa
open Go.RowKit

set_option maxRecDepth 100000 in
set_option maxHeartbeats 1000000 in
theorem reversed_any (B : Nat) (w : World) (sa : Nat) (s : Shp) (entry : Nat) (hs : IsShape B w sa s) (hB : B ≤ w.heap.size) :
    Calls Try.prog 54 #[.pointer (some ⟨sa, 0, none⟩), .int .i64 (entry : Int)] w fun en w' =>
      ∃ sb, en = .returned (.pointer (some ⟨sb, 0, none⟩)) ∧ IsShape w'.heap.size w' sb (s.rev entry) ∧ Below w.heap.size w w' := by
  obtain ⟨hsa, vf, vt, vo, vi, hblk, hf, ht, ho, hi⟩ := id hs
  obtain ⟨Af, cf, rfl, -, -, -, -⟩ := Sl.shape hf
  obtain ⟨At, ct, rfl, -, -, -, -⟩ := Sl.shape ht
  obtain ⟨Ao, co, rfl, -, -, -, -⟩ := Sl.shape ho
  obtain ⟨Ai, ci, rfl, -, -, -, -⟩ := Sl.shape hi
  have c0 := hblk.cellAt (i := 0) rfl
  have c2 := hblk.cellAt (i := 2) rfl
  have c3 := hblk.cellAt (i := 3) rfl
  have c4 := hblk.cellAt (i := 4) rfl
  have c5 := hblk.cellAt (i := 5) rfl
  go_enter Try.func54, Try.ntmps54
  go_wp2
  go_still_tail 22, (by kernel_rfl)
  change wpList _ _ _ _ _ w.drew
  go_wp2
  go_ret
  have hb : Below w.heap.size w (w.drew.alloc (.cells #[.int .i64 (s.n : Int), .int .i64 (entry : Int), .slice At s.tg.length ct, .slice Af s.sr.length cf, .slice Ai s.inn.length ci, .slice Ao s.out.length co] 92)) :=
    ((Below.refl _ w).drew).alloc (Nat.le_refl _) _
  refine ⟨w.heap.size, rfl, ⟨by simp, _, _, _, _, Blk.newAt _ _ _ rfl, ?_, ?_, ?_, ?_⟩, hb⟩
  · exact (Nats.below (Sl.more ht hB) hb).more (by simp)
  · exact (Nats.below (Sl.more hf hB) hb).more (by simp)
  · exact ((hi.more hB).below hb).more (by simp)
  · exact ((ho.more hB).below hb).more (by simp)

#print axioms reversed_any

end Go.Proofs.Ytngfoinceakgdaa

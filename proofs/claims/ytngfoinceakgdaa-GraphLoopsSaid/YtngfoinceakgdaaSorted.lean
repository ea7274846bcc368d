/- Go's library: IsSorted at whole numbers. -/
import Derived.Test.YtngfoinceakgdaaCompare
import Derived.Test.YtngfoinceakgdaaEq
import Derived.IntWalk
import Derived.Test.YtngfoinceakgdaaGV
namespace Go.Proofs.Ytngfoinceakgdaa
open Go.RowKit Go.Shelf

set_option maxRecDepth 100000 in
set_option maxHeartbeats 1000000 in
theorem less_no (w : World) (x y : Nat) (h : y < x) : Calls Try.prog 66 #[.int .i64 (x : Int), .int .i64 (y : Int)] w fun en w' => en = .returned (.bool false) ∧ w' = w := by
  have h1 : decide ((x : Int) < (y : Int)) = false := by rw [decide_eq_false_iff_not]; omega
  have h2 : decide (x < y) = false := by rw [decide_eq_false_iff_not]; omega
  go_enter Try.func66, Try.ntmps66
  go_wp2_with (go_at_call 80; refine (isNaN_any _ _).mono ?_; rintro e w' ⟨rfl, rfl⟩)
  go_ret
  exact ⟨rfl, rfl⟩

set_option maxRecDepth 100000 in
set_option maxHeartbeats 1000000 in
theorem isSorted_any (B : Nat) (w : World) (v : Value) (xs : List Nat) (hv : Nats B w v xs) (hs : xs.Pairwise (· < ·)) :
    Calls Try.prog 42 #[v] w fun en w' => en = .returned (.bool true) ∧ Only (fun _ => False) w w' := by
  obtain ⟨A, c, rfl, -, -, hm, -⟩ := hv.shape
  go_enter Try.func42, Try.ntmps42
  go_wp2
  go_loopw [3] (fun y wr => ∃ i : Int, i ≤ (xs.length : Int) - 1 ∧ -1 ≤ i ∧ y = .int .i64 i ∧ Only (fun _ => False) w wr) (fun y _ => (intOf y).toNat)
  case atStart => exact ⟨_, by omega, by omega, rfl, Only.refl _ _⟩
  case round =>
    obtain ⟨i, hi, hi2, rfl, ho⟩ := hrel
    by_cases h0 : 0 < i
    · obtain ⟨q, rfl⟩ : ∃ q : Nat, i = (q : Int) := ⟨i.toNat, by omega⟩
      obtain ⟨m, hm2⟩ : ∃ m : Nat, q = m + 1 := ⟨q - 1, by omega⟩
      have hm1 : q < xs.length := by omega
      have hm0 : m < xs.length := by omega
      obtain ⟨ad, rfl, -, hc1⟩ := Nats.at hv hm1
      obtain ⟨ad2, he, -, hc0⟩ := Nats.at hv hm0
      cases he
      have hlt : xs.getD m 0 < xs.getD q 0 := by
        rw [List.getD_eq_getElem?_getD, List.getD_eq_getElem?_getD, List.getElem?_eq_getElem hm0, List.getElem?_eq_getElem hm1]
        exact List.pairwise_iff_getElem.1 hs m q hm0 hm1 (by omega)
      have d1 := (ho.cellAt (by exact hc1) : wr.cell? (ad.add q) = some (.int .i64 (xs.getD q 0 : Nat)))
      have d0 := (ho.cellAt (by exact hc0) : wr.cell? (ad.add m) = some (.int .i64 (xs.getD m 0 : Nat)))
      clear hc1 hc0
      revert d1 d0 hlt
      generalize xs.getD m 0 = a
      generalize xs.getD q 0 = b
      intro hlt d1 d0
      have hless := fun k => less_no (wr.drewN k) b a hlt
      have HLS := Lib.hid hless
      clear hless hlt
      have e2 : (q : Int) - 1 = (m : Int) := by omega
      have e3 : IntKind.i64.wrap ((q : Int) - 1) = (m : Int) := by rw [e2]; exact IntWalk.i64_in _ (by omega)
      have e4 : (q : Int) < (xs.length : Int) := by omega
      have e5 : (m : Int) < (xs.length : Int) := by omega
      clear hm2
      go_wp2
      go_quiet ((go_at_call 66; exact Calls.quiet_of_same (HLS.out _)))
      go_wp2
      go_roundw
      case rel => exact ⟨m, by omega, by omega, rfl, ho.drewN _⟩
      case measure => simp [intOf]; omega
    · have h0' : decide (0 < i) = false := by rw [decide_eq_false_iff_not]; exact h0
      go_wp2
      go_ret
      exact ⟨rfl, ho⟩
end Go.Proofs.Ytngfoinceakgdaa

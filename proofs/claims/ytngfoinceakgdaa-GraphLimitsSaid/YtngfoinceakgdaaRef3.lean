/- The reference: SameInts. -/
import Derived.Test.YtngfoinceakgdaaBack
import Derived.Deep.QuietTactic
import Derived.BigQuiet
namespace Go.Proofs.Ytngfoinceakgdaa
open Go.RowKit Go.Shelf

theorem Only.cellAt {w w' : World} {p : Addr} {v : Value} (h : Only (fun _ => False) w w') (hc : w.cell? p = some v) : w'.cell? p = some v := by
  have hb : p.block < w.heap.size := by
    rcases Nat.lt_or_ge p.block w.heap.size with h1 | h1
    · exact h1
    · rw [World.cell?, Array.getElem?_eq_none h1] at hc; cases hc
  exact (World.cell?_of_block (h.block p.block hb id)).trans hc

set_option maxRecDepth 100000 in
set_option maxHeartbeats 1000000 in
theorem sameInts_any (B : Nat) (w : World) (v1 v2 : Value) (xs ys : List Nat) (h1 : Nats B w v1 xs) (h2 : Nats B w v2 ys) :
    Calls Try.prog 65 #[v1, v2] w fun en w' => en = .returned (.bool (decide (xs = ys))) ∧ Only (fun _ => False) w w' := by
  obtain ⟨A1, c1, rfl, -, -, hm1, -⟩ := h1.shape
  obtain ⟨A2, c2, rfl, -, -, hm2, -⟩ := h2.shape
  by_cases hl : xs.length = ys.length
  · have hl' : (xs.length : Int) = (ys.length : Int) := by omega
    have HL := Lib.hid hl
    clear hl
    go_enter Try.func65, Try.ntmps65
    go_wp2
    clear hl'
    go_loopw [5] (fun y wr => ∃ m : Nat, m ≤ xs.length ∧ y = .int .i64 m ∧ xs.take m = ys.take m ∧ Only (fun _ => False) w wr) (fun y _ => xs.length - (intOf y).toNat)
    case atStart => exact ⟨0, Nat.zero_le _, rfl, rfl, Only.refl _ _⟩
    case round =>
      obtain ⟨m, hm, rfl, ht, ho⟩ := hrel
      by_cases hlt : m < xs.length
      · have hly : m < ys.length := by have := HL.out; omega
        have hlt1 : (m : Int) < (xs.length : Int) := by omega
        have hly1 : (m : Int) < (ys.length : Int) := by omega
        obtain ⟨ad1, rfl, -, hc1⟩ := Nats.at h1 hlt
        obtain ⟨ad2, rfl, -, hc2⟩ := Nats.at h2 hly
        have hd1 := (ho.cellAt (by exact hc1) : wr.cell? (ad1.add m) = some (.int .i64 (xs.getD m 0 : Nat)))
        have hd2 := (ho.cellAt (by exact hc2) : wr.cell? (ad2.add m) = some (.int .i64 (ys.getD m 0 : Nat)))
        have g1 : xs.getD m 0 = xs[m] := by rw [List.getD_eq_getElem?_getD, List.getElem?_eq_getElem hlt]; rfl
        have g2 : ys.getD m 0 = ys[m] := by rw [List.getD_eq_getElem?_getD, List.getElem?_eq_getElem hly]; rfl
        have htk : xs.take (m + 1) = xs.take m ++ [xs.getD m 0] := by rw [g1]; exact List.take_succ_eq_append_getElem hlt
        have htl : ys.take (m + 1) = ys.take m ++ [ys.getD m 0] := by rw [g2]; exact List.take_succ_eq_append_getElem hly
        have hne : xs.getD m 0 ≠ ys.getD m 0 → xs ≠ ys := fun h e => h (by rw [e])
        have HNE := Lib.hid hne
        have HTK := Lib.hid htk
        have HTL := Lib.hid htl
        have HT := Lib.hid ht
        clear g1 g2 htk htl hne hc1 hc2 ht
        revert hd1 hd2 HNE HTK HTL
        generalize xs.getD m 0 = x
        generalize ys.getD m 0 = y
        intro hd1 hd2 HNE HTK HTL
        by_cases hxy : x = y
        · subst hxy
          go_wp2
          go_quiet (fail)
          go_wp2
          go_roundw
          case rel => exact ⟨m + 1, by omega, by go_num, by rw [HTK.out, HTL.out, HT.out], ho.drewN _⟩
          case measure => simp [intOf]; omega
        · have hr : decide (xs = ys) = false := by rw [decide_eq_false_iff_not]; exact HNE.out hxy
          have hxy' : ¬ ((x : Int) = (y : Int)) := by omega
          have HR := Lib.hid hr
          clear hr hxy
          go_wp2
          go_quiet (fail)
          go_wp2
          go_ret
          exact ⟨by rw [HR.out]; rfl, ho.drewN _⟩
      · have hge : ¬ (m : Int) < (xs.length : Int) := by omega
        obtain rfl : xs.length = m := by omega
        have hr : decide (xs = ys) = true := by
          rw [decide_eq_true_iff]
          rw [List.take_length, List.take_of_length_le (by rw [HL.out]; exact Nat.le_refl _)] at ht
          exact ht
        have HR := Lib.hid hr
        clear hr ht
        go_wp2
        go_ret
        exact ⟨by rw [HR.out]; rfl, ho⟩
  · have hr : decide (xs = ys) = false := by rw [decide_eq_false_iff_not]; intro h; exact hl (by rw [h])
    have hl' : ¬ ((xs.length : Int) = (ys.length : Int)) := by omega
    rw [hr]
    clear hr hl
    go_enter Try.func65, Try.ntmps65
    go_wp2
    go_ret
    exact ⟨rfl, Only.refl _ _⟩

end Go.Proofs.Ytngfoinceakgdaa

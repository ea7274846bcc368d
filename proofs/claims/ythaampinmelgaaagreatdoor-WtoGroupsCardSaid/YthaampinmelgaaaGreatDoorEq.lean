/- The reference: SameInts, count; Go's library: Equal, Index, Contains. -/
import Derived.Test.YthaampinmelgaaaGreatDoorWtoD
import Derived.Test.YthaampinmelgaaaGreatDoorBack
import Derived.Deep.QuietTactic
import Derived.BigQuiet
/-! The reference: SameInts. -/
namespace Go.Proofs.YthaampinmelgaaaGreatDoor
open Go.RowKit Go.Shelf

theorem Only.cellAt {w w' : World} {p : Addr} {v : Value} (h : Only (fun _ => False) w w') (hc : w.cell? p = some v) : w'.cell? p = some v := by
  have hb : p.block < w.heap.size := by
    rcases Nat.lt_or_ge p.block w.heap.size with h1 | h1
    · exact h1
    · rw [World.cell?, Array.getElem?_eq_none h1] at hc; cases hc
  exact (World.cell?_of_block (h.block p.block hb id)).trans hc

set_option maxRecDepth 100000 in
set_option maxHeartbeats 1000000 in
theorem equalI_any (B : Nat) (w : World) (v1 v2 : Value) (xs ys : List Int) (h1 : Ints B w v1 xs) (h2 : Ints B w v2 ys) :
    Calls Tryz.prog 17 #[v1, v2] w fun en w' => en = .returned (.bool (decide (xs = ys))) ∧ Only (fun _ => False) w w' := by
  obtain ⟨A1, c1, rfl, -, -, hm1, -⟩ := h1.shape
  obtain ⟨A2, c2, rfl, -, -, hm2, -⟩ := h2.shape
  by_cases hl : xs.length = ys.length
  · have hl' : (xs.length : Int) = (ys.length : Int) := by omega
    have HL := Lib.hid hl
    clear hl
    go_enter Tryz.func17, Tryz.ntmps17
    go_wp2
    clear hl'
    go_loopw [13] (fun y wr => ∃ m : Nat, m ≤ xs.length ∧ y = .int .i64 m ∧ xs.take m = ys.take m ∧ Only (fun _ => False) w wr) (fun y _ => xs.length - (intOf y).toNat)
    case atStart => exact ⟨0, Nat.zero_le _, rfl, rfl, Only.refl _ _⟩
    case round =>
      obtain ⟨m, hm, rfl, ht, ho⟩ := hrel
      by_cases hlt : m < xs.length
      · have hly : m < ys.length := by have := HL.out; omega
        have hlt1 : (m : Int) < (xs.length : Int) := by omega
        have hly1 : (m : Int) < (ys.length : Int) := by omega
        obtain ⟨ad1, rfl, -, hc1⟩ := Ints.at h1 hlt
        obtain ⟨ad2, rfl, -, hc2⟩ := Ints.at h2 hly
        have hd1 := (ho.cellAt (by exact hc1) : wr.cell? (ad1.add m) = some (.int .i64 (getI xs m)))
        have hd2 := (ho.cellAt (by exact hc2) : wr.cell? (ad2.add m) = some (.int .i64 (getI ys m)))
        have g1 : getI xs m = xs[m] := by unfold getI; rw [List.getD_eq_getElem?_getD, List.getElem?_eq_getElem hlt]; rfl
        have g2 : getI ys m = ys[m] := by unfold getI; rw [List.getD_eq_getElem?_getD, List.getElem?_eq_getElem hly]; rfl
        have htk : xs.take (m + 1) = xs.take m ++ [getI xs m] := by rw [g1]; exact List.take_succ_eq_append_getElem hlt
        have htl : ys.take (m + 1) = ys.take m ++ [getI ys m] := by rw [g2]; exact List.take_succ_eq_append_getElem hly
        have hne : getI xs m ≠ getI ys m → xs ≠ ys := fun h e => h (by rw [e])
        have HNE := Lib.hid hne
        have HTK := Lib.hid htk
        have HTL := Lib.hid htl
        have HT := Lib.hid ht
        clear g1 g2 htk htl hne hc1 hc2 ht
        revert hd1 hd2 HNE HTK HTL
        generalize getI xs m = x
        generalize getI ys m = y
        intro hd1 hd2 HNE HTK HTL
        by_cases hxy : x = y
        · subst hxy
          go_wp2
          go_quiet (fail)
          go_wp2
          go_roundw
          case rel => exact ⟨m + 1, by omega, by go_num, by rw [HTK.out, HTL.out, HT.out], ho.drewN _⟩
          case measure => simp [intOf]; omega
        · have hr : decide (xs = ys) = false := by rw [decide_eq_false_iff_not]; exact HNE.out hxy
          have hxy' : ¬ (x = y) := hxy
          have hxb : (x != y) = true := by simpa using hxy
          have hxb2 : (x == y) = false := by simpa using hxy
          have HR := Lib.hid hr
          clear hr
          go_wp2
          go_quiet (fail)
          go_wp2
          go_ret
          exact ⟨by rw [HR.out]; rfl, ho.drewN _⟩
      · have hge : ¬ (m : Int) < (xs.length : Int) := by omega
        obtain rfl : xs.length = m := by omega
        have hge2 : ¬ (xs.length : Int) < (ys.length : Int) := by have := HL.out; omega
        have hr : decide (xs = ys) = true := by
          rw [decide_eq_true_iff]
          rw [List.take_length, List.take_of_length_le (by rw [HL.out]; exact Nat.le_refl _)] at ht
          exact ht
        have HR := Lib.hid hr
        clear hr ht
        go_wp2
        go_ret
        exact ⟨by rw [HR.out]; rfl, ho⟩
  · have hr : decide (xs = ys) = false := by rw [decide_eq_false_iff_not]; intro h; exact hl (by rw [h])
    have hl' : ¬ ((xs.length : Int) = (ys.length : Int)) := by omega
    rw [hr]
    clear hr hl
    go_enter Tryz.func17, Tryz.ntmps17
    go_wp2
    go_ret
    exact ⟨rfl, Only.refl _ _⟩


theorem idx_step {l : List Int} {x : Int} {m : Nat} (h : ∀ j, j < m → getI l j ≠ x) (h2 : getI l m ≠ x) : ∀ j, j < m + 1 → getI l j ≠ x := fun j hj => by
  by_cases e : j = m
  · subst e; exact h2
  · exact h j (by omega)

set_option maxRecDepth 100000 in
set_option maxHeartbeats 1000000 in
theorem index_any (B : Nat) (w : World) (v : Value) (xs : List Int) (x : Int) (h1 : Ints B w v xs) :
    Calls Tryz.prog 21 #[v, .int .i64 x] w fun en w' => en = .returned (.int .i64 (idxI xs x)) ∧ Only (fun _ => False) w w' := by
  obtain ⟨A1, c1, rfl, -, -, hm1, -⟩ := h1.shape
  go_enter Tryz.func21, Tryz.ntmps21
  go_wp2
  go_loopw [8] (fun y wr => ∃ m : Nat, m ≤ xs.length ∧ y = .int .i64 m ∧ (∀ j, j < m → getI xs j ≠ x) ∧ Only (fun _ => False) w wr) (fun y _ => xs.length - (intOf y).toNat)
  case atStart => exact ⟨0, Nat.zero_le _, rfl, fun j hj => absurd hj (Nat.not_lt_zero j), Only.refl _ _⟩
  case round =>
    obtain ⟨m, hm, rfl, ht, ho⟩ := hrel
    have HT := Lib.hid ht
    clear ht
    by_cases hlt : m < xs.length
    · have hlt1 : (m : Int) < (xs.length : Int) := by omega
      obtain ⟨ad1, rfl, -, hc1⟩ := Ints.at h1 hlt
      have hd1 := (ho.cellAt (by exact hc1) : wr.cell? (ad1.add m) = some (.int .i64 (getI xs m)))
      have HX := Lib.hid (⟨_, rfl⟩ : ∃ y, y = getI xs m)
      clear hc1
      by_cases hxy : getI xs m = x
      · have hr := findIdx_some_of hlt HT.out hxy
        rw [hxy] at hd1
        have hxb : (x == x) = true := by simp
        have HR := Lib.hid hr
        clear hr hxy
        go_wp2
        go_ret
        exact ⟨by rw [HR.out]; rfl, ho⟩
      · have hns := idx_step HT.out hxy
        have hxb : (x == getI xs m) = false := by simpa using fun e : x = getI xs m => hxy e.symm
        have hxc : ¬ (x = getI xs m) := fun e => hxy e.symm
        have HNS := Lib.hid hns
        clear hns hxy
        go_wp2
        go_roundw
        case rel => exact ⟨m + 1, by omega, by go_num, HNS.out, ho⟩
        case measure => simp [intOf]; omega
    · have hge : ¬ (m : Int) < (xs.length : Int) := by omega
      obtain rfl : xs.length = m := by omega
      have hr := findIdx_none_of HT.out
      have HR := Lib.hid hr
      clear hr
      go_wp2
      go_ret
      exact ⟨by rw [HR.out]; rfl, ho⟩

set_option maxRecDepth 100000 in
set_option maxHeartbeats 1000000 in
theorem contains_any (B : Nat) (w : World) (v : Value) (xs : List Int) (x : Int) (h1 : Ints B w v xs) :
    Calls Tryz.prog 38 #[v, .int .i64 x] w fun en w' => en = .returned (.bool (xs.contains x)) ∧ Only (fun _ => False) w w' := by
  have hi := index_any B w v xs x h1
  have hc := idxI_contains xs x
  obtain ⟨A1, c1, rfl, -, -, hm1, -⟩ := h1.shape
  generalize idxI xs x = i at hi hc
  have HC := Lib.hid hc
  have HI := Lib.hid hi
  clear hc hi
  go_enter Tryz.func38, Tryz.ntmps38
  go_wp2_with (go_at_call 21; refine HI.out.mono ?_; rintro en w1 ⟨rfl, ho⟩)
  go_ret
  exact ⟨by rw [← HC.out]; rfl, ho⟩

theorem Nats.ints {B : Nat} {w : World} {v : Value} {xs : List Nat} (h : Nats B w v xs) : Ints B w v (xs.map fun x : Nat => (x : Int)) := by
  obtain ⟨A, c, rfl, h1, h2, h3⟩ := h
  refine ⟨A, c, by rw [List.length_map], by simpa using h1, h2, fun j x hx => ?_⟩
  rw [List.getElem?_map, Option.map_eq_some_iff] at hx
  obtain ⟨y, hy, rfl⟩ := hx
  obtain ⟨ad, u, h4, h5, h6, h7⟩ := h3 j y hy
  exact ⟨ad, u, h4, h5, h6, h7⟩

end Go.Proofs.YthaampinmelgaaaGreatDoor

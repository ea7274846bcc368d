/- The reference: SameInts, count; Go's library: Equal, Index, Contains. -/
import Derived.Test.YtngfoinceakgdaaBack
import Derived.Deep.QuietTactic
import Derived.BigQuiet
/-! The reference: SameInts. -/
namespace Go.Proofs.Ytngfoinceakgdaa
open Go.RowKit Go.Shelf

theorem Only.cellAt {w w' : World} {p : Addr} {v : Value} (h : Only (fun _ => False) w w') (hc : w.cell? p = some v) : w'.cell? p = some v := by
  have hb : p.block < w.heap.size := by
    rcases Nat.lt_or_ge p.block w.heap.size with h1 | h1
    · exact h1
    · rw [World.cell?, Array.getElem?_eq_none h1] at hc; cases hc
  exact (World.cell?_of_block (h.block p.block hb id)).trans hc

set_option maxRecDepth 100000 in
set_option maxHeartbeats 1000000 in
theorem sameInts_any (B : Nat) (w : World) (v1 v2 : Value) (xs ys : List Nat) (h1 : Nats B w v1 xs) (h2 : Nats B w v2 ys) :
    Calls Try.prog 65 #[v1, v2] w fun en w' => en = .returned (.bool (decide (xs = ys))) ∧ Only (fun _ => False) w w' := by
  obtain ⟨A1, c1, rfl, -, -, hm1, -⟩ := h1.shape
  obtain ⟨A2, c2, rfl, -, -, hm2, -⟩ := h2.shape
  by_cases hl : xs.length = ys.length
  · have hl' : (xs.length : Int) = (ys.length : Int) := by omega
    have HL := Lib.hid hl
    clear hl
    go_enter Try.func65, Try.ntmps65
    go_wp2
    clear hl'
    go_loopw [5] (fun y wr => ∃ m : Nat, m ≤ xs.length ∧ y = .int .i64 m ∧ xs.take m = ys.take m ∧ Only (fun _ => False) w wr) (fun y _ => xs.length - (intOf y).toNat)
    case atStart => exact ⟨0, Nat.zero_le _, rfl, rfl, Only.refl _ _⟩
    case round =>
      obtain ⟨m, hm, rfl, ht, ho⟩ := hrel
      by_cases hlt : m < xs.length
      · have hly : m < ys.length := by have := HL.out; omega
        have hlt1 : (m : Int) < (xs.length : Int) := by omega
        have hly1 : (m : Int) < (ys.length : Int) := by omega
        obtain ⟨ad1, rfl, -, hc1⟩ := Nats.at h1 hlt
        obtain ⟨ad2, rfl, -, hc2⟩ := Nats.at h2 hly
        have hd1 := (ho.cellAt (by exact hc1) : wr.cell? (ad1.add m) = some (.int .i64 (xs.getD m 0 : Nat)))
        have hd2 := (ho.cellAt (by exact hc2) : wr.cell? (ad2.add m) = some (.int .i64 (ys.getD m 0 : Nat)))
        have g1 : xs.getD m 0 = xs[m] := by rw [List.getD_eq_getElem?_getD, List.getElem?_eq_getElem hlt]; rfl
        have g2 : ys.getD m 0 = ys[m] := by rw [List.getD_eq_getElem?_getD, List.getElem?_eq_getElem hly]; rfl
        have htk : xs.take (m + 1) = xs.take m ++ [xs.getD m 0] := by rw [g1]; exact List.take_succ_eq_append_getElem hlt
        have htl : ys.take (m + 1) = ys.take m ++ [ys.getD m 0] := by rw [g2]; exact List.take_succ_eq_append_getElem hly
        have hne : xs.getD m 0 ≠ ys.getD m 0 → xs ≠ ys := fun h e => h (by rw [e])
        have HNE := Lib.hid hne
        have HTK := Lib.hid htk
        have HTL := Lib.hid htl
        have HT := Lib.hid ht
        clear g1 g2 htk htl hne hc1 hc2 ht
        revert hd1 hd2 HNE HTK HTL
        generalize xs.getD m 0 = x
        generalize ys.getD m 0 = y
        intro hd1 hd2 HNE HTK HTL
        by_cases hxy : x = y
        · subst hxy
          go_wp2
          go_quiet (fail)
          go_wp2
          go_roundw
          case rel => exact ⟨m + 1, by omega, by go_num, by rw [HTK.out, HTL.out, HT.out], ho.drewN _⟩
          case measure => simp [intOf]; omega
        · have hr : decide (xs = ys) = false := by rw [decide_eq_false_iff_not]; exact HNE.out hxy
          have hxy' : ¬ ((x : Int) = (y : Int)) := by omega
          have HR := Lib.hid hr
          clear hr hxy
          go_wp2
          go_quiet (fail)
          go_wp2
          go_ret
          exact ⟨by rw [HR.out]; rfl, ho.drewN _⟩
      · have hge : ¬ (m : Int) < (xs.length : Int) := by omega
        obtain rfl : xs.length = m := by omega
        have hr : decide (xs = ys) = true := by
          rw [decide_eq_true_iff]
          rw [List.take_length, List.take_of_length_le (by rw [HL.out]; exact Nat.le_refl _)] at ht
          exact ht
        have HR := Lib.hid hr
        clear hr ht
        go_wp2
        go_ret
        exact ⟨by rw [HR.out]; rfl, ho⟩
  · have hr : decide (xs = ys) = false := by rw [decide_eq_false_iff_not]; intro h; exact hl (by rw [h])
    have hl' : ¬ ((xs.length : Int) = (ys.length : Int)) := by omega
    rw [hr]
    clear hr hl
    go_enter Try.func65, Try.ntmps65
    go_wp2
    go_ret
    exact ⟨rfl, Only.refl _ _⟩

end Go.Proofs.Ytngfoinceakgdaa

/-! The reference: count. -/
namespace Go.Proofs.Ytngfoinceakgdaa
open Go.RowKit Go.Shelf

theorem count_take_succ (l : List Bool) (m : Nat) (h : m < l.length) : (l.take (m + 1)).count true = (l.take m).count true + (if l.getD m false = true then 1 else 0) := by
  rw [List.take_succ_eq_append_getElem h, List.count_append, List.getD_eq_getElem?_getD, List.getElem?_eq_getElem h]
  cases l[m] <;> simp

set_option maxRecDepth 100000 in
set_option maxHeartbeats 1000000 in
theorem count_any (B : Nat) (w : World) (v : Value) (l : List Bool) (hv : Bools B w v l) (hl : l.length ≤ 100000) :
    Calls Try.prog 77 #[v] w fun en w' => en = .returned (.int .i64 (l.count true : Nat)) ∧ w' = w := by
  obtain ⟨A, c, rfl, -, -, hm, -⟩ := hv.shape
  go_enter Try.func77, Try.ntmps77
  go_wp2
  go_loopw [3, 4] (fun x y wr => ∃ m : Nat, m ≤ l.length ∧ x = .int .i64 ((l.take m).count true : Nat) ∧ y = .int .i64 m ∧ w = wr) (fun _ y _ => l.length - (intOf y).toNat)
  case atStart => exact ⟨0, Nat.zero_le _, rfl, rfl, rfl⟩
  case round =>
    obtain ⟨m, hm', rfl, rfl, rfl⟩ := hrel
    have hcl : (l.take m).count true ≤ 100000 := Nat.le_trans List.count_le_length (by simp; omega)
    by_cases hlt : m < l.length
    · obtain ⟨ad, rfl, -, hc⟩ := Bools.at hv hlt
      have hlt1 : (m : Int) < (l.length : Int) := by omega
      have hs := count_take_succ l m hlt
      revert hcl hs
      generalize (l.take m).count true = q
      intro hcl hs
      cases hb : l.getD m false with
      | true =>
        rw [hb] at hc hs
        have HS := Lib.hid hs
        clear hs hb
        go_wp2
        go_roundw
        case rel => exact ⟨m + 1, by omega, by rw [HS.out]; simp, by go_num, trivial⟩
        case measure => simp [intOf]; omega
      | false =>
        rw [hb] at hc hs
        have HS := Lib.hid hs
        clear hs hb
        go_wp2
        go_roundw
        case rel => exact ⟨m + 1, by omega, by rw [HS.out]; simp, by go_num, trivial⟩
        case measure => simp [intOf]; omega
    · have hge : ¬ (m : Int) < (l.length : Int) := by omega
      obtain rfl : l.length = m := by omega
      rw [List.take_length]
      go_wp2
      go_ret
      exact ⟨rfl, rfl⟩

#print axioms count_any

end Go.Proofs.Ytngfoinceakgdaa

/-! The library's slices.Equal, Index and Contains at whole numbers and Booleans. -/
namespace Go.Proofs.Ytngfoinceakgdaa
open Go.RowKit Go.Shelf

set_option maxRecDepth 100000 in
set_option maxHeartbeats 1000000 in
theorem equalI_any (B : Nat) (w : World) (v1 v2 : Value) (xs ys : List Int) (h1 : Ints B w v1 xs) (h2 : Ints B w v2 ys) :
    Calls Try.prog 17 #[v1, v2] w fun en w' => en = .returned (.bool (decide (xs = ys))) ∧ Only (fun _ => False) w w' := by
  obtain ⟨A1, c1, rfl, -, -, hm1, -⟩ := h1.shape
  obtain ⟨A2, c2, rfl, -, -, hm2, -⟩ := h2.shape
  by_cases hl : xs.length = ys.length
  · have hl' : (xs.length : Int) = (ys.length : Int) := by omega
    have HL := Lib.hid hl
    clear hl
    go_enter Try.func17, Try.ntmps17
    go_wp2
    clear hl'
    go_loopw [13] (fun y wr => ∃ m : Nat, m ≤ xs.length ∧ y = .int .i64 m ∧ xs.take m = ys.take m ∧ Only (fun _ => False) w wr) (fun y _ => xs.length - (intOf y).toNat)
    case atStart => exact ⟨0, Nat.zero_le _, rfl, rfl, Only.refl _ _⟩
    case round =>
      obtain ⟨m, hm, rfl, ht, ho⟩ := hrel
      by_cases hlt : m < xs.length
      · have hly : m < ys.length := by have := HL.out; omega
        have hlt1 : (m : Int) < (xs.length : Int) := by omega
        have hly1 : (m : Int) < (ys.length : Int) := by omega
        obtain ⟨ad1, rfl, -, hc1⟩ := Ints.at h1 hlt
        obtain ⟨ad2, rfl, -, hc2⟩ := Ints.at h2 hly
        have hd1 := (ho.cellAt (by exact hc1) : wr.cell? (ad1.add m) = some (.int .i64 (getI xs m)))
        have hd2 := (ho.cellAt (by exact hc2) : wr.cell? (ad2.add m) = some (.int .i64 (getI ys m)))
        have g1 : getI xs m = xs[m] := by unfold getI; rw [List.getD_eq_getElem?_getD, List.getElem?_eq_getElem hlt]; rfl
        have g2 : getI ys m = ys[m] := by unfold getI; rw [List.getD_eq_getElem?_getD, List.getElem?_eq_getElem hly]; rfl
        have htk : xs.take (m + 1) = xs.take m ++ [getI xs m] := by rw [g1]; exact List.take_succ_eq_append_getElem hlt
        have htl : ys.take (m + 1) = ys.take m ++ [getI ys m] := by rw [g2]; exact List.take_succ_eq_append_getElem hly
        have hne : getI xs m ≠ getI ys m → xs ≠ ys := fun h e => h (by rw [e])
        have HNE := Lib.hid hne
        have HTK := Lib.hid htk
        have HTL := Lib.hid htl
        have HT := Lib.hid ht
        clear g1 g2 htk htl hne hc1 hc2 ht
        revert hd1 hd2 HNE HTK HTL
        generalize getI xs m = x
        generalize getI ys m = y
        intro hd1 hd2 HNE HTK HTL
        by_cases hxy : x = y
        · subst hxy
          go_wp2
          go_quiet (fail)
          go_wp2
          go_roundw
          case rel => exact ⟨m + 1, by omega, by go_num, by rw [HTK.out, HTL.out, HT.out], ho.drewN _⟩
          case measure => simp [intOf]; omega
        · have hr : decide (xs = ys) = false := by rw [decide_eq_false_iff_not]; exact HNE.out hxy
          have hxy' : ¬ (x = y) := hxy
          have hxb : (x != y) = true := by simpa using hxy
          have hxb2 : (x == y) = false := by simpa using hxy
          have HR := Lib.hid hr
          clear hr
          go_wp2
          go_quiet (fail)
          go_wp2
          go_ret
          exact ⟨by rw [HR.out]; rfl, ho.drewN _⟩
      · have hge : ¬ (m : Int) < (xs.length : Int) := by omega
        obtain rfl : xs.length = m := by omega
        have hge2 : ¬ (xs.length : Int) < (ys.length : Int) := by have := HL.out; omega
        have hr : decide (xs = ys) = true := by
          rw [decide_eq_true_iff]
          rw [List.take_length, List.take_of_length_le (by rw [HL.out]; exact Nat.le_refl _)] at ht
          exact ht
        have HR := Lib.hid hr
        clear hr ht
        go_wp2
        go_ret
        exact ⟨by rw [HR.out]; rfl, ho⟩
  · have hr : decide (xs = ys) = false := by rw [decide_eq_false_iff_not]; intro h; exact hl (by rw [h])
    have hl' : ¬ ((xs.length : Int) = (ys.length : Int)) := by omega
    rw [hr]
    clear hr hl
    go_enter Try.func17, Try.ntmps17
    go_wp2
    go_ret
    exact ⟨rfl, Only.refl _ _⟩


set_option maxRecDepth 100000 in
set_option maxHeartbeats 1000000 in
theorem equalB_any (B : Nat) (w : World) (v1 v2 : Value) (xs ys : List Bool) (h1 : Bools B w v1 xs) (h2 : Bools B w v2 ys) :
    Calls Try.prog 41 #[v1, v2] w fun en w' => en = .returned (.bool (decide (xs = ys))) ∧ Only (fun _ => False) w w' := by
  obtain ⟨A1, c1, rfl, -, -, hm1, -⟩ := h1.shape
  obtain ⟨A2, c2, rfl, -, -, hm2, -⟩ := h2.shape
  by_cases hl : xs.length = ys.length
  · have hl' : (xs.length : Int) = (ys.length : Int) := by omega
    have HL := Lib.hid hl
    clear hl
    go_enter Try.func41, Try.ntmps41
    go_wp2
    clear hl'
    go_loopw [13] (fun y wr => ∃ m : Nat, m ≤ xs.length ∧ y = .int .i64 m ∧ xs.take m = ys.take m ∧ Only (fun _ => False) w wr) (fun y _ => xs.length - (intOf y).toNat)
    case atStart => exact ⟨0, Nat.zero_le _, rfl, rfl, Only.refl _ _⟩
    case round =>
      obtain ⟨m, hm, rfl, ht, ho⟩ := hrel
      by_cases hlt : m < xs.length
      · have hly : m < ys.length := by have := HL.out; omega
        have hlt1 : (m : Int) < (xs.length : Int) := by omega
        have hly1 : (m : Int) < (ys.length : Int) := by omega
        obtain ⟨ad1, rfl, -, hc1⟩ := Bools.at h1 hlt
        obtain ⟨ad2, rfl, -, hc2⟩ := Bools.at h2 hly
        have hd1 := (ho.cellAt (by exact hc1) : wr.cell? (ad1.add m) = some (.bool (xs.getD m false)))
        have hd2 := (ho.cellAt (by exact hc2) : wr.cell? (ad2.add m) = some (.bool (ys.getD m false)))
        have g1 : xs.getD m false = xs[m] := by rw [List.getD_eq_getElem?_getD, List.getElem?_eq_getElem hlt]; rfl
        have g2 : ys.getD m false = ys[m] := by rw [List.getD_eq_getElem?_getD, List.getElem?_eq_getElem hly]; rfl
        have htk : xs.take (m + 1) = xs.take m ++ [xs.getD m false] := by rw [g1]; exact List.take_succ_eq_append_getElem hlt
        have htl : ys.take (m + 1) = ys.take m ++ [ys.getD m false] := by rw [g2]; exact List.take_succ_eq_append_getElem hly
        have hne : xs.getD m false ≠ ys.getD m false → xs ≠ ys := fun h e => h (by rw [e])
        have HNE := Lib.hid hne
        have HTK := Lib.hid htk
        have HTL := Lib.hid htl
        have HT := Lib.hid ht
        clear g1 g2 htk htl hne hc1 hc2 ht
        revert hd1 hd2 HNE HTK HTL
        generalize xs.getD m false = x
        generalize ys.getD m false = y
        intro hd1 hd2 HNE HTK HTL
        by_cases hxy : x = y
        · subst hxy
          go_wp2
          go_quiet (fail)
          go_wp2
          go_roundw
          case rel => exact ⟨m + 1, by omega, by go_num, by rw [HTK.out, HTL.out, HT.out], ho.drewN _⟩
          case measure => simp [intOf]; omega
        · have hr : decide (xs = ys) = false := by rw [decide_eq_false_iff_not]; exact HNE.out hxy
          have hxy' : ¬ (x = y) := hxy
          have hxb : (x != y) = true := by simpa using hxy
          have hxb2 : (x == y) = false := by simpa using hxy
          have HR := Lib.hid hr
          clear hr
          go_wp2
          go_quiet (fail)
          go_wp2
          go_ret
          exact ⟨by rw [HR.out]; rfl, ho.drewN _⟩
      · have hge : ¬ (m : Int) < (xs.length : Int) := by omega
        obtain rfl : xs.length = m := by omega
        have hge2 : ¬ (xs.length : Int) < (ys.length : Int) := by have := HL.out; omega
        have hr : decide (xs = ys) = true := by
          rw [decide_eq_true_iff]
          rw [List.take_length, List.take_of_length_le (by rw [HL.out]; exact Nat.le_refl _)] at ht
          exact ht
        have HR := Lib.hid hr
        clear hr ht
        go_wp2
        go_ret
        exact ⟨by rw [HR.out]; rfl, ho⟩
  · have hr : decide (xs = ys) = false := by rw [decide_eq_false_iff_not]; intro h; exact hl (by rw [h])
    have hl' : ¬ ((xs.length : Int) = (ys.length : Int)) := by omega
    rw [hr]
    clear hr hl
    go_enter Try.func41, Try.ntmps41
    go_wp2
    go_ret
    exact ⟨rfl, Only.refl _ _⟩


/-- The first place of a number, or -1. -/
def idxI (l : List Int) (x : Int) : Int := match l.findIdx? (fun y => x == y) with
  | some i => (i : Int)
  | none => -1

theorem findIdx_none_of {l : List Int} {x : Int} (h : ∀ m, m < l.length → getI l m ≠ x) : idxI l x = -1 := by
  have : l.findIdx? (fun y => x == y) = none := by
    rw [List.findIdx?_eq_none_iff]
    intro y hy
    obtain ⟨m, hm, rfl⟩ := List.mem_iff_getElem.1 hy
    have h1 := h m hm
    unfold getI at h1
    rw [List.getD_eq_getElem?_getD, List.getElem?_eq_getElem hm] at h1
    simp at h1 ⊢
    exact fun e => h1 e.symm
  unfold idxI
  rw [this]
theorem findIdx_some_of {l : List Int} {x : Int} {k : Nat} (hk : k < l.length) (h : ∀ m, m < k → getI l m ≠ x) (hx : getI l k = x) : idxI l x = (k : Int) := by
  have hg : ∀ m (hm : m < l.length), getI l m = l[m] := fun m hm => by unfold getI; rw [List.getD_eq_getElem?_getD, List.getElem?_eq_getElem hm]; rfl
  have : l.findIdx? (fun y => x == y) = some k := by
    rw [List.findIdx?_eq_some_iff_getElem]
    refine ⟨hk, by rw [← hg k hk, hx]; simp, fun j hj => ?_⟩
    have h1 := h j hj
    rw [hg j (by omega)] at h1
    simp
    exact fun e => h1 e.symm
  unfold idxI
  rw [this]

theorem idx_step {l : List Int} {x : Int} {m : Nat} (h : ∀ j, j < m → getI l j ≠ x) (h2 : getI l m ≠ x) : ∀ j, j < m + 1 → getI l j ≠ x := fun j hj => by
  by_cases e : j = m
  · subst e; exact h2
  · exact h j (by omega)

set_option maxRecDepth 100000 in
set_option maxHeartbeats 1000000 in
theorem index_any (B : Nat) (w : World) (v : Value) (xs : List Int) (x : Int) (h1 : Ints B w v xs) :
    Calls Try.prog 63 #[v, .int .i64 x] w fun en w' => en = .returned (.int .i64 (idxI xs x)) ∧ Only (fun _ => False) w w' := by
  obtain ⟨A1, c1, rfl, -, -, hm1, -⟩ := h1.shape
  go_enter Try.func63, Try.ntmps63
  go_wp2
  go_loopw [8] (fun y wr => ∃ m : Nat, m ≤ xs.length ∧ y = .int .i64 m ∧ (∀ j, j < m → getI xs j ≠ x) ∧ Only (fun _ => False) w wr) (fun y _ => xs.length - (intOf y).toNat)
  case atStart => exact ⟨0, Nat.zero_le _, rfl, fun j hj => absurd hj (Nat.not_lt_zero j), Only.refl _ _⟩
  case round =>
    obtain ⟨m, hm, rfl, ht, ho⟩ := hrel
    have HT := Lib.hid ht
    clear ht
    by_cases hlt : m < xs.length
    · have hlt1 : (m : Int) < (xs.length : Int) := by omega
      obtain ⟨ad1, rfl, -, hc1⟩ := Ints.at h1 hlt
      have hd1 := (ho.cellAt (by exact hc1) : wr.cell? (ad1.add m) = some (.int .i64 (getI xs m)))
      have HX := Lib.hid (⟨_, rfl⟩ : ∃ y, y = getI xs m)
      clear hc1
      by_cases hxy : getI xs m = x
      · have hr := findIdx_some_of hlt HT.out hxy
        rw [hxy] at hd1
        have hxb : (x == x) = true := by simp
        have HR := Lib.hid hr
        clear hr hxy
        go_wp2
        go_ret
        exact ⟨by rw [HR.out]; rfl, ho⟩
      · have hns := idx_step HT.out hxy
        have hxb : (x == getI xs m) = false := by simpa using fun e : x = getI xs m => hxy e.symm
        have hxc : ¬ (x = getI xs m) := fun e => hxy e.symm
        have HNS := Lib.hid hns
        clear hns hxy
        go_wp2
        go_roundw
        case rel => exact ⟨m + 1, by omega, by go_num, HNS.out, ho⟩
        case measure => simp [intOf]; omega
    · have hge : ¬ (m : Int) < (xs.length : Int) := by omega
      obtain rfl : xs.length = m := by omega
      have hr := findIdx_none_of HT.out
      have HR := Lib.hid hr
      clear hr
      go_wp2
      go_ret
      exact ⟨by rw [HR.out]; rfl, ho⟩

theorem idxI_contains (l : List Int) (x : Int) : decide (0 ≤ idxI l x) = l.contains x := by
  by_cases h : x ∈ l
  · obtain ⟨i, hi⟩ : ∃ i, l.findIdx? (fun y => x == y) = some i := by
      rw [← Option.isSome_iff_exists, List.findIdx?_isSome]
      simpa using h
    unfold idxI
    rw [hi]
    simp [h]
  · have : l.findIdx? (fun y => x == y) = none := by
      rw [List.findIdx?_eq_none_iff]
      intro y hy
      simp
      rintro rfl
      exact h hy
    unfold idxI
    rw [this]
    simp [h]

set_option maxRecDepth 100000 in
set_option maxHeartbeats 1000000 in
theorem contains_any (B : Nat) (w : World) (v : Value) (xs : List Int) (x : Int) (h1 : Ints B w v xs) :
    Calls Try.prog 34 #[v, .int .i64 x] w fun en w' => en = .returned (.bool (xs.contains x)) ∧ Only (fun _ => False) w w' := by
  have hi := index_any B w v xs x h1
  have hc := idxI_contains xs x
  obtain ⟨A1, c1, rfl, -, -, hm1, -⟩ := h1.shape
  generalize idxI xs x = i at hi hc
  have HC := Lib.hid hc
  have HI := Lib.hid hi
  clear hc hi
  go_enter Try.func34, Try.ntmps34
  go_wp2_with (go_at_call 63; refine HI.out.mono ?_; rintro en w1 ⟨rfl, ho⟩)
  go_ret
  exact ⟨by rw [← HC.out]; rfl, ho⟩

theorem Nats.ints {B : Nat} {w : World} {v : Value} {xs : List Nat} (h : Nats B w v xs) : Ints B w v (xs.map fun x : Nat => (x : Int)) := by
  obtain ⟨A, c, rfl, h1, h2, h3⟩ := h
  refine ⟨A, c, by rw [List.length_map], by simpa using h1, h2, fun j x hx => ?_⟩
  rw [List.getElem?_map, Option.map_eq_some_iff] at hx
  obtain ⟨y, hy, rfl⟩ := hx
  obtain ⟨ad, u, h4, h5, h6, h7⟩ := h3 j y hy
  exact ⟨ad, u, h4, h5, h6, h7⟩

end Go.Proofs.Ytngfoinceakgdaa

/- The library's slices.Compare at whole numbers. -/
import Derived.Test.YtngfoinceakgdaaPlain1
import Derived.Test.YtngfoinceakgdaaBack
namespace Go.Proofs.Ytngfoinceakgdaa
open Go.RowKit Go.Shelf

def cmpInt (x y : Int) : Int := if x < y then -1 else if y < x then 1 else 0
theorem compareM_drop (xs ys : List Nat) : ∀ (k : Nat), k ≤ xs.length → k ≤ ys.length → xs.take k = ys.take k → compareM xs ys = compareM (xs.drop k) (ys.drop k) := by
  intro k
  induction k generalizing xs ys with
  | zero => intro _ _ _; rfl
  | succ k ih =>
    intro h1 h2 h3
    match xs, ys, h1, h2, h3 with
    | [], _, h1, _, _ => simp at h1
    | _ :: _, [], _, h2, _ => simp at h2
    | x :: xs, y :: ys, h1, h2, h3 =>
      simp only [List.take_succ_cons, List.cons.injEq] at h3
      obtain ⟨rfl, h3⟩ := h3
      simp only [compareM, Nat.lt_irrefl, if_false, List.drop_succ_cons]
      exact ih xs ys (by simpa using h1) (by simpa using h2) h3

set_option maxRecDepth 100000 in
set_option maxHeartbeats 1000000 in
theorem isNaN_any (w : World) (x : Int) : Calls Try.prog 80 #[.int .i64 x] w fun en w' => en = .returned (.bool false) ∧ w' = w := by
  go_enter Try.func80, Try.ntmps80
  go_wp2
  go_ret
  exact ⟨rfl, rfl⟩

set_option maxRecDepth 100000 in
set_option maxHeartbeats 1000000 in
theorem cmpCompare_any (w : World) (x y : Int) : Calls Try.prog 92 #[.int .i64 x, .int .i64 y] w fun en w' => en = .returned (.int .i64 (cmpInt x y)) ∧ w' = w := by
  unfold cmpInt
  by_cases h1 : x < y
  · rw [if_pos h1]
    go_enter Try.func92, Try.ntmps92
    go_wp2_with (go_at_call 80; refine (isNaN_any _ _).mono ?_; rintro en w1 ⟨rfl, hw⟩; rw [hw])
    go_ret
    exact ⟨rfl, rfl⟩
  · rw [if_neg h1]
    have h1' : decide (x < y) = false := by simpa using h1
    by_cases h2 : y < x
    · rw [if_pos h2]
      go_enter Try.func92, Try.ntmps92
      go_wp2_with (go_at_call 80; refine (isNaN_any _ _).mono ?_; rintro en w1 ⟨rfl, hw⟩; rw [hw])
      go_ret
      exact ⟨rfl, rfl⟩
    · rw [if_neg h2]
      have h2' : decide (y < x) = false := by simpa using h2
      go_enter Try.func92, Try.ntmps92
      go_wp2_with (go_at_call 80; refine (isNaN_any _ _).mono ?_; rintro en w1 ⟨rfl, hw⟩; rw [hw])
      go_ret
      exact ⟨rfl, rfl⟩

set_option maxRecDepth 100000 in
set_option maxHeartbeats 1000000 in
theorem compare_any (B : Nat) (w : World) (v1 v2 : Value) (xs ys : List Nat) (h1 : Nats B w v1 xs) (h2 : Nats B w v2 ys) :
    Calls Try.prog 71 #[v1, v2] w fun en w' => en = .returned (.int .i64 (compareM xs ys)) ∧ w' = w := by
  obtain ⟨A1, c1, rfl, -, -, hm1, -⟩ := h1.shape
  obtain ⟨A2, c2, rfl, -, -, hm2, -⟩ := h2.shape
  go_enter Try.func71, Try.ntmps71
  go_wp2
  go_loopw [11] (fun y wr => ∃ m : Nat, m ≤ xs.length ∧ m ≤ ys.length ∧ y = .int .i64 m ∧ xs.take m = ys.take m ∧ w = wr) (fun y _ => xs.length - (intOf y).toNat)
  case atStart => exact ⟨0, Nat.zero_le _, Nat.zero_le _, rfl, rfl, rfl⟩
  case round =>
    obtain ⟨m, hx, hy, rfl, ht, rfl⟩ := hrel
    have hcm := compareM_drop xs ys m hx hy ht
    by_cases hlx : m < xs.length
    · obtain ⟨ad1, rfl, -, hc1⟩ := Nats.at h1 hlx
      have g1 : xs.getD m 0 = xs[m] := by rw [List.getD_eq_getElem?_getD, List.getElem?_eq_getElem hlx]; rfl
      rw [g1] at hc1
      have hlx1 : (m : Int) < (xs.length : Int) := by omega
      by_cases hly : m < ys.length
      · obtain ⟨ad2, rfl, -, hc2⟩ := Nats.at h2 hly
        have g2 : ys.getD m 0 = ys[m] := by rw [List.getD_eq_getElem?_getD, List.getElem?_eq_getElem hly]; rfl
        rw [g2] at hc2
        have hly1 : (m : Int) < (ys.length : Int) := by omega
        have htk : xs.take (m + 1) = xs.take m ++ [xs[m]] := List.take_succ_eq_append_getElem hlx
        have htl : ys.take (m + 1) = ys.take m ++ [ys[m]] := List.take_succ_eq_append_getElem hly
        rw [List.drop_eq_getElem_cons hlx, List.drop_eq_getElem_cons hly] at hcm
        simp only [compareM] at hcm
        revert hc1 hc2 htk htl hcm
        clear g1 g2
        generalize xs[m] = x
        generalize ys[m] = y
        intros
        rename compareM xs ys = _ => hcm
        rename xs.take (m + 1) = _ => htk
        rename ys.take (m + 1) = _ => htl
        have HTK := Lib.hid htk
        have HTL := Lib.hid htl
        have HT := Lib.hid ht
        clear htk htl ht
        by_cases hlt : x < y
        · rw [if_pos hlt] at hcm
          have HCM := Lib.hid hcm
          clear hcm
          have hcv : cmpInt x y = -1 := by unfold cmpInt; rw [if_pos (by omega)]
          have hcc := cmpCompare_any w x y
          rw [hcv] at hcc
          have HC := Lib.hid hcc
          clear hcc hcv hlt
          go_wp2_with (go_at_call 92; refine HC.out.mono ?_; rintro en w1 ⟨rfl, hw⟩; rw [hw])
          go_ret
          exact ⟨by rw [HCM.out]; rfl, rfl⟩
        · rw [if_neg hlt] at hcm
          by_cases hgt : y < x
          · rw [if_pos hgt] at hcm
            have HCM := Lib.hid hcm
            clear hcm
            have hcv : cmpInt x y = 1 := by unfold cmpInt; rw [if_neg (by omega), if_pos (by omega)]
            have hcc := cmpCompare_any w x y
            rw [hcv] at hcc
            have HC := Lib.hid hcc
            clear hcc hcv hlt hgt
            go_wp2_with (go_at_call 92; refine HC.out.mono ?_; rintro en w1 ⟨rfl, hw⟩; rw [hw])
            go_ret
            exact ⟨by rw [HCM.out]; rfl, rfl⟩
          · clear hcm
            obtain rfl : x = y := by omega
            have hcv : cmpInt x x = 0 := by unfold cmpInt; rw [if_neg (by omega), if_neg (by omega)]
            have hcc := cmpCompare_any w x x
            rw [hcv] at hcc
            have HC := Lib.hid hcc
            clear hcc hcv hlt hgt
            go_wp2_with (go_at_call 92; refine HC.out.mono ?_; rintro en w1 ⟨rfl, hw⟩; rw [hw])
            go_roundw
            case rel => exact ⟨m + 1, by omega, by omega, by go_num, by rw [HTK.out, HTL.out, HT.out], trivial⟩
            case measure => simp [intOf]; omega
      · have hgey : ¬ ((m : Int) < (ys.length : Int)) := by omega
        obtain rfl : ys.length = m := by omega
        rw [List.drop_length, List.drop_eq_getElem_cons hlx] at hcm
        simp only [compareM] at hcm
        have HCM := Lib.hid hcm
        clear hcm ht g1
        go_wp2
        go_ret
        exact ⟨by rw [HCM.out]; rfl, rfl⟩
    · have hgex : ¬ ((m : Int) < (xs.length : Int)) := by omega
      obtain rfl : xs.length = m := by omega
      by_cases hly : xs.length < ys.length
      · rw [List.drop_length, List.drop_eq_getElem_cons hly] at hcm
        simp only [compareM] at hcm
        have HCM := Lib.hid hcm
        have hly1 : (xs.length : Int) < (ys.length : Int) := by omega
        clear hcm ht
        go_wp2
        go_ret
        exact ⟨by rw [HCM.out]; rfl, rfl⟩
      · have hle : ys.length = xs.length := by omega
        have hd : ys.drop xs.length = [] := by rw [← hle]; exact List.drop_length
        rw [List.drop_length, hd] at hcm
        simp only [compareM] at hcm
        have HCM := Lib.hid hcm
        have hly1 : ¬ (xs.length : Int) < (ys.length : Int) := by omega
        clear hcm ht hle hd
        go_wp2
        go_ret
        exact ⟨by rw [HCM.out]; rfl, rfl⟩

#print axioms compare_any

end Go.Proofs.Ytngfoinceakgdaa

/- The library's slices.Repeat at one whole number. -/
import Derived.Test.YtngfoinceakgdaaReach
import Derived.Shelf.Bits.Mul64
import Derived.Test.YtngfoinceakgdaaLaid
import Derived.Laws.CopyOwn
import Derived.StillTailTactics
import Derived.Deep.RegionHeld3
namespace Go.Proofs.Ytngfoinceakgdaa
open Go.RowKit Go.Shelf


theorem splice_rep {x z : Value} (m n : Nat) : splice (List.replicate m x ++ List.replicate (n - m) z) m (List.replicate (Nat.min m (n - m)) x) = List.replicate (m + Nat.min m (n - m)) x ++ List.replicate (n - (m + Nat.min m (n - m))) z := by
  have h1 : Nat.min m (n - m) ≤ n - m := Nat.min_le_right _ _
  unfold splice
  rw [List.take_left' (by simp), List.drop_append, List.length_replicate, List.drop_eq_nil_of_le (by simp), List.nil_append, List.length_replicate, ← List.append_assoc, List.replicate_append_replicate, List.drop_replicate]
  congr 2
  omega

theorem rep_src {x z : Value} (m k n j : Nat) (v : Value) (h : (List.replicate (Nat.min m k) x)[j]? = some v) : (List.replicate m x ++ List.replicate n z)[j]? = some v := by
  rw [List.getElem?_replicate] at h
  split at h
  · rename_i hj
    have : j < m := Nat.lt_of_lt_of_le hj (Nat.min_le_left _ _)
    rw [List.getElem?_append_left (by simpa using this), List.getElem?_replicate, if_pos this]; exact h
  · cases h
theorem rep_fit (m n : Nat) : m + Nat.min m (n - m) ≤ m + (n - m) := Nat.add_le_add_left (Nat.min_le_right _ _) _

set_option maxRecDepth 100000 in
set_option maxHeartbeats 1000000 in
theorem repeat_any (w : World) (sb : Nat) (x : Int) (n : Nat) (h1 : 1 ≤ n) (hn : n ≤ 1000) (hb : Blk w sb 3 [.int .i64 x]) :
    Calls Try.prog 49 #[.slice (some ⟨sb, 0, none⟩) 1 1, .int .i64 (n : Int)] w fun en w' => ∃ g, en = .returned (.slice (some ⟨g, 0, none⟩) n n) ∧ Blk w' g 3 (List.replicate n (.int .i64 x)) ∧ w.heap.size ≤ g ∧ Below w.heap.size w w' := by
  have hmul := Any.bits_Mul Try.l212 1 n (by omega) (by omega) w
  have hmk := make_one (P := Try.prog) 27 3 (.int .i64 0) 8 Try.underlying27 info_int rfl n (by omega) (by omega)
  have e1 : (1 * n / 18446744073709551616 : Nat) = 0 := by rw [Nat.one_mul]; exact Nat.div_eq_of_lt (by omega)
  have e2 : (1 * n % 18446744073709551616 : Nat) = n := by rw [Nat.one_mul]; exact Nat.mod_eq_of_lt (by omega)
  rw [e1, e2] at hmul
  change Calls Try.prog 72 _ _ _ at hmul
  go_enter Try.func49, Try.ntmps49
  have hg0 : Blk (w.alloc (.cells (Array.replicate n (.int .i64 0)) 3)) w.heap.size 3 (List.replicate n (.int .i64 0)) := by
    have h := Blk.newAt (N := w.heap.size) w 3 (Array.replicate n (.int .i64 0)) rfl
    rwa [Array.toList_replicate] at h
  have hs0 := hb.alloc (.cells (Array.replicate n (.int .i64 0)) 3)
  have hb0 := (Below.refl w.heap.size w).alloc (Nat.le_refl _) (.cells (Array.replicate n (.int .i64 0)) 3)
  go_wp2_with (first
    | (go_at_call 72; refine hmul.mono ?_; rintro en w1 ⟨rfl, hw1⟩; rw [hw1])
    | ((with_reducible show wpList _ _ _ (⟨some 33, _, _, _, _, _⟩ :: _) _ _); refine wpList_copy_splice rfl (.tmp 31) (.tmp 32) 27 27 rfl 3 Try.underlying27 (by kernel_rfl) _ _ n n 1 1 rfl rfl w.heap.size 0 (List.replicate n (.int .i64 0)) 3 hg0 [.int .i64 x] (Nat.min_eq_left h1).symm (fun _ => ⟨rfl, _, rfl, fun j v hj => by rw [add_none]; exact hs0.cellAt hj⟩) (by simp; omega) (fun v hv => by simp at hv; subst hv; rfl) w.heap.size w hb0 (Nat.le_refl _) ?_))
  intro w2 hg2 hb2
  have hg3 : Blk w2 w.heap.size 3 (List.replicate 1 (.int .i64 x) ++ List.replicate (n - 1) (.int .i64 0)) := by
    have h := hg2.out
    have e : splice (List.replicate n (Value.int .i64 0)) 0 [.int .i64 x] = List.replicate 1 (.int .i64 x) ++ List.replicate (n - 1) (.int .i64 0) := by
      simp [splice]
    rw [e] at h
    exact h
  clear hg2 hmk hmul
  go_wp2
  go_loopw [8] (fun i wr => ∃ m : Nat, 1 ≤ m ∧ m ≤ n ∧ i = .int .i64 m ∧ Blk wr w.heap.size 3 (List.replicate m (.int .i64 x) ++ List.replicate (n - m) (.int .i64 0)) ∧ Below w.heap.size w wr) (fun i _ => n - (intOf i).toNat)
  case atStart => exact ⟨1, Nat.le_refl _, h1, rfl, hg3, hb2⟩
  case round =>
    obtain ⟨m, hm1, hmn, rfl, hg4, hb4⟩ := hrel
    clear hg3 hb2 hb0 hs0 hg0
    by_cases hlt : m < n
    · have hb5 := hb4.drew
      have hg5 := hg4.drew
      go_wp2
      go_region_held3 (fun _ => True) (trivial) ((refine step_copy_splice rfl (.tmp 41) (.tmp 44) 27 27 rfl 3 Try.underlying27 (by kernel_rfl) _ _ (n - m) (n - m) m n rfl rfl w.heap.size m _ 3 hg5 (List.replicate (Nat.min m (n - m)) (.int .i64 x)) (by simp) (fun _ => ⟨if_neg (by omega), _, rfl, fun j v hj => by (rw [add_none]; exact hg5.cellAt (rep_src _ _ _ _ _ hj))⟩) (by have := Nat.min_le_right m (n - m); simp only [List.length_append, List.length_replicate]; exact rep_fit _ _) (fun v hv => by obtain ⟨_, rfl⟩ := List.mem_replicate.1 hv; rfl) w.heap.size w hb5 (Nat.le_refl _) ?_; intro w5 hg6 hb6))
      have hg7 : Blk w5 w.heap.size 3 (List.replicate (m + Nat.min m (n - m)) (.int .i64 x) ++ List.replicate (n - (m + Nat.min m (n - m))) (.int .i64 0)) := by
        have h := hg6.out
        rw [splice_rep] at h
        exact h
      have hmin : 1 ≤ Nat.min m (n - m) ∧ m + Nat.min m (n - m) ≤ n := by
        have h1 : Nat.min m (n - m) ≤ n - m := Nat.min_le_right _ _
        have h2 : 1 ≤ Nat.min m (n - m) := Nat.le_min.2 ⟨by omega, by omega⟩
        omega
      clear hg6 hg5
      revert hg7 hmin
      generalize Nat.min m (n - m) = q
      intro hg7 hmin
      have hwr : IntKind.i64.wrap ((m : Int) + (q : Int)) = ((m + q : Nat) : Int) := by rw [IntKind.wrap_i64]; omega
      rw [hwr]
      go_wp2
      go_roundw
      case rel => exact ⟨m + q, by omega, by omega, rfl, hg7, hb6⟩
      case measure => simp [intOf]; omega
    · obtain rfl : m = n := by omega
      go_wp2
      go_ret
      exact ⟨_, rfl, by simpa using hg4, Nat.le_refl _, hb4⟩

#print axioms repeat_any

end Go.Proofs.Ytngfoinceakgdaa

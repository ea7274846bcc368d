/- The law WtoParses, walked. -/
import Derived.Test.YthaampinmelgaaaDoorParseBad
import Derived.Test.YthaampinmelgaaaDoorRParse
import Derived.Test.YthaampinmelgaaaDoorNest
namespace Go.Proofs.YthaampinmelgaaaDoor
open Go.RowKit Go.Shelf

/-- Both Parses give the same. -/
theorem parse_pair (b : ByteArray) (hb : b.size ≤ 400 ∨ 65536 < b.size) : ∃ (l : List El) (at_ e : Int),
    (∀ w : World, Calls Tryd.prog 19 #[.string b] w fun en w' => ∃ v, en = .returned (.tuple #[v, .int .i64 at_, .int .i64 e]) ∧ EL w' v l ∧ Below w.heap.size w w') ∧
    (∀ w : World, Calls Tryd.prog 20 #[.string b] w fun en w' => ∃ v, en = .returned (.tuple #[v, .int .i64 at_, .int .i64 e]) ∧ EL w' v l ∧ Below w.heap.size w w') := by
  rcases hb with hb | hb
  · have hr := fun w => rparse_any (b := b) (by omega) w
    cases h : parseL b 65 (b.size + 1) 0 [] with
    | ok l =>
      refine ⟨l, 0, 0, fun w => ?_, fun w => ?_⟩
      · refine (parse_ok (b := b) (by omega) 65 w l h).mono ?_
        rintro en w' ⟨v, rfl, h1, h2⟩
        exact ⟨v, rfl, h1.mono (fun b hb => hb.2.lt), h2⟩
      · have := hr w
        rw [h] at this
        refine this.mono ?_
        rintro en w' ⟨v, rfl, h1, h2⟩
        exact ⟨v, rfl, h1.mono (fun b hb => hb.2.lt), h2⟩
    | error er =>
      obtain ⟨a', e⟩ := er
      refine ⟨[], a', e, fun w => ?_, fun w => ?_⟩
      · refine (parse_bad (b := b) (by omega) w a' e h).mono ?_
        rintro en w' ⟨rfl, h2⟩
        exact ⟨_, rfl, Els.nil, h2⟩
      · have := hr w
        rw [h] at this
        refine this.mono ?_
        rintro en w' ⟨rfl, h2⟩
        exact ⟨_, rfl, Els.nil, h2⟩
  · refine ⟨[], 0, 13, fun w => ?_, fun w => ?_⟩
    · refine (parse_long (b := b) hb w).mono ?_
      rintro en w' ⟨rfl, h2⟩
      exact ⟨_, rfl, Els.nil, h2⟩
    · refine (rparse_long (b := b) hb w).mono ?_
      rintro en w' ⟨rfl, h2⟩
      exact ⟨_, rfl, Els.nil, h2⟩

set_option maxRecDepth 100000 in
set_option maxHeartbeats 4000000 in
theorem parsesL_any (w : World) (b : ByteArray) (_ : b.size ≤ maxLen) :
    Calls Tryd.prog 5 #[.string b] w fun en w' => en = .returned (.bool true) ∧ Below w.heap.size w w' := by
  by_cases hb : b.size ≤ 400 ∨ 65536 < b.size
  · obtain ⟨l, at_, e, h1, h2⟩ := parse_pair b hb
    have H1 := Lib.hid h1
    have H2 := Lib.hid h2
    have hway : (decide ((400 : Int) < (b.size : Int)) = false ∧ decide (400 < b.size) = false) ∨ (decide ((400 : Int) < (b.size : Int)) = true ∧ decide (400 < b.size) = true ∧ decide ((b.size : Int) ≤ 65536) = false ∧ decide (b.size ≤ 65536) = false) := by
      rcases hb with hb | hb
      · exact .inl ⟨by rw [decide_eq_false_iff_not]; omega, by rw [decide_eq_false_iff_not]; omega⟩
      · exact .inr ⟨by rw [decide_eq_true_iff]; omega, by rw [decide_eq_true_iff]; omega, by rw [decide_eq_false_iff_not]; omega, by rw [decide_eq_false_iff_not]; omega⟩
    clear hb h1 h2
    rcases hway with ⟨hw1, hw2⟩ | ⟨hw1, hw2, hw3, hw4⟩
    all_goals
      go_enter Tryd.func5, Tryd.ntmps5
      go_upto_region 5 with (first
        | (go_at_call 19; refine (H1.out w).mono ?_; rintro en w1 ⟨v1, rfl, he1, hb1⟩)
        | (go_at_call 20; refine (H2.out w1).mono ?_; rintro en w2 ⟨v2, rfl, he2, hb2⟩; have he1' : Els (fun b => b < w2.heap.size) w2 v1 l := he1.step hb2; have hbb := hb1.trans (hb2.mono hb1.size)))
      go_wp2_with (first
        | (go_at_call 15; refine (of_any he1' w2 (fun _ _ => rfl) (fun _ h => h)).mono ?_; rintro en w3 ⟨v3, rfl, hv3, hb3⟩; have he2' : Els (fun b => b < w3.heap.size) w3 v2 l := he2.step hb3; have hb33 := hbb.trans (hb3.mono hbb.size))
        | (go_at_call 14; refine (same_true hv3 he2' w3 (fun _ => rfl)).mono ?_; rintro en w4 ⟨rfl, k4, rfl⟩; have hb4 := below_drewN' hb33 k4)
        | (go_at_call 11; refine (awake_any _).mono ?_; rintro en w5 ⟨rfl, hw5⟩; have hb5 := hb4.trans (hw5.mono hb4.size)))
      go_ret
      exact ⟨rfl, hb5⟩
  · have hw1 : decide ((400 : Int) < (b.size : Int)) = true := by rw [decide_eq_true_iff]; omega
    have hw2 : decide (400 < b.size) = true := by rw [decide_eq_true_iff]; omega
    have hw3 : decide ((b.size : Int) ≤ 65536) = true := by rw [decide_eq_true_iff]; omega
    have hw4 : decide (b.size ≤ 65536) = true := by rw [decide_eq_true_iff]; omega
    clear hb
    go_enter Tryd.func5, Tryd.ntmps5
    go_wp2_with (go_at_call 11; refine (awake_any w).mono ?_; rintro en w2 ⟨rfl, hw2'⟩)
    go_ret
    exact ⟨rfl, hw2'⟩
end Go.Proofs.YthaampinmelgaaaDoor

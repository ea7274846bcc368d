/- Few elements are counted; the guard of the laws. -/
import Derived.Test.YthaampinmelgaaaGreatDoorOf
import Derived.Deep.QuietTactic
import Derived.BigQuiet
import Derived.Test.YthaampinmelgaaaGreatDoorAwk
import Derived.Test.YthaampinmelgaaaGreatDoorGV
import Derived.Test.YthaampinmelgaaaGreatDoorWtoL
import Derived.Test.YthaampinmelgaaaGreatDoorWithin
namespace Go.Proofs.YthaampinmelgaaaGreatDoor
open Go.RowKit Go.Shelf

mutual
def El.cnt : El → Int → Int
  | .mk _ _ b, k => cntGo b (k - (b.length : Int))
def cntGo : List El → Int → Int
  | [], k => k
  | x :: r, k => if k < 0 then k else cntGo r (x.cnt k)
end
theorem El.cnt_mk (p : Int) (c : Bool) (b : List El) (k : Int) : (El.mk p c b).cnt k = cntGo b (k - (b.length : Int)) := by simp [El.cnt]
theorem cntGo_nil (k : Int) : cntGo [] k = k := by simp [cntGo]
theorem cntGo_cons (x : El) (r : List El) (k : Int) : cntGo (x :: r) k = if k < 0 then k else cntGo r (x.cnt k) := by simp [cntGo]
theorem cntGo_neg {l : List El} {k : Int} (h : k < 0) : cntGo l k = k := by
  cases l with
  | nil => exact cntGo_nil k
  | cons x r => rw [cntGo_cons, if_pos h]
theorem len_pts : ∀ l : List El, l.length ≤ (ptsL l).length
  | [] => by simp
  | .mk p c b :: l => by
    have := len_pts l
    rw [ptsL_cons, El.pts_mk]
    simp
    omega
mutual
theorem El.cnt_ok : ∀ (x : El) (k : Int), ((x.pts.length : Int) - 1 ≤ k → x.cnt k = k - (x.pts.length - 1)) ∧ (k < (x.pts.length : Int) - 1 → x.cnt k < 0)
  | .mk p c b, k => by
    have h := cntGo_ok b (k - (b.length : Int))
    have hl := len_pts b
    rw [El.cnt_mk, El.pts_mk]
    simp only [List.length_cons]
    constructor
    · intro h1
      rw [h.1 (by omega)]
      omega
    · intro h1
      exact h.2 (by omega)
theorem cntGo_ok : ∀ (l : List El) (k : Int), (((ptsL l).length : Int) - l.length ≤ k → cntGo l k = k - (((ptsL l).length : Int) - l.length)) ∧ (k < ((ptsL l).length : Int) - l.length → cntGo l k < 0)
  | [], k => by
    rw [cntGo_nil, ptsL_nil]
    simp
  | x :: l, k => by
    have hx := El.cnt_ok x k
    have h := cntGo_ok l (x.cnt k)
    have hl := len_pts l
    have hp : 1 ≤ x.pts.length := by cases x; rw [El.pts_mk]; simp
    rw [cntGo_cons, ptsL_cons, List.length_append, List.length_cons]
    by_cases hk : k < 0
    · rw [if_pos hk]
      exact ⟨fun h1 => by omega, fun _ => hk⟩
    · rw [if_neg hk]
      by_cases hx1 : (x.pts.length : Int) - 1 ≤ k
      · rw [hx.1 hx1] at h ⊢
        exact ⟨fun h1 => by rw [h.1 (by omega)]; omega, fun h1 => h.2 (by omega)⟩
      · have := hx.2 (by omega)
        rw [cntGo_neg this]
        exact ⟨fun h1 => by omega, fun _ => this⟩
end
/-- A count of elements. -/
def cntV (l : List El) (k : Int) : Int := cntGo l (k - (l.length : Int))
theorem cntV_pos {l : List El} {k : Int} : (0 ≤ k → ((0 ≤ cntV l k) ↔ ((ptsL l).length : Int) ≤ k)) := by
  intro hk
  unfold cntV
  have h := cntGo_ok l (k - (l.length : Int))
  constructor
  · intro h1
    by_cases h2 : ((ptsL l).length : Int) ≤ k
    · exact h2
    · have := h.2 (by omega); omega
  · intro h1
    rw [h.1 (by omega)]
    omega

set_option maxRecDepth 100000 in
set_option maxHeartbeats 4000000 in
theorem count_any {P : Nat → Prop} {w : World} {v : Value} {l : List El} (h : Els P w v l) : ∀ W : World, (∀ p : Addr, W.cell? p = w.cell? p) → ∀ k : Int, 0 ≤ k → k ≤ 1000000 →
    Calls Tryz.prog 28 #[v, .int .i64 k] W fun en w' => en = .returned (.int .i64 (cntV l k)) ∧ (-4000000000000 ≤ cntV l k ∧ cntV l k ≤ k) ∧ w' = W := by
  induction h with
  | mk A c l us hlc hm hz hc hr ih =>
    intro W hW k hk0 hk1
    have HC := Lib.hid hc
    have HIH := Lib.hid ih
    have HR := Lib.hid hr
    have HW := Lib.hid hW
    have hl63 : l.length ≤ 9223372036854775807 := by unfold maxLen at hm; omega
    have hl4 : (l.length : Int) ≤ 3600000000000 := by omega
    have hwn : IntKind.i64.wrap (k - (l.length : Int)) = k - (l.length : Int) := IntWalk.i64_in _ (by omega)
    obtain ⟨q0, hq0⟩ : ∃ q0 : Int, k - (l.length : Int) = q0 := ⟨_, rfl⟩
    have hcv : cntV l k = cntGo l q0 := by unfold cntV; rw [hq0]
    have hb1 : -4000000000000 ≤ q0 := by omega
    have hb2 : q0 ≤ k := by omega
    rw [hcv]
    clear hc hr ih hW hm hwn hcv
    go_enter Tryz.func28, Tryz.ntmps28
    go_wp2
    have HB1 := Lib.hid hb1
    have HB2 := Lib.hid hb2
    have HK1 := Lib.hid hk1
    clear hq0 hb1 hb2 hl4 hk0 hk1
    go_loopw [1, 5] (fun x y wr => ∃ (m : Nat) (q : Int), m ≤ l.length ∧ x = .int .i64 q ∧ y = .int .i64 m ∧ Hid (cntGo (l.drop m) q = cntGo l q0 ∧ -4000000000000 ≤ q ∧ q ≤ k) ∧ wr = W) (fun _ y _ => l.length - (intOf y).toNat)
    case atStart => exact ⟨0, q0, Nat.zero_le _, rfl, rfl, Lib.hid ⟨by rw [List.drop_zero], HB1.out, HB2.out⟩, rfl⟩
    case round =>
      obtain ⟨m, q, hm, rfl, rfl, HQ, rfl⟩ := hrel
      by_cases hlt : m < l.length
      · have hlt1 : (m : Int) < (l.length : Int) := by omega
        have hdr : l.drop m = l[m] :: l.drop (m + 1) := List.drop_eq_getElem_cons hlt
        by_cases hq : 0 ≤ q
        · obtain ⟨ad, hA, hPad, e0, e1, e2, hI⟩ := HC.out m l[m] (List.getElem?_eq_getElem hlt)
          have hih := HIH.out m l[m] (List.getElem?_eq_getElem hlt) wr HW.out q hq (by have := HQ.out.2.2; have := HK1.out; omega)
          obtain ⟨Au, cu, hu, -⟩ := (HR.out m l[m] (List.getElem?_eq_getElem hlt)).shape
          subst hA
          rw [hu] at e2 hih
          rw [← add_add', addrTwo] at e2
          have c2 := (HW.out _).trans e2
          have hnx : cntGo (l.drop (m + 1)) (cntV l[m].body q) = cntGo l q0 := by
            have h1 := HQ.out.1
            rw [hdr, cntGo_cons, if_neg (by omega)] at h1
            rw [← h1]
            generalize l[m] = x
            cases x
            rw [El.cnt_mk]
            rfl
          have HNX := Lib.hid hnx
          have HI := Lib.hid hih
          clear hdr hu e0 e1 e2 hI hPad hih hnx
          revert c2 HNX HI
          generalize cntV l[m].body q = q2
          generalize l[m].body = body
          intro c2 HNX HI
          go_wp2_with (go_at_call 28; refine HI.out.mono ?_; rintro en w5 ⟨rfl, hb5, rfl⟩)
          go_roundw
          case rel => exact ⟨m + 1, q2, by omega, rfl, by go_num, Lib.hid ⟨HNX.out, hb5.1, Int.le_trans hb5.2 HQ.out.2.2⟩, trivial⟩
          case measure => simp [intOf]; omega
        · have hneg : decide (0 ≤ q) = false := by rw [decide_eq_false_iff_not]; exact hq
          have hfin : cntGo l q0 = q := by rw [← HQ.out.1, cntGo_neg (by omega)]
          have HF := Lib.hid hfin
          clear hfin hdr
          go_wp2
          go_ret
          exact ⟨by rw [HF.out]; rfl, by rw [HF.out]; exact HQ.out.2, rfl⟩
      · obtain rfl : m = l.length := by omega
        have hfin : cntGo l q0 = q := by rw [← HQ.out.1, List.drop_length, cntGo_nil]
        have HF := Lib.hid hfin
        clear hfin
        go_wp2
        go_ret
        exact ⟨by rw [HF.out]; rfl, by rw [HF.out]; exact HQ.out.2, rfl⟩
/-- few: at most sixty elements. -/
theorem few_el {P : Nat → Prop} {w : World} {v : Value} {l : List El} (h : Els P w v l) (hP : ∀ b, P b → b < w.heap.size) :
    Calls Tryz.prog 8 #[v] w fun en w' => en = .returned (.bool (decide ((ptsL l).length ≤ 60))) ∧ Below w.heap.size w w' := by
  have hof := of_any h w (fun _ _ => rfl) hP
  have hd : decide (0 ≤ cntV l 60) = decide ((ptsL l).length ≤ 60) := by
    have := cntV_pos (l := l) (k := 60) (by omega)
    rw [decide_eq_decide, this]
    omega
  have HOF := Lib.hid hof
  have HD := Lib.hid hd
  clear hof hd
  go_enter Tryz.func8, Tryz.ntmps8
  go_wp2_with (first | (go_at_call 29; refine HOF.out.mono ?_; rintro en w1 ⟨vo, rfl, h1, hb1⟩) | (go_at_call 28; refine (count_any h1 w1 (fun _ => rfl) 60 (by omega) (by omega)).mono ?_; rintro en w2 ⟨rfl, -, rfl⟩))
  go_ret
  exact ⟨by rw [← HD.out]; rfl, hb1⟩
end Go.Proofs.YthaampinmelgaaaGreatDoor

namespace Go.Proofs.YthaampinmelgaaaGreatDoor
open Go.RowKit Go.Shelf

/-- right: few, and no error. -/
theorem right_any (w : World) (v : Value) (n exit : Int) (es : List (Int × Int)) (hv : Edges w.heap.size w v es) :
    Calls Tryz.prog 4 #[.agg #[.int .i64 n, .int .i64 exit, v]] w fun en w' => en = .returned (.bool (few n es && decide (chk n exit es = 0))) ∧ Below w.heap.size w w' := by
  have hfw := fun (W : World) (h : GV w W n exit v) => few_any W.heap.size W n exit v es (h.edges hv)
  have hrc := fun (W : World) (h : GV w W n exit v) => rcheck_any W.heap.size W n exit v es (h.edges hv) (Nat.le_refl _)
  have hg0 := GV.start w n exit v
  have HF := Lib.hid hfw
  have HR := Lib.hid hrc
  obtain ⟨A, c, rfl, hlc, -, hm, -⟩ := hv.shape
  clear hfw hrc hv
  cases hb : few n es with
  | false =>
    rw [hb] at HF
    clear hb
    go_enter Tryz.func4, Tryz.ntmps4
    go_wp2_with (go_at_call 10; refine (HF.out _ hg0).mono ?_; rintro en w1 ⟨rfl, hw1⟩; have hg1 := hg0.step hw1)
    go_ret
    exact ⟨rfl, hg1.bel⟩
  | true =>
    rw [hb] at HF
    clear hb
    obtain ⟨e, he⟩ : ∃ e, chk n exit es = e := ⟨_, rfl⟩
    rw [he] at HR ⊢
    clear he
    go_enter Tryz.func4, Tryz.ntmps4
    go_wp2_with (first
      | (go_at_call 10; refine (HF.out _ hg0).mono ?_; rintro en w1 ⟨rfl, hw1⟩; have hg1 := hg0.step hw1; obtain ⟨c0, c1, c2⟩ := hg1.cells)
      | (go_at_call 11; refine (HR.out _ hg1).mono ?_; rintro en w2 ⟨rfl, hw2⟩; have hg2 := hg1.step hw2))
    go_ret
    exact ⟨by rw [Bool.true_and]; rfl, hg2.bel⟩

theorem Ints.ofOwn {w : World} {base : Nat} {e : TypeId} {v : Value} {xs : List Int} (h : w.ownsRow base e 1 v xs.length (xs.map (Value.int .i64))) : Ints w.heap.size w v xs := Sl.of_own (R := RInt) (Value.int .i64) (fun _ _ => rfl) h
theorem len_of_range : ∀ {N : Nat} {l : List Int}, l.Nodup → (∀ p ∈ l, 0 ≤ p ∧ p < (N : Int)) → l.length ≤ N
  | 0, l, _, h => by
    cases l with
    | nil => simp
    | cons x r => have := h x List.mem_cons_self; omega
  | N + 1, l, hn, h => by
    have h1 := len_of_range (N := N) (l := l.filter fun p => decide (p ≠ (N : Int))) (hn.filter _) (fun p hp => by
      obtain ⟨h1, h2⟩ := List.mem_filter.1 hp
      have := h p h1
      simp at h2
      omega)
    have h2 : l.length ≤ (l.filter fun p => decide (p ≠ (N : Int))).length + 1 := by
      clear h1 h
      induction l with
      | nil => simp
      | cons x r ih =>
        rw [List.nodup_cons] at hn
        by_cases hx : x = (N : Int)
        · subst hx
          have : r.filter (fun p => decide (p ≠ (N : Int))) = r := by
            rw [List.filter_eq_self]
            intro a ha
            simp
            rintro rfl
            exact hn.1 ha
          rw [List.filter_cons_of_neg (by simp), this]
          simp
        · rw [List.filter_cons_of_pos (by simpa using hx)]
          have := ih hn.2
          simp only [List.length_cons]
          omega
    omega

end Go.Proofs.YthaampinmelgaaaGreatDoor

/- The reference's text of an int and of elements; the law WtoLists, walked. -/
import Derived.Test.YthaampinmelgaaaDoorFormat
import Derived.Test.YthaampinmelgaaaDoorRefL
import Derived.Test.YthaampinmelgaaaDoorNest
import Derived.Lib.LaidTab
import Derived.Lib.ItoaLen
import Derived.Stop.LaidErr
import Derived.Lib.AppendIntMem
/-! The reference's text of an int, and of elements. -/
namespace Go.Proofs.YthaampinmelgaaaDoor
open Go.RowKit Go.Shelf

/-- The digits of n, when those of m are still to be written ahead of out. -/
def DigI (n m : Int) (out : List UInt8) : Prop := (m ≠ 0 → Lib.decDigits n.natAbs = Lib.decDigits m.natAbs ++ out) ∧ (m = 0 → Lib.decDigits n.natAbs = out)
theorem dig_next {n m r q : Int} {d : Nat} {out : List UInt8} (h : DigI n m out) (hm : m ≠ 0) (hr : Int.tmod m 10 = r) (hq : Int.tdiv m 10 = q) (hd : r.natAbs = d) : DigI n q (UInt8.ofNat (48 + d) :: out) := by
  have h1 := h.1 hm
  have hmd : Lib.decDigits m.natAbs = if m.natAbs < 10 then [UInt8.ofNat (48 + m.natAbs)] else Lib.decDigits (m.natAbs / 10) ++ [UInt8.ofNat (48 + m.natAbs % 10)] := by
    conv => lhs; rw [Lib.decDigits]
    split <;> rfl
  have hqn : q.natAbs = m.natAbs / 10 := by rw [← hq, Int.natAbs_tdiv]; rfl
  have hrn : d = m.natAbs % 10 := by rw [← hd, ← hr, Int.natAbs_tmod]; rfl
  rw [hmd] at h1
  constructor
  · intro hq0
    have hge : ¬ m.natAbs < 10 := by omega
    rw [if_neg hge] at h1
    rw [h1, hqn, hrn]
    simp
  · intro hq0
    have hlt : m.natAbs < 10 := by omega
    rw [if_pos hlt] at h1
    rw [h1]
    have : m.natAbs = d := by omega
    rw [this]
    rfl
/-- There is room for the digits. -/
def LenI (n m : Int) (out : List UInt8) : Prop := (m ≠ 0 → 2 * out.length + m.natAbs ≤ n.natAbs) ∧ 2 * out.length + m.natAbs ≤ n.natAbs + 1
theorem len_next {n m q : Int} {out : List UInt8} {c : UInt8} (h : LenI n m out) (hm : m ≠ 0) (hq : Int.tdiv m 10 = q) : LenI n q (c :: out) := by
  have h1 := h.1 hm
  have hqn : q.natAbs = m.natAbs / 10 := by rw [← hq, Int.natAbs_tdiv]; rfl
  have hmz : m.natAbs ≠ 0 := by omega
  constructor
  · intro hq0
    rw [List.length_cons]
    omega
  · rw [List.length_cons]
    omega
abbrev digTab : ByteArray := ⟨#[48, 49, 50, 51, 52, 53, 54, 55, 56, 57]⟩
theorem dig_ext : ∀ d : Nat, d < 10 → digTab.extract d (d + 1) = ⟨[UInt8.ofNat (48 + d)].toArray⟩
  | 0, _ => rfl
  | 1, _ => rfl
  | 2, _ => rfl
  | 3, _ => rfl
  | 4, _ => rfl
  | 5, _ => rfl
  | 6, _ => rfl
  | 7, _ => rfl
  | 8, _ => rfl
  | 9, _ => rfl
theorem dig_app {d : Nat} (hd : d < 10) (out : List UInt8) : (⟨(UInt8.ofNat (48 + d) :: out).toArray⟩ : ByteArray) = digTab.extract d (d + 1) ++ ⟨out.toArray⟩ := by
  rw [dig_ext d hd, ba_append]
  rfl
theorem tmod_cases (m : Int) : ∃ r q : Int, Int.tmod m 10 = r ∧ Int.tdiv m 10 = q ∧ -9 ≤ r ∧ r ≤ 9 ∧ m = 10 * q + r := by
  have h1 : (Int.tmod m 10).natAbs < 10 := by
    rw [Int.natAbs_tmod]
    exact Nat.mod_lt _ (by decide)
  refine ⟨_, _, rfl, rfl, ?_, ?_, ?_⟩
  · omega
  · omega
  · exact (Int.mul_tdiv_add_tmod m 10).symm

set_option maxRecDepth 100000 in
set_option maxHeartbeats 4000000 in
theorem whole_any (n : Int) (hn : InI64 n) (w : World) :
    Calls Tryd.prog 59 #[.int .i64 n] w fun en w' => en = .returned (strV (Lib.itoa n)) ∧ ∃ k, w' = w.drewN k := by
  by_cases h0 : n = 0
  · subst h0
    go_enter Tryd.func59, Tryd.ntmps59
    go_wp2
    go_ret
    exact ⟨by kernel_rfl, 0, rfl⟩
  · have hb : (n == 0) = false := by simpa using h0
    have HN := Lib.hid hn
    clear hn
    go_enter Tryd.func59, Tryd.ntmps59
    go_wp2
    go_loopw [3, 4] (fun x y wr => ∃ (m : Int) (out : List UInt8), strV out = x ∧ y = .int .i64 m ∧ Hid (InI64 m ∧ DigI n m out ∧ LenI n m out) ∧ ∃ k, wr = w.drewN k) (fun _ y _ => (intOf y).natAbs)
    case atStart => exact ⟨n, [], rfl, rfl, Lib.hid ⟨HN.out, ⟨fun _ => by simp, fun e => absurd e h0⟩, ⟨fun _ => by simp, by simp⟩⟩, 0, rfl⟩
    case round =>
      obtain ⟨m, out, rfl, rfl, HM, nq, rfl⟩ := hrel
      by_cases hm : m = 0
      · subst hm
        have hfin := HM.out.2.1.2 rfl
        have hs1 : ¬ 9223372036854775807 < 1 + out.length := by
          have h1 := HM.out.2.2.2
          have h2 := HN.out
          unfold InI64 at h2
          omega
        have HF := Lib.hid hfin
        clear hfin HM
        by_cases hneg : n < 0
        · have hd : decide (n < 0) = true := decide_eq_true hneg
          have hit : Lib.itoa n = 45 :: Lib.decDigits n.natAbs := by unfold Lib.itoa; rw [if_pos hneg]
          have HI := Lib.hid hit
          clear hit
          go_wp2
          go_ret
          exact ⟨by rw [HI.out, HF.out]; rfl, nq, rfl⟩
        · have hd : decide (n < 0) = false := decide_eq_false hneg
          have hit : Lib.itoa n = Lib.decDigits n.natAbs := by unfold Lib.itoa; rw [if_neg hneg]; congr 1; omega
          have HI := Lib.hid hit
          clear hit
          go_wp2
          go_ret
          exact ⟨by rw [HI.out, HF.out]; rfl, nq, rfl⟩
      · have hmb : (m == 0) = false := by simpa using hm
        obtain ⟨r, q, hr, hq, hr1, hr2, hmq⟩ := tmod_cases m
        have hnx := dig_next HM.out.2.1 hm hr hq rfl
        have hln := fun c => len_next (c := c) HM.out.2.2 hm hq
        have hs1 : ¬ 9223372036854775807 < 1 + out.length := by
          have h1 := HM.out.2.2.2
          have h2 := HN.out
          unfold InI64 at h2
          omega
        have HLN := Lib.hid hln
        have hqi : InI64 q := by have := HM.out.1; unfold InI64 at this ⊢; omega
        have hms : q.natAbs < m.natAbs := by
          have : q.natAbs = m.natAbs / 10 := by rw [← hq, Int.natAbs_tdiv]; rfl
          have : m.natAbs ≠ 0 := by omega
          omega
        have hmn : (m != 0) = true := by simpa using hm
        have HNX := Lib.hid hnx
        have HQI := Lib.hid hqi
        have HMS := Lib.hid hms
        have hmi := HM.out.1
        unfold InI64 at hmi hqi
        have hcs : r = -9 ∨ r = -8 ∨ r = -7 ∨ r = -6 ∨ r = -5 ∨ r = -4 ∨ r = -3 ∨ r = -2 ∨ r = -1 ∨ r = 0 ∨ r = 1 ∨ r = 2 ∨ r = 3 ∨ r = 4 ∨ r = 5 ∨ r = 6 ∨ r = 7 ∨ r = 8 ∨ r = 9 := by omega
        clear hnx hln hms hmq HM HN hr1 hr2
        rcases hcs with rfl | rfl | rfl | rfl | rfl | rfl | rfl | rfl | rfl | rfl | rfl | rfl | rfl | rfl | rfl | rfl | rfl | rfl | rfl
        · have hmx : max (-9 : Int) (9) = 9 := by decide
          go_wp2
          go_roundw
          case rel => exact ⟨q, _, congrArg Value.string (dig_app (d := 9) (by decide) out), by go_num, Lib.hid ⟨HQI.out, HNX.out, HLN.out _⟩, nq, rfl⟩
          case measure => have := HMS.out; simp [intOf]; omega
        · have hmx : max (-8 : Int) (8) = 8 := by decide
          go_wp2
          go_roundw
          case rel => exact ⟨q, _, congrArg Value.string (dig_app (d := 8) (by decide) out), by go_num, Lib.hid ⟨HQI.out, HNX.out, HLN.out _⟩, nq, rfl⟩
          case measure => have := HMS.out; simp [intOf]; omega
        · have hmx : max (-7 : Int) (7) = 7 := by decide
          go_wp2
          go_roundw
          case rel => exact ⟨q, _, congrArg Value.string (dig_app (d := 7) (by decide) out), by go_num, Lib.hid ⟨HQI.out, HNX.out, HLN.out _⟩, nq, rfl⟩
          case measure => have := HMS.out; simp [intOf]; omega
        · have hmx : max (-6 : Int) (6) = 6 := by decide
          go_wp2
          go_roundw
          case rel => exact ⟨q, _, congrArg Value.string (dig_app (d := 6) (by decide) out), by go_num, Lib.hid ⟨HQI.out, HNX.out, HLN.out _⟩, nq, rfl⟩
          case measure => have := HMS.out; simp [intOf]; omega
        · have hmx : max (-5 : Int) (5) = 5 := by decide
          go_wp2
          go_roundw
          case rel => exact ⟨q, _, congrArg Value.string (dig_app (d := 5) (by decide) out), by go_num, Lib.hid ⟨HQI.out, HNX.out, HLN.out _⟩, nq, rfl⟩
          case measure => have := HMS.out; simp [intOf]; omega
        · have hmx : max (-4 : Int) (4) = 4 := by decide
          go_wp2
          go_roundw
          case rel => exact ⟨q, _, congrArg Value.string (dig_app (d := 4) (by decide) out), by go_num, Lib.hid ⟨HQI.out, HNX.out, HLN.out _⟩, nq, rfl⟩
          case measure => have := HMS.out; simp [intOf]; omega
        · have hmx : max (-3 : Int) (3) = 3 := by decide
          go_wp2
          go_roundw
          case rel => exact ⟨q, _, congrArg Value.string (dig_app (d := 3) (by decide) out), by go_num, Lib.hid ⟨HQI.out, HNX.out, HLN.out _⟩, nq, rfl⟩
          case measure => have := HMS.out; simp [intOf]; omega
        · have hmx : max (-2 : Int) (2) = 2 := by decide
          go_wp2
          go_roundw
          case rel => exact ⟨q, _, congrArg Value.string (dig_app (d := 2) (by decide) out), by go_num, Lib.hid ⟨HQI.out, HNX.out, HLN.out _⟩, nq, rfl⟩
          case measure => have := HMS.out; simp [intOf]; omega
        · have hmx : max (-1 : Int) (1) = 1 := by decide
          go_wp2
          go_roundw
          case rel => exact ⟨q, _, congrArg Value.string (dig_app (d := 1) (by decide) out), by go_num, Lib.hid ⟨HQI.out, HNX.out, HLN.out _⟩, nq, rfl⟩
          case measure => have := HMS.out; simp [intOf]; omega
        · have hmx : max (0 : Int) (0) = 0 := by decide
          go_wp2
          go_roundw
          case rel => exact ⟨q, _, congrArg Value.string (dig_app (d := 0) (by decide) out), by go_num, Lib.hid ⟨HQI.out, HNX.out, HLN.out _⟩, nq, rfl⟩
          case measure => have := HMS.out; simp [intOf]; omega
        · have hmx : max (1 : Int) (-1) = 1 := by decide
          go_wp2
          go_roundw
          case rel => exact ⟨q, _, congrArg Value.string (dig_app (d := 1) (by decide) out), by go_num, Lib.hid ⟨HQI.out, HNX.out, HLN.out _⟩, nq, rfl⟩
          case measure => have := HMS.out; simp [intOf]; omega
        · have hmx : max (2 : Int) (-2) = 2 := by decide
          go_wp2
          go_roundw
          case rel => exact ⟨q, _, congrArg Value.string (dig_app (d := 2) (by decide) out), by go_num, Lib.hid ⟨HQI.out, HNX.out, HLN.out _⟩, nq, rfl⟩
          case measure => have := HMS.out; simp [intOf]; omega
        · have hmx : max (3 : Int) (-3) = 3 := by decide
          go_wp2
          go_roundw
          case rel => exact ⟨q, _, congrArg Value.string (dig_app (d := 3) (by decide) out), by go_num, Lib.hid ⟨HQI.out, HNX.out, HLN.out _⟩, nq, rfl⟩
          case measure => have := HMS.out; simp [intOf]; omega
        · have hmx : max (4 : Int) (-4) = 4 := by decide
          go_wp2
          go_roundw
          case rel => exact ⟨q, _, congrArg Value.string (dig_app (d := 4) (by decide) out), by go_num, Lib.hid ⟨HQI.out, HNX.out, HLN.out _⟩, nq, rfl⟩
          case measure => have := HMS.out; simp [intOf]; omega
        · have hmx : max (5 : Int) (-5) = 5 := by decide
          go_wp2
          go_roundw
          case rel => exact ⟨q, _, congrArg Value.string (dig_app (d := 5) (by decide) out), by go_num, Lib.hid ⟨HQI.out, HNX.out, HLN.out _⟩, nq, rfl⟩
          case measure => have := HMS.out; simp [intOf]; omega
        · have hmx : max (6 : Int) (-6) = 6 := by decide
          go_wp2
          go_roundw
          case rel => exact ⟨q, _, congrArg Value.string (dig_app (d := 6) (by decide) out), by go_num, Lib.hid ⟨HQI.out, HNX.out, HLN.out _⟩, nq, rfl⟩
          case measure => have := HMS.out; simp [intOf]; omega
        · have hmx : max (7 : Int) (-7) = 7 := by decide
          go_wp2
          go_roundw
          case rel => exact ⟨q, _, congrArg Value.string (dig_app (d := 7) (by decide) out), by go_num, Lib.hid ⟨HQI.out, HNX.out, HLN.out _⟩, nq, rfl⟩
          case measure => have := HMS.out; simp [intOf]; omega
        · have hmx : max (8 : Int) (-8) = 8 := by decide
          go_wp2
          go_roundw
          case rel => exact ⟨q, _, congrArg Value.string (dig_app (d := 8) (by decide) out), by go_num, Lib.hid ⟨HQI.out, HNX.out, HLN.out _⟩, nq, rfl⟩
          case measure => have := HMS.out; simp [intOf]; omega
        · have hmx : max (9 : Int) (-9) = 9 := by decide
          go_wp2
          go_roundw
          case rel => exact ⟨q, _, congrArg Value.string (dig_app (d := 9) (by decide) out), by go_num, Lib.hid ⟨HQI.out, HNX.out, HLN.out _⟩, nq, rfl⟩
          case measure => have := HMS.out; simp [intOf]; omega

theorem join_snoc (xs : List (List UInt8)) (y : List UInt8) (h : xs ≠ []) : Lib.join (xs ++ [y]) [32] = Lib.join xs [32] ++ [32] ++ y := by
  cases xs with
  | nil => exact absurd rfl h
  | cons x r => rw [List.cons_append, Lib.join_cons, Lib.join_cons]; simp [Lib.joinTail]
theorem fmtL_take {l : List El} {m : Nat} {x : El} (hx : l[m]? = some x) : fmtL (l.take (m + 1)) = (if m = 0 then fmtL (l.take 0) else fmtL (l.take m) ++ [32]) ++ x.fmt := by
  have htk : l.take (m + 1) = l.take m ++ [x] := by rw [List.take_add_one, hx]; rfl
  have hml : m < l.length := (List.getElem?_eq_some_iff.1 hx).1
  by_cases hm : m = 0
  · subst hm
    rw [htk]
    simp [fmtL, fmtsL, Lib.join_one, Lib.join_nil]
  · rw [if_neg hm, htk]
    have hne : fmtsL (l.take m) ≠ [] := by
      rw [fmtsL_map]
      intro e
      have h1 : (l.take m).length = m := by rw [List.length_take]; omega
      have h2 := congrArg List.length e
      rw [List.length_map, h1] at h2
      exact hm h2
    have hs : fmtsL (l.take m ++ [x]) = fmtsL (l.take m) ++ [x.fmt] := by rw [fmtsL_map, fmtsL_map, List.map_append]; rfl
    unfold fmtL
    rw [hs, join_snoc _ _ hne]
theorem fmtL_take_le (l : List El) (m : Nat) : (fmtL (l.take m)).length ≤ (fmtL l).length := by
  have hs : fmtsL l = fmtsL (l.take m) ++ fmtsL (l.drop m) := by rw [fmtsL_map, fmtsL_map, fmtsL_map, ← List.map_append, List.take_append_drop]
  unfold fmtL
  rw [hs]
  cases fmtsL (l.take m) with
  | nil => simp [Lib.join_nil]
  | cons x r =>
    rw [List.cons_append, Lib.join_length, Lib.join_length]
    simp [Lib.lens]
    omega

set_option maxRecDepth 100000 in
set_option maxHeartbeats 4000000 in
theorem rtext_any {P : Nat → Prop} {w : World} {v : Value} {l : List El} (h : Els P w v l) : ∀ W : World, (∀ p : Addr, W.cell? p = w.cell? p) → (fmtL l).length ≤ 1000000000 →
    Calls Tryd.prog 35 #[v] W fun en W' => en = .returned (strV (fmtL l)) ∧ ∃ k, W' = W.drewN k := by
  induction h with
  | mk A c l us hlc hm hz hc hr ih =>
    intro W hW hlen
    have HC := Lib.hid hc
    have HIH := Lib.hid ih
    have HR := Lib.hid hr
    have HW := Lib.hid hW
    have HLEN := Lib.hid hlen
    have hl63 : l.length ≤ 9223372036854775807 := by unfold maxLen at hm; omega
    clear hc hr ih hW hm hlen
    go_enter Tryd.func35, Tryd.ntmps35
    go_wp2
    go_loopw [3, 4] (fun x y wr => ∃ (m : Nat), m ≤ l.length ∧ strV (fmtL (l.take m)) = x ∧ y = .int .i64 m ∧ ∃ k, wr = W.drewN k) (fun _ y _ => l.length - (intOf y).toNat)
    case atStart => exact ⟨0, Nat.zero_le _, by simp [fmtL, fmtsL, Lib.join_nil], rfl, 0, rfl⟩
    case round =>
      obtain ⟨m, hm, rfl, rfl, nq, rfl⟩ := hrel
      by_cases hlt : m < l.length
      · obtain ⟨x, hx⟩ : ∃ x, l[m]? = some x := ⟨_, List.getElem?_eq_getElem hlt⟩
        obtain ⟨ad, hA, hPad, e0, e1, e2, hI⟩ := HC.out m x hx
        subst hA
        rw [← add_add', addrOne] at e1
        rw [← add_add', addrTwo] at e2
        have hih := HIH.out m x hx
        have htk := fmtL_take hx
        have htl := fmtL_take_le l (m + 1)
        have hll := HLEN.out
        obtain ⟨Au, cu, hu, -⟩ := (HR.out m x hx).shape
        rw [hu] at e2 hih
        clear hu hPad
        obtain ⟨p, cc, body⟩ := x
        simp only [El.p, El.c, El.body] at e0 e1 e2 hih hI
        have d0' : (W.drewN nq).cell? (ad.add (m * 3)) = some (.int .i64 p) := (HW.out _).trans e0
        have c1 : ∀ a, (W.drewN a).cell? ⟨(ad.add (m * 3)).block, (ad.add (m * 3)).off + 1, none⟩ = some (.bool cc) := fun a => (HW.out _).trans e1
        have c2 : ∀ a, (W.drewN a).cell? ⟨(ad.add (m * 3)).block, (ad.add (m * 3)).off + 2, none⟩ = some (.slice Au body.length cu) := fun a => (HW.out _).trans e2
        have hlt1 : (m : Int) < (l.length : Int) := by omega
        have HI := Lib.hid hih
        have d1 := c1 nq
        have hWh := whole_any p hI (W.drewN nq)
        have HWH := Lib.hid hWh
        clear hih e0 e1 e2 hx hI hWh
        by_cases hm0 : m = 0
        · have hmd : decide ((0 : Int) < (m : Int)) = false := by rw [decide_eq_false_iff_not]; omega
          have hmd2 : decide (0 < m) = false := by rw [decide_eq_false_iff_not]; omega
          rw [if_pos hm0] at htk
          have hm0' : l.take m = l.take 0 := by rw [hm0]
          rw [hm0']
          have HTK := Lib.hid htk
          clear htk hm0' hm0
          go_upto_region 7 with fail
          revert HTK
          generalize fmtL (l.take 0) = S
          intro HTK
          have hfl : S.length + (El.mk p cc body).fmt.length ≤ 1000000000 := by
            have := congrArg List.length HTK.out
            rw [List.length_append] at this
            omega
          cases cc with
          | false =>
            have hfm : (El.mk p false body).fmt = Lib.itoa p := by rw [El.fmt_mk]; rfl
            rw [hfm] at HTK hfl
            have hs1 : ¬ 9223372036854775807 < S.length + (Lib.itoa p).length := by omega
            clear hfl hfm
            go_wp2_with (go_at_call 59; refine HWH.out.mono ?_; rintro en w5 ⟨rfl, k5, rfl⟩)
            go_roundw
            case rel => exact ⟨m + 1, by omega, by rw [HTK.out, strV, ← ba_append], by go_num, _, rfl⟩
            case measure => simp [intOf]; omega
          | true =>
            by_cases hbz : body.length = 0
            · have hfm : (El.mk p true body).fmt = 40 :: (Lib.itoa p ++ [41]) := by rw [El.fmt_mk, if_pos rfl, if_pos hbz]
              rw [hfm] at HTK hfl
              simp only [List.length_cons, List.length_append, List.length_nil] at hfl
              have hs1 : ¬ 9223372036854775807 < 1 + (Lib.itoa p).length := by omega
              have hs2 : ¬ 9223372036854775807 < S.length + (1 + (Lib.itoa p).length) := by omega
              have hs3 : ¬ 9223372036854775807 < S.length + (1 + (Lib.itoa p).length) + 1 := by omega
              have hb0 : decide (0 < body.length) = false := by rw [decide_eq_false_iff_not]; omega
              have hb1 : decide ((0 : Int) < (body.length : Int)) = false := by rw [decide_eq_false_iff_not]; omega
              clear hfl hfm hbz
              go_wp2_with (go_at_call 59; refine HWH.out.mono ?_; rintro en w5 ⟨rfl, k5, rfl⟩; have d2 := c2 (nq + k5))
              go_roundw
              case rel => exact ⟨m + 1, by omega, by
                rw [HTK.out, strV, show (⟨#[40]⟩ : ByteArray) = ⟨[40].toArray⟩ from rfl, show (⟨#[41]⟩ : ByteArray) = ⟨[41].toArray⟩ from rfl, ba_append, ba_append, ba_append]
                simp, by go_num, _, rfl⟩
              case measure => simp [intOf]; omega
            · have hfm : (El.mk p true body).fmt = 40 :: (Lib.itoa p ++ 32 :: fmtL body ++ [41]) := by rw [El.fmt_mk, if_pos rfl, if_neg hbz]; rfl
              rw [hfm] at HTK hfl
              simp only [List.length_cons, List.length_append, List.length_nil] at hfl
              have hs1 : ¬ 9223372036854775807 < 1 + (Lib.itoa p).length := by omega
              have hs2 : ¬ 9223372036854775807 < S.length + (1 + (Lib.itoa p).length) := by omega
              have hs4 : ¬ 9223372036854775807 < 1 + (fmtL body).length := by omega
              have hs5 : ¬ 9223372036854775807 < S.length + (1 + (Lib.itoa p).length) + (1 + (fmtL body).length) := by omega
              have hs6 : ¬ 9223372036854775807 < S.length + (1 + (Lib.itoa p).length) + (1 + (fmtL body).length) + 1 := by omega
              have hb0 : decide (0 < body.length) = true := by rw [decide_eq_true_iff]; omega
              have hb1 : decide ((0 : Int) < (body.length : Int)) = true := by rw [decide_eq_true_iff]; omega
              have hbl : (fmtL body).length ≤ 1000000000 := by omega
              clear hfl hfm hbz
              go_wp2_with (first
                | (go_at_call 59; refine HWH.out.mono ?_; rintro en w5 ⟨rfl, k5, rfl⟩; have d2 := c2 (nq + k5))
                | (go_at_call 35; refine (HI.out (W.drewN (nq + k5)) (fun q => HW.out q) hbl).mono ?_; rintro en w6 ⟨rfl, k6, rfl⟩))
              go_roundw
              case rel => exact ⟨m + 1, by omega, by
                rw [HTK.out, strV, show (⟨#[40]⟩ : ByteArray) = ⟨[40].toArray⟩ from rfl, show (⟨#[41]⟩ : ByteArray) = ⟨[41].toArray⟩ from rfl, show (⟨#[32]⟩ : ByteArray) = ⟨[32].toArray⟩ from rfl, ba_append, ba_append, ba_append, ba_append, ba_append]
                simp, by go_num, _, rfl⟩
              case measure => simp [intOf]; omega
        · have hmd : decide ((0 : Int) < (m : Int)) = true := by rw [decide_eq_true_iff]; omega
          have hmd2 : decide (0 < m) = true := by rw [decide_eq_true_iff]; omega
          rw [if_neg hm0] at htk
          have hsz : ¬ 9223372036854775807 < (fmtL (l.take m)).length + 1 := by
            have := congrArg List.length htk
            simp only [List.length_append, List.length_cons, List.length_nil] at this
            omega
          have HTK := Lib.hid htk
          clear htk
          go_upto_region 7 with fail
          rw [show (⟨#[32]⟩ : ByteArray) = ⟨[32].toArray⟩ from rfl, ba_append]
          clear hsz
          revert HTK
          generalize fmtL (l.take m) ++ [32] = S
          intro HTK
          have hfl : S.length + (El.mk p cc body).fmt.length ≤ 1000000000 := by
            have := congrArg List.length HTK.out
            rw [List.length_append] at this
            omega
          cases cc with
          | false =>
            have hfm : (El.mk p false body).fmt = Lib.itoa p := by rw [El.fmt_mk]; rfl
            rw [hfm] at HTK hfl
            have hs1 : ¬ 9223372036854775807 < S.length + (Lib.itoa p).length := by omega
            clear hfl hfm
            go_wp2_with (go_at_call 59; refine HWH.out.mono ?_; rintro en w5 ⟨rfl, k5, rfl⟩)
            go_roundw
            case rel => exact ⟨m + 1, by omega, by rw [HTK.out, strV, ← ba_append], by go_num, _, rfl⟩
            case measure => simp [intOf]; omega
          | true =>
            by_cases hbz : body.length = 0
            · have hfm : (El.mk p true body).fmt = 40 :: (Lib.itoa p ++ [41]) := by rw [El.fmt_mk, if_pos rfl, if_pos hbz]
              rw [hfm] at HTK hfl
              simp only [List.length_cons, List.length_append, List.length_nil] at hfl
              have hs1 : ¬ 9223372036854775807 < 1 + (Lib.itoa p).length := by omega
              have hs2 : ¬ 9223372036854775807 < S.length + (1 + (Lib.itoa p).length) := by omega
              have hs3 : ¬ 9223372036854775807 < S.length + (1 + (Lib.itoa p).length) + 1 := by omega
              have hb0 : decide (0 < body.length) = false := by rw [decide_eq_false_iff_not]; omega
              have hb1 : decide ((0 : Int) < (body.length : Int)) = false := by rw [decide_eq_false_iff_not]; omega
              clear hfl hfm hbz
              go_wp2_with (go_at_call 59; refine HWH.out.mono ?_; rintro en w5 ⟨rfl, k5, rfl⟩; have d2 := c2 (nq + k5))
              go_roundw
              case rel => exact ⟨m + 1, by omega, by
                rw [HTK.out, strV, show (⟨#[40]⟩ : ByteArray) = ⟨[40].toArray⟩ from rfl, show (⟨#[41]⟩ : ByteArray) = ⟨[41].toArray⟩ from rfl, ba_append, ba_append, ba_append]
                simp, by go_num, _, rfl⟩
              case measure => simp [intOf]; omega
            · have hfm : (El.mk p true body).fmt = 40 :: (Lib.itoa p ++ 32 :: fmtL body ++ [41]) := by rw [El.fmt_mk, if_pos rfl, if_neg hbz]; rfl
              rw [hfm] at HTK hfl
              simp only [List.length_cons, List.length_append, List.length_nil] at hfl
              have hs1 : ¬ 9223372036854775807 < 1 + (Lib.itoa p).length := by omega
              have hs2 : ¬ 9223372036854775807 < S.length + (1 + (Lib.itoa p).length) := by omega
              have hs4 : ¬ 9223372036854775807 < 1 + (fmtL body).length := by omega
              have hs5 : ¬ 9223372036854775807 < S.length + (1 + (Lib.itoa p).length) + (1 + (fmtL body).length) := by omega
              have hs6 : ¬ 9223372036854775807 < S.length + (1 + (Lib.itoa p).length) + (1 + (fmtL body).length) + 1 := by omega
              have hb0 : decide (0 < body.length) = true := by rw [decide_eq_true_iff]; omega
              have hb1 : decide ((0 : Int) < (body.length : Int)) = true := by rw [decide_eq_true_iff]; omega
              have hbl : (fmtL body).length ≤ 1000000000 := by omega
              clear hfl hfm hbz
              go_wp2_with (first
                | (go_at_call 59; refine HWH.out.mono ?_; rintro en w5 ⟨rfl, k5, rfl⟩; have d2 := c2 (nq + k5))
                | (go_at_call 35; refine (HI.out (W.drewN (nq + k5)) (fun q => HW.out q) hbl).mono ?_; rintro en w6 ⟨rfl, k6, rfl⟩))
              go_roundw
              case rel => exact ⟨m + 1, by omega, by
                rw [HTK.out, strV, show (⟨#[40]⟩ : ByteArray) = ⟨[40].toArray⟩ from rfl, show (⟨#[41]⟩ : ByteArray) = ⟨[41].toArray⟩ from rfl, show (⟨#[32]⟩ : ByteArray) = ⟨[32].toArray⟩ from rfl, ba_append, ba_append, ba_append, ba_append, ba_append]
                simp, by go_num, _, rfl⟩
              case measure => simp [intOf]; omega
      · obtain rfl : m = l.length := by omega
        rw [List.take_length]
        go_wp2
        go_ret
        exact ⟨rfl, nq, rfl⟩
end Go.Proofs.YthaampinmelgaaaDoor

/-! The law WtoLists, walked: numbers have texts by the table. -/
namespace Go.Proofs.YthaampinmelgaaaDoor
open Go.RowKit Go.Shelf

theorem g10' : Tryd.prog.globalNamed "internal/strconv.uint64pow10" = some 0 := by kernel_rfl
theorem tab_below {w w' : World} {B : Nat} (h : Lib.TabIs Tryd.prog w "internal/strconv.uint64pow10" .u64 Lib.pow10Tab) (hB : 0 < B) (hb : Below B w w') : Lib.TabIs Tryd.prog w' "internal/strconv.uint64pow10" .u64 Lib.pow10Tab := by
  unfold Lib.TabIs World.var? at h ⊢
  rw [g10'] at h ⊢
  simp only [Option.bind_some] at h ⊢
  rw [hb.block 0 hB]
  exact h
theorem tab_size {w : World} (h : Lib.TabIs Tryd.prog w "internal/strconv.uint64pow10" .u64 Lib.pow10Tab) : 0 < w.heap.size := by
  unfold Lib.TabIs World.var? at h
  rw [g10'] at h
  simp only [Option.bind_some] at h
  rcases Nat.lt_or_ge 0 w.heap.size with h' | h'
  · exact h'
  · rw [Array.getElem?_eq_none h'] at h; cases h
theorem itoa_all {w : World} (h : Lib.TabIs Tryd.prog w "internal/strconv.uint64pow10" .u64 Lib.pow10Tab) : NumOk w.heap.size w InI64 := by
  rintro p ⟨h0, h1⟩ W hb
  refine (Any.strconv_Itoa Tryd.laysM171 p h0 h1 W (tab_below h (tab_size h) hb)).mono ?_
  rintro en w' ⟨rfl, k, os, rfl⟩
  exact ⟨rfl, Lib.below_grow _ _ (Nat.le_refl _) _ _⟩
theorem els_i64 {P : Nat → Prop} {w : World} {v : Value} {l : List El} (h : Els P w v l) : ∀ p ∈ ptsL l, InI64 p := by
  induction h with
  | mk A c l us hlc hm hz hc hr ih =>
    have key : ∀ (k : List El), (∀ x ∈ k, InI64 x.p ∧ ∀ p ∈ ptsL x.body, InI64 p) → ∀ p ∈ ptsL k, InI64 p := by
      intro k
      induction k with
      | nil => intro _ p hp; rw [ptsL_nil] at hp; cases hp
      | cons x k ihk =>
        intro hk p hp
        rw [ptsL_cons, El.pts_eq, List.mem_append, List.mem_cons] at hp
        rcases hp with (rfl | hp) | hp
        · exact (hk x List.mem_cons_self).1
        · exact (hk x List.mem_cons_self).2 p hp
        · exact ihk (fun y hy => hk y (List.mem_cons_of_mem _ hy)) p hp
    refine key l fun x hx => ?_
    obtain ⟨j, hj⟩ := List.mem_iff_getElem?.1 hx
    obtain ⟨ad, -, -, -, -, -, hI⟩ := hc j x hj
    exact ⟨hI, ih j x hj⟩
mutual
theorem El.fmt_len : ∀ (x : El), (∀ p ∈ x.pts, InI64 p) → x.fmt.length + 1 ≤ 26 * x.pts.length
  | .mk p c b, h => by
    rw [El.pts_mk] at h
    have h1 := h p List.mem_cons_self
    have h2 := fmtL_len b (fun q hq => h q (List.mem_cons_of_mem _ hq))
    have h3 := Lib.itoa_length_le p h1.1 h1.2
    rw [El.fmt_mk, El.pts_mk, List.length_cons]
    unfold fmtL at h2
    split
    · split
      · simp only [List.length_cons, List.length_append, List.length_nil]; omega
      · simp only [List.length_cons, List.length_append, List.length_nil]; omega
    · omega
theorem fmtL_len : ∀ (l : List El), (∀ p ∈ ptsL l, InI64 p) → (fmtL l).length ≤ 26 * (ptsL l).length
  | [], _ => by simp [fmtL, fmtsL, Lib.join_nil]
  | x :: l, h => by
    rw [ptsL_cons] at h
    have h1 := El.fmt_len x (fun q hq => h q (List.mem_append_left _ hq))
    have h2 := fmtL_len l (fun q hq => h q (List.mem_append_right _ hq))
    rw [ptsL_cons, List.length_append]
    have h3 : (fmtL (x :: l)).length ≤ x.fmt.length + 1 + (fmtL l).length := by
      unfold fmtL
      rw [show fmtsL (x :: l) = x.fmt :: fmtsL l by simp [fmtsL], Lib.join_cons]
      cases fmtsL l with
      | nil => simp [Lib.joinTail]; omega
      | cons y r => rw [Lib.join_cons]; simp [Lib.joinTail]; omega
    omega
end

/-- What the law leans on. -/
structure LSt (w W : World) (v vo : Value) (l : List El) : Prop where
  v : EL W v l
  vo : EL W vo l
  bel : Below w.heap.size w W
theorem LSt.step {w W W' : World} {v vo : Value} {l : List El} (h : LSt w W v vo l) (hb : Below W.heap.size W W') : LSt w W' v vo l := ⟨h.v.step hb, h.vo.step hb, h.bel.trans (hb.mono h.bel.size)⟩
theorem Ints.step' {W W' : World} {v : Value} {xs : List Int} (h : Ints W.heap.size W v xs) (hb : Below W.heap.size W W') : Ints W'.heap.size W' v xs := (Ints.below h hb).more hb.size

set_option maxRecDepth 100000 in
set_option maxHeartbeats 4000000 in
theorem listsL_any (w : World) (v : Value) (l : List El) (h : EL w v l) (q : Int) (_ : (Lit.int .i64 q).wf = true) (htab : Lib.TabIs Tryd.prog w "internal/strconv.uint64pow10" .u64 Lib.pow10Tab) :
    Calls Tryd.prog 8 #[v, .int .i64 q] w fun en w' => en = .returned (.bool true) ∧ Below w.heap.size w w' := by
  have hfew := few_el h (fun _ h => h)
  by_cases hp : (ptsL l).length ≤ 60
  · rw [decide_eq_true hp] at hfew
    have HF := Lib.hid hfew
    have hfl : (fmtL l).length ≤ 1000000000 := by
      have := fmtL_len l (els_i64 h)
      omega
    have hp6 : (ptsL l).length ≤ 1000000 := by omega
    have hnum := itoa_all htab
    have hform := fun (W : World) (hs : EL W v l) (hb : Below w.heap.size w W) => format_any hnum hs W (fun _ _ => rfl) (fun _ h => h) hb hb.size (els_i64 h) hfl
    have HFO := Lib.hid hform
    have HFL := Lib.hid hfl
    have HP := Lib.hid hp6
    have H0 := Lib.hid h
    clear hfew hp hfl hp6 hnum hform htab h
    go_enter Tryd.func8, Tryd.ntmps8
    go_upto_region 6 with (first
      | (go_at_call 16; refine HF.out.mono ?_; rintro en w1 ⟨rfl, hw1⟩; have he1 := H0.out.step hw1)
      | (go_at_call 15; refine (of_any he1 w1 (fun _ _ => rfl) (fun _ h => h)).mono ?_; rintro en w2 ⟨vo, rfl, hvo, hw2⟩; have hs2 : LSt w w2 v vo l := ⟨he1.step hw2, hvo.mono (fun b hb => hb.2.lt), hw1.trans (hw2.mono hw1.size)⟩)
      | (go_at_call 29; refine (within_any hs2.v (fun _ h => h) HP.out q).mono ?_; rintro en w3 ⟨va, rfl, hoa, hw3⟩; have hs3 := hs2.step hw3; have hia := Ints.ofOwn hoa)
      | (go_at_call 30; refine (rwithin_any hs3.vo q (fun _ h => h) HP.out).mono ?_; rintro en w4 ⟨vb, rfl, hob, hw4⟩; have hs4 := hs3.step hw4; have hia4 := Ints.step' hia hw4; have hib := Ints.ofOwn hob))
    clear he1 hw1 hw2 hvo hs2 hoa hw3 hs3 hia hob hw4
    go_wp2_with (first
      | (go_at_call 26; refine (flat_any hs4.v (fun _ h => h) HP.out).mono ?_; rintro en w5 ⟨vc, rfl, hoc, hw5⟩; have hs5 := hs4.step hw5; have hia5 := Ints.step' hia4 hw5; have hib5 := Ints.step' hib hw5; have hic5 := Ints.ofOwn hoc)
      | (go_at_call 32; refine (rflat_any hs5.vo w5 (fun _ _ => rfl) (fun _ h => h) HP.out).mono ?_; rintro en w6 ⟨vd, rfl, hod, hw6⟩; have hs6 := hs5.step hw6; have hia6 := Ints.step' hia5 hw6; have hib6 := Ints.step' hib5 hw6; have hic6 := Ints.step' hic5 hw6; have hid6 := Ints.ofOwn hod)
      | (go_at_call 33; refine (heads_any hs7.v (fun _ h => h) HP.out).mono ?_; rintro en w8 ⟨ve, rfl, hoe, hw8⟩; have hs8 := hs7.step hw8; have hia8 := Ints.step' hia7 hw8; have hib8 := Ints.step' hib7 hw8; have hie8 := Ints.ofOwn hoe)
      | (go_at_call 34; refine (rheads_any hs8.vo w8 (fun _ _ => rfl) (fun _ h => h) HP.out).mono ?_; rintro en w9 ⟨vf, rfl, hof, hw9⟩; have hs9 := hs8.step hw9; have hia9 := Ints.step' hia8 hw9; have hib9 := Ints.step' hib8 hw9; have hie9 := Ints.step' hie8 hw9; have hif9 := Ints.ofOwn hof)
      | (go_at_call 31; (with_reducible refine (equal_true hic6 hid6).mono ?_); rintro en w7 ⟨rfl, hw7⟩; have hs7 := hs6.step hw7; have hia7 := Ints.step' hia6 hw7; have hib7 := Ints.step' hib6 hw7)
      | (go_at_call 31; (with_reducible refine (equal_true hie9 hif9).mono ?_); rintro en w10 ⟨rfl, hw10⟩; have hs10 := hs9.step hw10; have hia10 := Ints.step' hia9 hw10; have hib10 := Ints.step' hib9 hw10)
      | (go_at_call 31; (with_reducible refine (equal_true hia10 hib10).mono ?_); rintro en w11 ⟨rfl, hw11⟩; have hs11 := hs10.step hw11)
      | (go_at_call 23; refine (HFO.out w11 hs11.v hs11.bel).mono ?_; rintro en w12 ⟨rfl, hw12⟩; have hs12 := hs11.step hw12)
      | (go_at_call 35; refine (rtext_any hs12.vo w12 (fun _ => rfl) HFL.out).mono ?_; rintro en w13 ⟨rfl, k13, rfl⟩; have hs13 := hs12.step (below_drewN' (Below.refl _ _) k13))
      | (go_at_call 11; refine (awake_any _).mono ?_; rintro en w14 ⟨rfl, hw14⟩; have hs14 := hs13.step hw14))
    go_ret
    exact ⟨rfl, hs14.bel⟩
  · rw [decide_eq_false hp] at hfew
    have HF := Lib.hid hfew
    clear hfew hp htab h
    go_enter Tryd.func8, Tryd.ntmps8
    go_wp2_with (first
      | (go_at_call 16; refine HF.out.mono ?_; rintro en w1 ⟨rfl, hw1⟩)
      | (go_at_call 11; refine (awake_any w1).mono ?_; rintro en w2 ⟨rfl, hw2⟩))
    go_ret
    exact ⟨rfl, hw1.trans (hw2.mono hw1.size)⟩
end Go.Proofs.YthaampinmelgaaaDoor

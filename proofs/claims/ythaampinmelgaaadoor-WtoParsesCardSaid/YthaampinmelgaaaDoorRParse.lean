/- The reference's number, element and Parse of a text. -/
import Derived.Test.YthaampinmelgaaaDoorElement
import Derived.Test.YthaampinmelgaaaDoorREnterS
import Derived.Test.YthaampinmelgaaaDoorParse
/-! The reference's number and element of a text. -/
namespace Go.Proofs.YthaampinmelgaaaDoor
open Go.RowKit Go.Shelf

theorem numV_err {b : ByteArray} {f : Nat} : ∀ (k a : Nat) (n : Int) {a' : Nat} {e : Int}, numV b f k a n = .error (a', e) → b.size < a + k → a ≤ b.size → e = 4 ∨ e = 2
  | 0, a, n, a', e, _, h1, h2 => by omega
  | k + 1, a, n, a', e, h, h1, h2 => by
    unfold numV at h
    split at h
    · rename_i hd
      split at h
      · cases h; exact .inl rfl
      · have hlt : a < b.size := by
          unfold digB at hd
          by_cases hlt : a < b.size
          · exact hlt
          · rw [dif_neg hlt] at hd; cases hd
        exact numV_err k (a + 1) _ h (by omega) (by omega)
    · split at h
      · cases h; exact .inl rfl
      · split at h
        · cases h; exact .inr rfl
        · cases h
/-- What the reference's number gives. -/
def numRes : Except (Nat × Int) (Int × Nat) → Value
  | .ok (n, a) => .tuple #[.int .i64 n, .int .i64 (a : Nat), .int .i64 0]
  | .error (a, e) => .tuple #[.int .i64 0, .int .i64 (a : Nat), .int .i64 e]

set_option maxRecDepth 100000 in
set_option maxHeartbeats 4000000 in
theorem rnumber_any (w : World) (b : ByteArray) (at_ : Nat) (hb : b.size ≤ 100000000) (hat : at_ ≤ b.size) :
    Calls Tryd.prog 67 #[.string b, .int .i64 (at_ : Int)] w fun en w' => en = .returned (numRes (numV b at_ (b.size + 1) at_ 0)) ∧ ∃ k, w' = w.drewN k := by
  obtain ⟨r, hr⟩ : ∃ r, r = numV b at_ (b.size + 1) at_ 0 := ⟨_, rfl⟩
  rw [← hr]
  have HR := Lib.hid hr
  clear hr
  go_enter Tryd.func67, Tryd.ntmps67
  go_wp2
  go_loopw [7, 8] (fun x y wr => ∃ (k a : Nat) (n nR : Int), x = .int .i64 nR ∧ y = .int .i64 (a : Nat) ∧ Hid (r = numV b at_ k a n) ∧ Hid (n = min nR 1048577) ∧ 0 ≤ nR ∧ nR ≤ 20000000 ∧ at_ ≤ a ∧ a ≤ b.size ∧ b.size < a + k ∧ ∃ q, wr = w.drewN q) (fun _ y _ => b.size - (intOf y).toNat)
  case atStart => exact ⟨_, _, 0, 0, rfl, rfl, HR, Lib.hid (by decide), by omega, by omega, Nat.le_refl _, hat, by omega, 0, rfl⟩
  case round =>
    obtain ⟨k, a, n, nR, rfl, rfl, HN, HMIN, hn0, hn1, ha0, ha1, hak, nq, rfl⟩ := hrel
    obtain ⟨k, rfl⟩ : ∃ k', k = k' + 1 := ⟨k - 1, by omega⟩
    have hb63 : (b.size : Int) ≤ 100000000 := by omega
    have ha63 : (a : Int) ≤ 100000000 := by omega
    have hat63 : (at_ : Int) ≤ 100000000 := by omega
    cases hdg : digB b a with
    | false =>
      have hr : r = if a = at_ then .error (at_, 4) else if 1048576 < n then .error (at_, 2) else .ok (n, a) := by rw [HN.out, numV, hdg]; simp
      have hway : (decide ((a : Int) < (b.size : Int)) = false ∧ decide (a < b.size) = false) ∨ (∃ hlt : a < b.size, decide ((48 : Int) ≤ ((b[a]).toNat : Int)) = false ∧ decide (48 ≤ (b[a]).toNat) = false) ∨ (∃ hlt : a < b.size, (48 : Int) ≤ ((b[a]).toNat : Int) ∧ decide (((b[a]).toNat : Int) ≤ 57) = false ∧ decide ((b[a]).toNat ≤ 57) = false) := by
        unfold digB at hdg
        by_cases hlt : a < b.size
        · rw [dif_pos hlt] at hdg
          simp only [Bool.and_eq_false_iff, decide_eq_false_iff_not] at hdg
          rcases hdg with hdg | hdg
          · exact .inr (.inl ⟨hlt, by rw [decide_eq_false_iff_not]; omega, by rw [decide_eq_false_iff_not]; omega⟩)
          · by_cases h48 : 48 ≤ (b[a]).toNat
            · exact .inr (.inr ⟨hlt, by omega, by rw [decide_eq_false_iff_not]; omega, by rw [decide_eq_false_iff_not]; omega⟩)
            · exact .inr (.inl ⟨hlt, by rw [decide_eq_false_iff_not]; omega, by rw [decide_eq_false_iff_not]; omega⟩)
        · exact .inl ⟨by rw [decide_eq_false_iff_not]; omega, by rw [decide_eq_false_iff_not]; omega⟩
      clear hdg HN hak
      by_cases ha : a = at_
      · rw [if_pos ha] at hr
        have HRR := Lib.hid hr
        subst ha
        clear hr
        rcases hway with ⟨hw1, hw2⟩ | ⟨hw0, hw1, hw2⟩ | ⟨hw0, hw3, hw1, hw2⟩
        all_goals
          have hwl : True := trivial
          try have hw0i : (a : Int) < (b.size : Int) := by omega
          go_wp2
          (go_ret3; exact ⟨by rw [HRR.out]; rfl, nq, rfl⟩)
      rw [if_neg ha] at hr
      have hai : ((a : Int) == (at_ : Int)) = false := by simpa using fun e : (a : Int) = (at_ : Int) => ha (by omega)
      have hai2 : decide ((a : Int) = (at_ : Int)) = false := by simpa using fun e : (a : Int) = (at_ : Int) => ha (by omega)
      by_cases hn : 1048576 < nR
      · rw [if_pos (by have := HMIN.out; omega)] at hr
        have HRR := Lib.hid hr
        have hnd : decide (1048576 < nR) = true := decide_eq_true hn
        clear hr hn
        rcases hway with ⟨hw1, hw2⟩ | ⟨hw0, hw1, hw2⟩ | ⟨hw0, hw3, hw1, hw2⟩
        all_goals
          have hwl : True := trivial
          try have hw0i : (a : Int) < (b.size : Int) := by omega
          go_wp2
          (go_ret3; exact ⟨by rw [HRR.out]; rfl, nq, rfl⟩)
      · rw [if_neg (by have := HMIN.out; omega)] at hr
        have hnn : n = nR := by have := HMIN.out; omega
        rw [hnn] at hr
        have HRR := Lib.hid hr
        have hnd : decide (1048576 < nR) = false := decide_eq_false hn
        clear hr hn hnn
        rcases hway with ⟨hw1, hw2⟩ | ⟨hw0, hw1, hw2⟩ | ⟨hw0, hw3, hw1, hw2⟩
        all_goals
          have hwl : True := trivial
          try have hw0i : (a : Int) < (b.size : Int) := by omega
          go_wp2
          (go_ret3; exact ⟨by rw [HRR.out]; rfl, nq, rfl⟩)
    | true =>
      obtain ⟨hlt, h48, h57⟩ : ∃ hlt : a < b.size, 48 ≤ (b[a]).toNat ∧ (b[a]).toNat ≤ 57 := by
        unfold digB at hdg
        by_cases hlt : a < b.size
        · rw [dif_pos hlt] at hdg
          simp only [Bool.and_eq_true, decide_eq_true_eq] at hdg
          exact ⟨hlt, hdg⟩
        · rw [dif_neg hlt] at hdg; cases hdg
      have hby : byteI b a = ((b[a]).toNat : Int) := by unfold byteI; rw [dif_pos hlt]
      have hr : r = if a = at_ + 1 ∧ byteI b at_ = 48 then .error (a, 4) else numV b at_ k (a + 1) (min (10 * n + (((b[a]).toNat : Int) - 48)) 1048577) := by rw [HN.out, numV, hdg, hby]; simp
      have hlt1 : (a : Int) < (b.size : Int) := by omega
      have hi48 : (48 : Int) ≤ ((b[a]).toNat : Int) := by omega
      have hi57 : ((b[a]).toNat : Int) ≤ 57 := by omega
      clear hdg HN hby
      by_cases ha : a = at_ + 1
      · have hfs : at_ < b.size := by omega
        have hfi : (at_ : Int) < (b.size : Int) := by omega
        have hbf : byteI b at_ = ((b[at_]).toNat : Int) := by unfold byteI; rw [dif_pos hfs]
        rw [hbf] at hr
        have hai : ((a : Int) == (at_ : Int) + 1) = true := by rw [beq_iff_eq]; omega
        have hai2 : decide ((a : Int) = (at_ : Int) + 1) = true := by rw [decide_eq_true_iff]; omega
        by_cases hz : ((b[at_]).toNat : Int) = 48
        · rw [if_pos ⟨ha, hz⟩] at hr
          have hz1 : (((b[at_]).toNat : Int) == 48) = true := by simpa using hz
          have HRR := Lib.hid hr
          clear hr hbf hz ha
          go_wp2
          go_ret3
          exact ⟨by rw [HRR.out]; rfl, nq, rfl⟩
        · rw [if_neg (fun h => hz h.2)] at hr
          have hz1 : (((b[at_]).toNat : Int) == 48) = false := by simpa using hz
          have hz2 : decide (((b[at_]).toNat : Int) = 48) = false := by simpa using hz
          have HRR := Lib.hid hr
          clear hr hbf hz ha
          by_cases hbig : nR ≤ 1048576
          · have hq1 : IntKind.i64.wrap (10 * nR) = 10 * nR := IntWalk.i64_in _ (by omega)
            have hq2 : IntKind.u8.wrap (((b[a]).toNat : Int) - 48) = ((b[a]).toNat : Int) - 48 := IntWalk.u8_in _ (by omega)
            have hq4 : IntKind.i64.wrap (((b[a]).toNat : Int) - 48) = ((b[a]).toNat : Int) - 48 := IntWalk.i64_in _ (by omega)
            have hq3 : IntKind.i64.wrap (10 * nR + (((b[a]).toNat : Int) - 48)) = 10 * nR + (((b[a]).toNat : Int) - 48) := IntWalk.i64_in _ (by omega)
            have hbd : decide (nR ≤ 1048576) = true := decide_eq_true hbig
            have hmin2 : min (10 * n + (((b[a]).toNat : Int) - 48)) 1048577 = min (10 * nR + (((b[a]).toNat : Int) - 48)) 1048577 := by have := HMIN.out; omega
            have HM2 := Lib.hid hmin2
            clear hmin2
            go_wp2
            go_roundw
            case rel => exact ⟨k, a + 1, min (10 * nR + (((b[a]).toNat : Int) - 48)) 1048577, 10 * nR + (((b[a]).toNat : Int) - 48), rfl, by go_num, Lib.hid (by rw [HRR.out, HM2.out]), Lib.hid rfl, by omega, by omega, by omega, by omega, by omega, nq, rfl⟩
            case measure => simp [intOf]; omega
          · have hbd : decide (nR ≤ 1048576) = false := decide_eq_false hbig
            have hmin2 : min (10 * n + (((b[a]).toNat : Int) - 48)) 1048577 = min nR 1048577 := by have := HMIN.out; omega
            have HM2 := Lib.hid hmin2
            clear hmin2
            go_wp2
            go_roundw
            case rel => exact ⟨k, a + 1, min nR 1048577, nR, rfl, by go_num, Lib.hid (by rw [HRR.out, HM2.out]), Lib.hid rfl, by omega, by omega, by omega, by omega, by omega, nq, rfl⟩
            case measure => simp [intOf]; omega
      · rw [if_neg (fun h => ha h.1)] at hr
        have hai : ((a : Int) == (at_ : Int) + 1) = false := by simpa using fun e : (a : Int) = (at_ : Int) + 1 => ha (by omega)
        have hai2 : decide ((a : Int) = (at_ : Int) + 1) = false := by simpa using fun e : (a : Int) = (at_ : Int) + 1 => ha (by omega)
        have hai3 : ¬ (a : Int) = (at_ : Int) + 1 := fun e => ha (by omega)
        have HRR := Lib.hid hr
        clear hr
        by_cases hbig : nR ≤ 1048576
        · have hq1 : IntKind.i64.wrap (10 * nR) = 10 * nR := IntWalk.i64_in _ (by omega)
          have hq2 : IntKind.u8.wrap (((b[a]).toNat : Int) - 48) = ((b[a]).toNat : Int) - 48 := IntWalk.u8_in _ (by omega)
          have hq4 : IntKind.i64.wrap (((b[a]).toNat : Int) - 48) = ((b[a]).toNat : Int) - 48 := IntWalk.i64_in _ (by omega)
          have hq3 : IntKind.i64.wrap (10 * nR + (((b[a]).toNat : Int) - 48)) = 10 * nR + (((b[a]).toNat : Int) - 48) := IntWalk.i64_in _ (by omega)
          have hbd : decide (nR ≤ 1048576) = true := decide_eq_true hbig
          have hmin2 : min (10 * n + (((b[a]).toNat : Int) - 48)) 1048577 = min (10 * nR + (((b[a]).toNat : Int) - 48)) 1048577 := by have := HMIN.out; omega
          have HM2 := Lib.hid hmin2
          clear hmin2
          go_wp2
          go_roundw
          case rel => exact ⟨k, a + 1, min (10 * nR + (((b[a]).toNat : Int) - 48)) 1048577, 10 * nR + (((b[a]).toNat : Int) - 48), rfl, by go_num, Lib.hid (by rw [HRR.out, HM2.out]), Lib.hid rfl, by omega, by omega, by omega, by omega, by omega, nq, rfl⟩
          case measure => simp [intOf]; omega
        · have hbd : decide (nR ≤ 1048576) = false := decide_eq_false hbig
          have hmin2 : min (10 * n + (((b[a]).toNat : Int) - 48)) 1048577 = min nR 1048577 := by have := HMIN.out; omega
          have HM2 := Lib.hid hmin2
          clear hmin2
          go_wp2
          go_roundw
          case rel => exact ⟨k, a + 1, min nR 1048577, nR, rfl, by go_num, Lib.hid (by rw [HRR.out, HM2.out]), Lib.hid rfl, by omega, by omega, by omega, by omega, by omega, nq, rfl⟩
          case measure => simp [intOf]; omega
end Go.Proofs.YthaampinmelgaaaDoor

/-! The reference's element of a text. -/
namespace Go.Proofs.YthaampinmelgaaaDoor
open Go.RowKit Go.Shelf

theorem info_rel' : (Tryd.prog.info? 88).map (fun i => (i.zero, i.size, i.bytes)) = some (some (.agg #[.int .i64 0, .bool false, .slice none 0 0]), 3, 40) := by kernel_rfl
/-- What the reference's element gives. -/
def ElemR (W : World) (r : Except (Nat × Int) (El × Nat)) (en : Ending) (W' : World) : Prop :=
  match r with
  | .ok (x, a2) => (∃ v, en = .returned (.tuple #[.agg #[.int .i64 x.p, .bool x.c, v], .int .i64 (a2 : Nat), .int .i64 0]) ∧ Els (fun c => W.heap.size ≤ c ∧ Typed W' c 88) W' v x.body ∧ Below W.heap.size W W' ∧ InI64 x.p)
  | .error (a', e) => en = .returned (.tuple #[.agg #[.int .i64 0, .bool false, .slice none 0 0], .int .i64 (a' : Nat), .int .i64 e]) ∧ Below W.heap.size W W' ∧ e ≠ 0
def ElemRAt (b : ByteArray) (k : Nat) : Prop := ∀ (w : World) (a d : Nat), a ≤ b.size → d ≤ 64 → 65 ≤ k + d →
  Calls Tryd.prog 52 #[.string b, .int .i64 (a : Int), .int .i64 (d : Int)] w (ElemR w (elemV b k a d))

set_option maxRecDepth 100000 in
set_option maxHeartbeats 1000000 in
theorem relement_succ {b : ByteArray} (hb : b.size ≤ 1000000) (k : Nat) (ih : ElemRAt b k) : ElemRAt b (k + 1) := by
  intro w a d ha hd hkd
  have ha63 : (a : Int) ≤ 1000000 := by omega
  have hd63 : (d : Int) ≤ 64 := by omega
  have hb63 : (b.size : Int) ≤ 1000000 := by omega
  have hrb := Blk.newAt w 88 #[.int .i64 0, .bool false, .slice none 0 0] rfl
  obtain ⟨w1, hw1⟩ : ∃ w1, w1 = w.alloc (.cells #[.int .i64 0, .bool false, .slice none 0 0] 88) := ⟨_, rfl⟩
  have hbel : Below w.heap.size w w1 := by rw [hw1]; exact (Below.refl _ w).alloc (Nat.le_refl _) _
  have hsz1 : w1.heap.size = w.heap.size + 1 := by rw [hw1]; simp
  rw [← hw1] at hrb
  have hwd : IntKind.i64.wrap ((d : Int) + 1) = (d : Int) + 1 := IntWalk.i64_in _ (by omega)
  have hwa : IntKind.i64.wrap ((a : Int) + 1) = (a : Int) + 1 := IntWalk.i64_in _ (by omega)
  by_cases hs : isV b a 40 = false
  · -- a point
    have hway : (decide ((b.size : Int) ≤ (a : Int)) = true ∧ decide (b.size ≤ a) = true) ∨ ∃ hlt : a < b.size, (((b[a]).toNat : Int) == 40) = false ∧ (((b[a]).toNat : Int) != 40) = true := by
      by_cases hlt : a < b.size
      · rw [isV_at hlt] at hs
        exact .inr ⟨hlt, hs, by simpa using hs⟩
      · exact .inl ⟨by rw [decide_eq_true_iff]; omega, by rw [decide_eq_true_iff]; omega⟩
    have hev : elemV b (k + 1) a d = match numV b a (b.size + 1) a 0 with | .error er => .error er | .ok (n, a2) => .ok (.mk n false [], a2) := by
      rw [elemV, if_pos hs]
      cases numV b a (b.size + 1) a 0 <;> rfl
    rw [hev]
    have hnum := fun q => rnumber_any (w1.drewN q) b a (by omega) ha
    have hnum0 := rnumber_any w1 b a (by omega) ha
    have hok := fun n a2 (h : numV b a (b.size + 1) a 0 = .ok (n, a2)) => numV_ok _ _ _ h ha (by omega) (by omega)
    have herr := fun a' e (h : numV b a (b.size + 1) a 0 = .error (a', e)) => numV_err _ _ _ h (by omega) ha
    revert hnum hnum0 hok herr
    generalize numV b a (b.size + 1) a 0 = r
    intro hnum hnum0 hok herr
    have HN0 := Lib.hid hnum0
    have HRB := Lib.hid hrb
    have HBEL := Lib.hid hbel
    clear hnum hnum0 hev hs
    cases r with
    | error er =>
      obtain ⟨a', e⟩ := er
      have he := herr a' e rfl
      have hne : e ≠ 0 := by omega
      have HNE := Lib.hid hne
      have hn1 : Calls Tryd.prog 67 #[.string b, .int .i64 (a : Int)] w1 fun en w' => en = .returned (.tuple #[.int .i64 0, .int .i64 (a' : Nat), .int .i64 e]) ∧ ∃ k, w' = w1.drewN k := HN0.out
      have HN1 := Lib.hid hn1
      clear hn1 herr hok he hne hrb hbel
      rcases hway with ⟨hw, hwn⟩ | ⟨hlt, hw, hwn⟩
      all_goals
        try have hlt1 : (a : Int) < (b.size : Int) := by omega
        try have hle1 : decide ((b.size : Int) ≤ (a : Int)) = false := by rw [decide_eq_false_iff_not]; omega
        try have hle2 : decide (b.size ≤ a) = false := by rw [decide_eq_false_iff_not]; omega
        go_enter Tryd.func52, Tryd.ntmps52
        go_upto_region 1 with fail
        rw [← hw1]
        clear hw1
        go_upto_region 3 with (go_at_call 67; refine HN1.out.mono ?_; rintro en w2 ⟨rfl, k2, rfl⟩; have hb2 : Blk (w1.drewN k2) w.heap.size 88 [.int .i64 0, .bool false, .slice none 0 0] := HRB.out; have c0 := hb2.cellAt (i := 0) rfl; have c1 := hb2.cellAt (i := 1) rfl; have c2 := hb2.cellAt (i := 2) rfl; have f0 := hb2.frozen 0; have f1 := hb2.frozen 1; have f2 := hb2.frozen 2)
        go_wp2
        have hb5 := ((hb2.set 0 (.int .i64 0)).set 1 (.bool false)).set 2 (.slice none 0 0)
        have j0 := hb5.cellAt (i := 0) rfl
        have j1 := hb5.cellAt (i := 1) rfl
        have j2 := hb5.cellAt (i := 2) rfl
        have BEL := ((((HBEL.out.trans ((Only.refl (fun _ => False) w1).drewN k2 |>.below (B := w.heap.size) (by omega) (fun _ _ f => f)))).setCell (p := ⟨w.heap.size, 0, none⟩) (Nat.le_refl _) (.int .i64 0)).setCell (p := ⟨w.heap.size, 1, none⟩) (Nat.le_refl _) (.bool false)).setCell (p := ⟨w.heap.size, 2, none⟩) (Nat.le_refl _) (.slice none 0 0)
        refine bodyPost_ret (v := .tuple #[.agg #[.int .i64 0, .bool false, .slice none 0 0], .int .i64 (a' : Nat), .int .i64 e]) (by simp [results, Tryd.results52, go_sem, j0, j1, j2]) rfl ?_
        exact ⟨rfl, BEL, HNE.out⟩
    | ok rr =>
      obtain ⟨n, a2⟩ := rr
      obtain ⟨h1, h2, h3, h4, -⟩ := hok n a2 rfl
      have hn1 : Calls Tryd.prog 67 #[.string b, .int .i64 (a : Int)] w1 fun en w' => en = .returned (.tuple #[.int .i64 n, .int .i64 (a2 : Nat), .int .i64 0]) ∧ ∃ k, w' = w1.drewN k := HN0.out
      have HN1 := Lib.hid hn1
      have hni : InI64 n := by unfold InI64; omega
      have HNI := Lib.hid hni
      clear hn1 herr hok hrb hbel hni
      rcases hway with ⟨hw, hwn⟩ | ⟨hlt, hw, hwn⟩
      all_goals
        try have hlt1 : (a : Int) < (b.size : Int) := by omega
        try have hle1 : decide ((b.size : Int) ≤ (a : Int)) = false := by rw [decide_eq_false_iff_not]; omega
        try have hle2 : decide (b.size ≤ a) = false := by rw [decide_eq_false_iff_not]; omega
        go_enter Tryd.func52, Tryd.ntmps52
        go_upto_region 1 with fail
        rw [← hw1]
        clear hw1
        go_upto_region 3 with (go_at_call 67; refine HN1.out.mono ?_; rintro en w2 ⟨rfl, k2, rfl⟩; have hb2 : Blk (w1.drewN k2) w.heap.size 88 [.int .i64 0, .bool false, .slice none 0 0] := HRB.out; have c0 := hb2.cellAt (i := 0) rfl; have c1 := hb2.cellAt (i := 1) rfl; have c2 := hb2.cellAt (i := 2) rfl; have f0 := hb2.frozen 0; have f1 := hb2.frozen 1; have f2 := hb2.frozen 2)
        go_wp2
        have hb5 := ((hb2.set 0 (.int .i64 n)).set 1 (.bool false)).set 2 (.slice none 0 0)
        have j0 := hb5.cellAt (i := 0) rfl
        have j1 := hb5.cellAt (i := 1) rfl
        have j2 := hb5.cellAt (i := 2) rfl
        have BEL := ((((HBEL.out.trans ((Only.refl (fun _ => False) w1).drewN k2 |>.below (B := w.heap.size) (by omega) (fun _ _ f => f)))).setCell (p := ⟨w.heap.size, 0, none⟩) (Nat.le_refl _) (.int .i64 n)).setCell (p := ⟨w.heap.size, 1, none⟩) (Nat.le_refl _) (.bool false)).setCell (p := ⟨w.heap.size, 2, none⟩) (Nat.le_refl _) (.slice none 0 0)
        refine bodyPost_ret (v := .tuple #[.agg #[.int .i64 n, .bool false, (.slice none 0 0)], .int .i64 (a2 : Nat), .int .i64 0]) (by simp [results, Tryd.results52, go_sem, j0, j1, j2]) rfl ?_
        exact ⟨_, rfl, Els.nil, BEL, HNI.out⟩
  · -- a component
    have hs1 : isV b a 40 = true := by simpa using hs
    have hlt := isV_lt hs1
    have hlt1 : (a : Int) < (b.size : Int) := by omega
    have hle1 : decide ((b.size : Int) ≤ (a : Int)) = false := by rw [decide_eq_false_iff_not]; omega
    have hle2 : decide (b.size ≤ a) = false := by rw [decide_eq_false_iff_not]; omega
    have hw : (((b[a]).toNat : Int) == 40) = true := by rw [isV_at hlt] at hs1; exact hs1
    have hwn : (((b[a]).toNat : Int) != 40) = false := by simpa using hw
    have HRB := Lib.hid hrb
    have HBEL := Lib.hid hbel
    by_cases hd64 : d = 64
    · have hev : elemV b (k + 1) a d = .error (a, 12) := by rw [elemV, if_neg hs, if_pos hd64]
      rw [hev]
      have hdd : decide ((64 : Int) ≤ (d : Int)) = true := by rw [decide_eq_true_iff]; omega
      have hdn : decide (64 ≤ d) = true := by rw [decide_eq_true_iff]; omega
      clear hev hs hs1 hrb hbel hd64
      go_enter Tryd.func52, Tryd.ntmps52
      go_upto_region 1 with fail
      rw [← hw1]
      clear hw1
      have hb2 := HRB.out
      have c0 := hb2.cellAt (i := 0) rfl
      have c1 := hb2.cellAt (i := 1) rfl
      have c2 := hb2.cellAt (i := 2) rfl
      have f0 := hb2.frozen 0
      have f1 := hb2.frozen 1
      have f2 := hb2.frozen 2
      go_wp2
      have hb5 := ((hb2.set 0 (.int .i64 0)).set 1 (.bool false)).set 2 (.slice none 0 0)
      have j0 := hb5.cellAt (i := 0) rfl
      have j1 := hb5.cellAt (i := 1) rfl
      have j2 := hb5.cellAt (i := 2) rfl
      have BEL := (((HBEL.out).setCell (p := ⟨w.heap.size, 0, none⟩) (Nat.le_refl _) (.int .i64 0)).setCell (p := ⟨w.heap.size, 1, none⟩) (Nat.le_refl _) (.bool false)).setCell (p := ⟨w.heap.size, 2, none⟩) (Nat.le_refl _) (.slice none 0 0)
      refine bodyPost_ret (v := .tuple #[.agg #[.int .i64 0, .bool false, .slice none 0 0], .int .i64 (a : Nat), .int .i64 12]) (by simp [results, Tryd.results52, go_sem, j0, j1, j2]) rfl ?_
      exact ⟨rfl, BEL, by decide⟩
    · have hd65 : d + 1 ≤ 64 := by omega
      have hdd : decide ((64 : Int) ≤ (d : Int)) = false := by rw [decide_eq_false_iff_not]; omega
      have hdn : decide (64 ≤ d) = false := by rw [decide_eq_false_iff_not]; omega
      have hev : elemV b (k + 1) a d = match numV b (a + 1) (b.size + 1) (a + 1) 0 with | .error er => .error er | .ok (n, a2) => (match loopV (fun q => elemV b k q (d + 1)) b (b.size + 1) a2 [] with | .error er => .error er | .ok (l, a3) => if isV b a3 41 = true then .ok (.mk n true l, a3 + 1) else .error (a3, 4)) := by
        rw [elemV, if_neg hs, if_neg hd64]
        cases numV b (a + 1) (b.size + 1) (a + 1) 0 with
        | error er => rfl
        | ok rr =>
          obtain ⟨n, a2⟩ := rr
          simp only
          cases loopV (fun q => elemV b k q (d + 1)) b (b.size + 1) a2 [] <;> rfl
      rw [hev]
      have hnum0 := rnumber_any w1 b (a + 1) (by omega) (by omega)
      rw [show ((a + 1 : Nat) : Int) = (a : Int) + 1 by omega] at hnum0
      have hok := fun n a2 (h : numV b (a + 1) (b.size + 1) (a + 1) 0 = .ok (n, a2)) => numV_ok _ _ _ h (by omega) (by omega) (by omega)
      have herr := fun a' e (h : numV b (a + 1) (b.size + 1) (a + 1) 0 = .error (a', e)) => numV_err _ _ _ h (by omega) (by omega)
      revert hnum0 hok herr
      generalize numV b (a + 1) (b.size + 1) (a + 1) 0 = r
      intro hnum0 hok herr
      have HN0 := Lib.hid hnum0
      clear hnum0 hev hs hs1 hd64 hrb hbel
      cases r with
      | error er =>
        obtain ⟨a', e⟩ := er
        have he := herr a' e rfl
        have hne : e ≠ 0 := by omega
        have hne1 : (e == 0) = false := by simpa using hne
        have HNE := Lib.hid hne
        have hn1 : Calls Tryd.prog 67 #[.string b, .int .i64 ((a : Int) + 1)] w1 fun en w' => en = .returned (.tuple #[.int .i64 0, .int .i64 (a' : Nat), .int .i64 e]) ∧ ∃ k, w' = w1.drewN k := HN0.out
        have HN1 := Lib.hid hn1
        clear hn1 herr hok he
        go_enter Tryd.func52, Tryd.ntmps52
        go_upto_region 1 with fail
        rw [← hw1]
        clear hw1
        go_upto_region 7 with (go_at_call 67; refine HN1.out.mono ?_; rintro en w2 ⟨rfl, k2, rfl⟩; have hb2 : Blk (w1.drewN k2) w.heap.size 88 [.int .i64 0, .bool false, .slice none 0 0] := HRB.out; have c0 := hb2.cellAt (i := 0) rfl; have c1 := hb2.cellAt (i := 1) rfl; have c2 := hb2.cellAt (i := 2) rfl; have f0 := hb2.frozen 0; have f1 := hb2.frozen 1; have f2 := hb2.frozen 2)
        go_wp2
        have hb5 := ((hb2.set 0 (.int .i64 0)).set 1 (.bool false)).set 2 (.slice none 0 0)
        have j0 := hb5.cellAt (i := 0) rfl
        have j1 := hb5.cellAt (i := 1) rfl
        have j2 := hb5.cellAt (i := 2) rfl
        have BEL := ((((HBEL.out.trans ((Only.refl (fun _ => False) w1).drewN k2 |>.below (B := w.heap.size) (by omega) (fun _ _ f => f)))).setCell (p := ⟨w.heap.size, 0, none⟩) (Nat.le_refl _) (.int .i64 0)).setCell (p := ⟨w.heap.size, 1, none⟩) (Nat.le_refl _) (.bool false)).setCell (p := ⟨w.heap.size, 2, none⟩) (Nat.le_refl _) (.slice none 0 0)
        refine bodyPost_ret (v := .tuple #[.agg #[.int .i64 0, .bool false, .slice none 0 0], .int .i64 (a' : Nat), .int .i64 e]) (by simp [results, Tryd.results52, go_sem, j0, j1, j2]) rfl ?_
        exact ⟨rfl, BEL, HNE.out⟩
      | ok rr =>
        obtain ⟨n, a3⟩ := rr
        obtain ⟨n1, n2, n3, n4, -⟩ := hok n a3 rfl
        have hni : InI64 n := by unfold InI64; omega
        have HNI := Lib.hid hni
        have hn1 : Calls Tryd.prog 67 #[.string b, .int .i64 ((a : Int) + 1)] w1 fun en w' => en = .returned (.tuple #[.int .i64 n, .int .i64 (a3 : Nat), .int .i64 0]) ∧ ∃ k, w' = w1.drewN k := HN0.out
        have HN1 := Lib.hid hn1
        have hprog : ∀ q x a5, elemV b k q (d + 1) = .ok (x, a5) → q ≤ b.size → q < a5 ∧ a5 ≤ b.size := fun q x a5 => elemV_prog k q (d + 1) x a5
        have HPROG := Lib.hid hprog
        have HIH := Lib.hid ih
        simp only
        obtain ⟨res, hres⟩ : ∃ res, loopV (fun q => elemV b k q (d + 1)) b (b.size + 1) a3 [] = res := ⟨_, rfl⟩
        rw [hres]
        have HRES := Lib.hid hres
        obtain ⟨rr, hrr⟩ : ∃ rr, rr = (match res with | .error er => (.error er : Except (Nat × Int) (El × Nat)) | .ok (l, a3) => if isV b a3 41 = true then .ok (.mk n true l, a3 + 1) else .error (a3, 4)) := ⟨_, rfl⟩
        have hgoal : rr = (match res with | .error er => (.error er : Except (Nat × Int) (El × Nat)) | .ok (l, a3) => if isV b a3 41 = true then .ok (.mk n true l, a3 + 1) else .error (a3, 4)) := hrr
        rw [← hrr]
        have HRR := Lib.hid hgoal
        clear hn1 herr hok hni ih hres hrr hgoal hprog
        go_enter Tryd.func52, Tryd.ntmps52
        go_upto_region 1 with fail
        rw [← hw1]
        clear hw1
        go_upto_region 9 with (go_at_call 67; refine HN1.out.mono ?_; rintro en w2 ⟨rfl, k2, rfl⟩)
        have hb2 : Blk (w1.drewN k2) w.heap.size 88 [.int .i64 0, .bool false, .slice none 0 0] := HRB.out
        have hx2 := Blk.newAt (N := w.heap.size + 1) (w1.drewN k2) 88 #[.int .i64 n, .bool true, .slice none 0 0] hsz1
        have hbel2 := HBEL.out.trans ((Only.refl (fun _ => False) w1).drewN k2 |>.below (B := w.heap.size) (by omega) (fun _ _ f => f))
        obtain ⟨W0, hW0⟩ : ∃ W0, W0 = (w1.drewN k2).alloc (.cells #[.int .i64 n, .bool true, .slice none 0 0] 88) := ⟨_, rfl⟩
        have hW0x : Blk W0 (w.heap.size + 1) 88 [.int .i64 n, .bool true, .slice none 0 0] := by rw [hW0]; exact hx2
        have hW0b : Blk W0 w.heap.size 88 [.int .i64 0, .bool false, .slice none 0 0] := by rw [hW0]; exact hb2.alloc _
        have hW0l : Below w.heap.size w W0 := by rw [hW0]; exact hbel2.alloc hbel2.size _
        clear hb2 hx2 hbel2
        go_upto_region 10 with fail
        rw [← hW0]
        clear hW0 hle1 hle2 hw hwn hdd hdn hsz1 HRB HBEL HN0 HN1
        go_loopw [13] (fun y wr => ∃ (j q : Nat) (acc : List El) (lv : Value) (us : List Value) (P : Nat → Prop), y = .int .i64 (q : Nat) ∧ q ≤ b.size ∧ Hid (loopV (fun q => elemV b k q (d + 1)) b j q acc = res) ∧ b.size < q + j ∧ Blk wr (w.heap.size + 1) 88 [.int .i64 n, .bool true, lv] ∧ Blk wr w.heap.size 88 [.int .i64 0, .bool false, .slice none 0 0] ∧
          EO 88 (w.heap.size + 2) P wr lv acc us ∧ acc.length ≤ q ∧ Below w.heap.size w wr) (fun y _ => b.size - (intOf y).toNat)
        case atStart => exact ⟨_, a3, [], _, [], _, rfl, n2, HRES, by omega, hW0x, hW0b, EO.nil _ _ _, Nat.zero_le _, hW0l⟩
        case round =>
          obtain ⟨j, q, acc, lv, us, P, rfl, hq, HLV, hjq, hxb, hrb, heo, hacc, hbl⟩ := hrel
          cases j with
          | zero => omega
          | succ j =>
            obtain ⟨Al, cl, rfl⟩ := own_slice heo.own
            have hq63 : (q : Int) ≤ 1000000 := by omega
            cases hsp : isV b q 32 with
            | true =>
              have hql := isV_lt hsp
              have hql1 : (q : Int) < (b.size : Int) := by omega
              have hw : (((b[q]).toNat : Int) == 32) = true := by rw [isV_at hql] at hsp; exact hsp
              have hwq : IntKind.i64.wrap ((q : Int) + 1) = (q : Int) + 1 := IntWalk.i64_in _ (by omega)
              have hlv := HLV.out
              unfold loopV at hlv
              rw [if_pos hsp] at hlv
              have hprog := HPROG.out (q + 1)
              have hcall := HIH.out wr (q + 1) (d + 1) (by omega) hd65 (by omega)
              rw [show ((q + 1 : Nat) : Int) = (q : Int) + 1 by omega, show ((d + 1 : Nat) : Int) = (d : Int) + 1 by omega] at hcall
              revert hlv hcall hprog
              generalize elemV b k (q + 1) (d + 1) = er
              intro hlv hprog hcall
              have HXB := Lib.hid hxb
              have HRB := Lib.hid hrb
              have HEO := Lib.hid heo
              have HBL := Lib.hid hbl
              have hszw : w.heap.size + 2 ≤ wr.heap.size := by have := hxb.lt; omega
              clear hxb hrb heo hbl hsp
              cases er with
              | error er =>
                obtain ⟨a', e⟩ := er
                simp only at hlv
                have hx : rr = .error (a', e) := by rw [HRR.out, ← hlv]
                have HX := Lib.hid hx
                have hc2 : Calls Tryd.prog 52 #[.string b, .int .i64 ((q : Int) + 1), .int .i64 ((d : Int) + 1)] wr fun en W' => en = .returned (.tuple #[.agg #[.int .i64 0, .bool false, .slice none 0 0], .int .i64 (a' : Nat), .int .i64 e]) ∧ Below wr.heap.size wr W' ∧ e ≠ 0 := hcall
                have HC2 := Lib.hid hc2
                clear hx hc2 hcall hlv hprog
                by_cases hez : e = 0
                · go_wp2_with (go_at_call 52; refine HC2.out.mono ?_; rintro en w6 ⟨rfl, hb6, hne⟩; exact absurd hez hne)
                · have hne1 : (e == 0) = false := by simpa using hez
                  have HNE := Lib.hid hez
                  go_upto_region 12 with (go_at_call 52; refine HC2.out.mono ?_; rintro en w6 ⟨rfl, hb6, -⟩)
                  have hr6 : Blk (w6.alloc (.cells #[.int .i64 0, .bool false, .slice none 0 0] 88)) w.heap.size 88 [.int .i64 0, .bool false, .slice none 0 0] := (HRB.out.below hb6 (by omega)).alloc _
                  have hbl6 := (HBL.out.trans (hb6.mono HBL.out.size)).alloc (Nat.le_trans HBL.out.size hb6.size) (.cells #[.int .i64 0, .bool false, .slice none 0 0] 88)
                  have HBL6 := Lib.hid hbl6
                  revert hr6 HBL6
                  clear hbl6
                  generalize w6.alloc (.cells #[.int .i64 0, .bool false, .slice none 0 0] 88) = w7
                  intro hr6 HBL6
                  have c0 := hr6.cellAt (i := 0) rfl
                  have c1 := hr6.cellAt (i := 1) rfl
                  have c2 := hr6.cellAt (i := 2) rfl
                  have f0 := hr6.frozen 0
                  have f1 := hr6.frozen 1
                  have f2 := hr6.frozen 2
                  clear hb6
                  go_wp2
                  have hb5 := ((hr6.set 0 (.int .i64 0)).set 1 (.bool false)).set 2 (.slice none 0 0)
                  have j0 := hb5.cellAt (i := 0) rfl
                  have j1 := hb5.cellAt (i := 1) rfl
                  have j2 := hb5.cellAt (i := 2) rfl
                  have BEL := (((HBL6.out).setCell (p := ⟨w.heap.size, 0, none⟩) (Nat.le_refl _) (.int .i64 0)).setCell (p := ⟨w.heap.size, 1, none⟩) (Nat.le_refl _) (.bool false)).setCell (p := ⟨w.heap.size, 2, none⟩) (Nat.le_refl _) (.slice none 0 0)
                  refine bodyPost_ret (v := .tuple #[.agg #[.int .i64 0, .bool false, .slice none 0 0], .int .i64 (a' : Nat), .int .i64 e]) (by simp [results, Tryd.results52, go_sem, j0, j1, j2]) rfl ?_
                  exact (by rw [HX.out]; exact ⟨rfl, BEL, HNE.out⟩)
              | ok xr =>
                obtain ⟨⟨p, c, body⟩, a2⟩ := xr
                simp only at hlv
                obtain ⟨ha2, ha3⟩ := hprog _ _ rfl (by omega)
                have HLV2 := Lib.hid hlv
                have hc2 : Calls Tryd.prog 52 #[.string b, .int .i64 ((q : Int) + 1), .int .i64 ((d : Int) + 1)] wr fun en W' => ∃ v, en = .returned (.tuple #[.agg #[.int .i64 p, .bool c, v], .int .i64 (a2 : Nat), .int .i64 0]) ∧ Els (fun c => wr.heap.size ≤ c ∧ Typed W' c 88) W' v body ∧ Below wr.heap.size wr W' ∧ InI64 p := hcall
                have HC2 := Lib.hid hc2
                clear hc2 hcall hlv hprog
                go_upto_region 12 with (go_at_call 52; refine HC2.out.mono ?_; rintro en w6 ⟨v6, rfl, hels6, hb6, hi6⟩; obtain ⟨A6, c6, rfl, -⟩ := id hels6.shape)
                have hx6 := HXB.out.below hb6 (by omega)
                have hr6 := HRB.out.below hb6 (by omega)
                have he6 := HEO.out.only (S := fun _ => False) (Only.of_below hb6 (fun b h1 h2 => by omega)) (fun _ _ f => f) (fun _ _ f => f)
                have hbl6 := HBL.out.trans (hb6.mono HBL.out.size)
                have hwr6 := hb6.size
                have hrow : ∀ r, (Value.slice Al acc.length cl).ownBlock = some r → w.heap.size + 2 ≤ r ∧ r < wr.heap.size := fun r hr => HEO.out.own.lt r hr
                have hz7 : (w6.alloc (.cells #[.int .i64 p, .bool c, .slice A6 body.length c6] 88)).heap.size = w6.heap.size + 1 := World.size_alloc _ _
                have hels7 := (hels6.only ((Only.refl (fun _ => False) w6).alloc (.cells #[.int .i64 p, .bool c, .slice A6 body.length c6] 88)) (fun b hb => ⟨hb.2.lt, fun f => f⟩)).mono (Q := fun b => wr.heap.size ≤ b ∧ Typed (w6.alloc (.cells #[.int .i64 p, .bool c, .slice A6 body.length c6] 88)) b 88) (fun b hb => ⟨hb.1, hb.2.only ((Only.refl (fun _ => False) w6).alloc _) (fun f => f)⟩)
                have hx7 := hx6.alloc (.cells #[.int .i64 p, .bool c, .slice A6 body.length c6] 88)
                have hr7 := hr6.alloc (.cells #[.int .i64 p, .bool c, .slice A6 body.length c6] 88)
                have he7 := he6.alloc (.cells #[.int .i64 p, .bool c, .slice A6 body.length c6] 88)
                have hbl7 := hbl6.alloc hbl6.size (.cells #[.int .i64 p, .bool c, .slice A6 body.length c6] 88)
                have hy7 := Blk.newAt w6 88 #[.int .i64 p, .bool c, .slice A6 body.length c6] rfl
                clear hx6 hr6 he6 hbl6 hels6 hb6
                revert hz7 hels7 hx7 hr7 he7 hbl7 hy7
                generalize w6.alloc (.cells #[.int .i64 p, .bool c, .slice A6 body.length c6] 88) = w7
                generalize hg6 : w6.heap.size = y6 at *
                intro hz7 hels7 hx7 hr7 he7 hbl7 hy7
                have y0 := hy7.cellAt (i := 0) rfl
                have y1 := hy7.cellAt (i := 1) rfl
                have y2 := hy7.cellAt (i := 2) rfl
                have x2 := hx7.cellAt (i := 2) rfl
                obtain ⟨il, hil, hl0, hl1, hl2⟩ := info_parts info_rel'
                have hels8 := (hels7.only ((Only.refl (fun _ => False) w7).alloc (.cells #[.int .i64 p, .bool c, .slice A6 body.length c6] 88)) (fun b hb => ⟨hb.2.lt, fun f => f⟩)).mono (Q := fun b => wr.heap.size ≤ b ∧ Typed (w7.alloc (.cells #[.int .i64 p, .bool c, .slice A6 body.length c6] 88)) b 88) (fun b hb => ⟨hb.1, hb.2.only ((Only.refl (fun _ => False) w7).alloc _) (fun f => f)⟩)
                have hx8 := hx7.alloc (.cells #[.int .i64 p, .bool c, .slice A6 body.length c6] 88)
                have hr8 := hr7.alloc (.cells #[.int .i64 p, .bool c, .slice A6 body.length c6] 88)
                have he8 := he7.alloc (.cells #[.int .i64 p, .bool c, .slice A6 body.length c6] 88)
                have hbl8 := hbl7.alloc hbl7.size (.cells #[.int .i64 p, .bool c, .slice A6 body.length c6] 88)
                have hnb := Blk.newAt (N := y6 + 1) w7 88 #[.int .i64 p, .bool c, .slice A6 body.length c6] hz7
                have hw8 : w.heap.size + 2 ≤ (w7.alloc (.cells #[.int .i64 p, .bool c, .slice A6 body.length c6] 88)).heap.size := by rw [World.size_alloc]; omega
                have hwlt : (w7.alloc (.cells #[.int .i64 p, .bool c, .slice A6 body.length c6] 88)).heap.size = w7.heap.size + 1 := World.size_alloc _ _
                have HELS8 := Lib.hid hels8
                have HX8 := Lib.hid hx8
                have HR8 := Lib.hid hr8
                have HE8 := Lib.hid he8
                have HBL8 := Lib.hid hbl8
                have HROW := Lib.hid hrow
                have HI6 := Lib.hid hi6
                have HWLT := Lib.hid hwlt
                clear hels7 hels8 hx7 hx8 hr7 hr8 he7 he8 hbl7 hbl8 hy7 hrow hi6 hwlt
                go_wp2_with (at_builtin; go_loud (refine wpList_append_lies _ rfl (.tmp 85) (.tmp 87) 31 rfl (w.heap.size + 2) 88 il (.agg #[.int .i64 0, .bool false, .slice none 0 0]) 3 40 Tryd.underlying31 hil hl0 hl1 hl2 rfl (by decide) (.slice Al acc.length cl) acc.length (elCells acc us) rfl HE8.out.own ⟨y6 + 1, 0, none⟩ 1 1 [.int .i64 p, .bool c, .slice A6 body.length c6] rfl rfl (fun j u' hj => by rw [add_none]; exact hnb.cellAt hj) (fun u' hu => by simp at hu; rcases hu with rfl | rfl | rfl <;> rfl) (by decide) (by unfold maxLen; omega) (by omega) hw8 _ rfl ?_); intro g7 c7 w9 hown9 hgr9 hat9 _; have hx9 := HX8.out.same (hgr9.block _ (by rw [HWLT.out]; omega) (fun e => by have := HROW.out _ e.symm; omega)); have x9 := hx9.cellAt (i := 2) rfl; have f9 := hx9.frozen 2)
                have hput := HE8.out.put (Q := fun b => wr.heap.size ≤ b ∧ Typed (w7.alloc (.cells #[.int .i64 p, .bool c, .slice A6 body.length c6] 88)) b 88) (u := .slice A6 body.length c6) (x := El.mk p c body) (pre := acc) (post := []) (ups := us) (uqs := []) (v' := .slice (some ⟨g7, 0, none⟩) (acc.length + 1) c7) (by simp) (by simp) HE8.out.len HELS8.out
                  (fun b hb => ⟨by have := hb.1; omega, hb.2, fun h => by have := (HROW.out b h).2; have := hb.1; omega⟩) HI6.out hgr9 (by rw [elCells_append _ _ _ _ HE8.out.len]; simpa [elCells, El.p, El.c] using hown9) (by
                    rcases hat9 with h | h
                    · exact .inl (by rw [h]; rfl)
                    · exact .inr ⟨g7, rfl, by first | exact Nat.le_of_eq h.symm | (rw [h]; simp) | (rw [h])⟩)
                have hr9 := HR8.out.same (hgr9.block _ (by rw [HWLT.out]; omega) (fun e => by have := HROW.out _ e.symm; omega))
                have hbl9 := HBL8.out.grown hgr9 (by rw [HWLT.out]; omega) (fun k hk => by have := (HROW.out k hk).1; omega)
                have HPUT := Lib.hid hput
                have HX9 := Lib.hid hx9
                have HR9 := Lib.hid hr9
                have HBL9 := Lib.hid hbl9
                clear hput hx9 hr9 hbl9 hown9 hgr9 hat9 hnb
                go_wp2
                go_roundw
                case rel =>
                  have hput' := HPUT.out.only (S := fun c => c = w.heap.size + 1) ((Only.refl (fun c => c = w.heap.size + 1) w9).set (p := ⟨w.heap.size + 1, 2, none⟩) (fun _ => rfl) (.slice (some ⟨g7, 0, none⟩) (acc.length + 1) c7)) (fun c hc e => by have := (HPUT.out.own.lt c hc).1; omega) (fun c hc e => by have := (HPUT.out.apart c hc).1; omega)
                  exact ⟨j, a2, acc ++ [El.mk p c body], _, _, _, rfl, ha3, HLV2, by omega, by simpa using HX9.out.set 2 (.slice (some ⟨g7, 0, none⟩) (acc.length + 1) c7), HR9.out.far (p := ⟨w.heap.size + 1, 2, none⟩) (by show w.heap.size ≠ w.heap.size + 1; omega) _, by simpa using hput', by simp; omega, HBL9.out.setCell (p := ⟨w.heap.size + 1, 2, none⟩) (by show w.heap.size ≤ w.heap.size + 1; omega) _⟩
                case measure => simp [intOf]; omega
            | false =>
              have hre : res = .ok (acc, q) := by
                have := HLV.out
                unfold loopV at this
                rw [if_neg (by rw [hsp]; simp)] at this
                exact this.symm
              have hrr : rr = if isV b q 41 = true then .ok (.mk n true acc, q + 1) else .error (q, 4) := by rw [HRR.out, hre]
              have HXB := Lib.hid hxb
              have HRB := Lib.hid hrb
              have HEO := Lib.hid heo
              have HBL := Lib.hid hbl
              have c0 := hrb.cellAt (i := 0) rfl
              have c1 := hrb.cellAt (i := 1) rfl
              have c2 := hrb.cellAt (i := 2) rfl
              have f0 := hrb.frozen 0
              have f1 := hrb.frozen 1
              have f2 := hrb.frozen 2
              have x0 := hxb.cellAt (i := 0) rfl
              have x1 := hxb.cellAt (i := 1) rfl
              have x2 := hxb.cellAt (i := 2) rfl
              cases h41 : isV b q 41 with
              | true =>
                rw [if_pos h41] at hrr
                have HX := Lib.hid hrr
                have hql := isV_lt h41
                have hql1 : (q : Int) < (b.size : Int) := by omega
                have hqe1 : decide ((b.size : Int) ≤ (q : Int)) = false := by rw [decide_eq_false_iff_not]; omega
                have hqe2 : decide (b.size ≤ q) = false := by rw [decide_eq_false_iff_not]; omega
                rw [isV_at hql] at h41 hsp
                have hw4 : (((b[q]).toNat : Int) != 41) = false := by simpa using h41
                have hwq : IntKind.i64.wrap ((q : Int) + 1) = (q : Int) + 1 := IntWalk.i64_in _ (by omega)
                clear hre hrr hxb hrb heo hbl hjq HLV
                go_wp2
                have hb5 := ((HRB.out.set 0 (.int .i64 n)).set 1 (.bool true)).set 2 (.slice Al acc.length cl)
                have j0 := hb5.cellAt (i := 0) rfl
                have j1 := hb5.cellAt (i := 1) rfl
                have j2 := hb5.cellAt (i := 2) rfl
                have BEL := (((HBL.out).setCell (p := ⟨w.heap.size, 0, none⟩) (Nat.le_refl _) (.int .i64 n)).setCell (p := ⟨w.heap.size, 1, none⟩) (Nat.le_refl _) (.bool true)).setCell (p := ⟨w.heap.size, 2, none⟩) (Nat.le_refl _) (.slice Al acc.length cl)
                refine bodyPost_ret (v := .tuple #[.agg #[.int .i64 n, .bool true, (.slice Al acc.length cl)], .int .i64 ((q + 1) : Nat), .int .i64 0]) (by simp [results, Tryd.results52, go_sem, j0, j1, j2]) rfl ?_
                exact (by rw [HX.out]; exact ⟨_, rfl, ((HEO.out.els (by omega)).only (S := fun c => c = w.heap.size) ((((Only.refl (fun c => c = w.heap.size) wr).set (p := ⟨w.heap.size, 0, none⟩) (fun _ => rfl) (.int .i64 n)).set (p := ⟨w.heap.size, 1, none⟩) (fun _ => rfl) (.bool true)).set (p := ⟨w.heap.size, 2, none⟩) (fun _ => rfl) (.slice Al acc.length cl)) (fun c hc => ⟨hc.2.lt, fun e => by have := hc.1; omega⟩)).mono (fun c hc => ⟨by have := hc.1; omega, hc.2.only ((((Only.refl (fun c => c = w.heap.size) wr).set (p := ⟨w.heap.size, 0, none⟩) (fun _ => rfl) (.int .i64 n)).set (p := ⟨w.heap.size, 1, none⟩) (fun _ => rfl) (.bool true)).set (p := ⟨w.heap.size, 2, none⟩) (fun _ => rfl) (.slice Al acc.length cl)) (fun e => by have := hc.1; omega)⟩), BEL, HNI.out⟩)
              | false =>
                rw [if_neg (by rw [h41]; simp)] at hrr
                have HX := Lib.hid hrr
                have hway : (decide ((q : Int) < (b.size : Int)) = false ∧ decide (q < b.size) = false ∧ decide ((b.size : Int) ≤ (q : Int)) = true ∧ decide (b.size ≤ q) = true) ∨ ∃ hql : q < b.size, (((b[q]).toNat : Int) == 32) = false ∧ (((b[q]).toNat : Int) == 41) = false ∧ (((b[q]).toNat : Int) != 41) = true := by
                  by_cases hql : q < b.size
                  · rw [isV_at hql] at h41 hsp
                    exact .inr ⟨hql, hsp, h41, by simpa using h41⟩
                  · exact .inl ⟨by rw [decide_eq_false_iff_not]; omega, by rw [decide_eq_false_iff_not]; omega, by rw [decide_eq_true_iff]; omega, by rw [decide_eq_true_iff]; omega⟩
                clear hre hrr hxb hrb heo hbl hjq HLV hsp h41
                rcases hway with ⟨hw1, hw2, hw3, hw4⟩ | ⟨hql, hw1, hw2, hw3⟩
                all_goals
                  try have hql1 : (q : Int) < (b.size : Int) := by omega
                  try have hqe1 : decide ((b.size : Int) ≤ (q : Int)) = false := by rw [decide_eq_false_iff_not]; omega
                  try have hqe2 : decide (b.size ≤ q) = false := by rw [decide_eq_false_iff_not]; omega
                  go_wp2
                  have hb5 := ((HRB.out.set 0 (.int .i64 0)).set 1 (.bool false)).set 2 (.slice none 0 0)
                  have j0 := hb5.cellAt (i := 0) rfl
                  have j1 := hb5.cellAt (i := 1) rfl
                  have j2 := hb5.cellAt (i := 2) rfl
                  have BEL := (((HBL.out).setCell (p := ⟨w.heap.size, 0, none⟩) (Nat.le_refl _) (.int .i64 0)).setCell (p := ⟨w.heap.size, 1, none⟩) (Nat.le_refl _) (.bool false)).setCell (p := ⟨w.heap.size, 2, none⟩) (Nat.le_refl _) (.slice none 0 0)
                  refine bodyPost_ret (v := .tuple #[.agg #[.int .i64 0, .bool false, .slice none 0 0], .int .i64 (q : Nat), .int .i64 4]) (by simp [results, Tryd.results52, go_sem, j0, j1, j2]) rfl ?_
                  exact (by rw [HX.out]; exact ⟨rfl, BEL, by decide⟩)

theorem relement_all {b : ByteArray} (hb : b.size ≤ 1000000) : ∀ k, ElemRAt b k
  | 0 => fun w a d _ h1 h2 => by omega
  | k + 1 => relement_succ hb k (relement_all hb k)
end Go.Proofs.YthaampinmelgaaaDoor

/-! The reference's Parse. -/
namespace Go.Proofs.YthaampinmelgaaaDoor
open Go.RowKit Go.Shelf

set_option maxRecDepth 100000 in
set_option maxHeartbeats 1000000 in
theorem rparse_long {b : ByteArray} (hb : 65536 < b.size) (w : World) :
    Calls Tryd.prog 20 #[.string b] w fun en w' => en = .returned (.tuple #[.slice none 0 0, .int .i64 0, .int .i64 13]) ∧ Below w.heap.size w w' := by
  have hd : decide ((65536 : Int) < (b.size : Int)) = true := by rw [decide_eq_true_iff]; omega
  have hd2 : decide (65536 < b.size) = true := decide_eq_true hb
  clear hb
  go_enter Tryd.func20, Tryd.ntmps20
  go_wp2
  go_ret3
  exact ⟨rfl, Below.refl _ _⟩

/-- What the reference's Parse gives. -/
def ParseR (W : World) (r : Except (Nat × Int) (List El)) (en : Ending) (W' : World) : Prop :=
  match r with
  | .ok l => (∃ v, en = .returned (.tuple #[v, .int .i64 0, .int .i64 0]) ∧ Els (fun c => W.heap.size ≤ c ∧ Typed W' c 88) W' v l ∧ Below W.heap.size W W')
  | .error (a', e) => en = .returned (.tuple #[.slice none 0 0, .int .i64 (a' : Nat), .int .i64 e]) ∧ Below W.heap.size W W'

set_option maxRecDepth 100000 in
set_option maxHeartbeats 4000000 in
theorem rparse_any {b : ByteArray} (hb : b.size ≤ 65536) (w : World) :
    Calls Tryd.prog 20 #[.string b] w (ParseR w (parseL b 65 (b.size + 1) 0 [])) := by
  have hd : decide ((65536 : Int) < (b.size : Int)) = false := by rw [decide_eq_false_iff_not]; omega
  have hd2 : decide (65536 < b.size) = false := by rw [decide_eq_false_iff_not]; omega
  obtain ⟨r, hr⟩ : ∃ r, parseL b 65 (b.size + 1) 0 [] = r := ⟨_, rfl⟩
  rw [hr]
  have HR := Lib.hid hr
  have HEL := Lib.hid (relement_all (b := b) (by omega) 65)
  have hb63 : (b.size : Int) ≤ 1000000 := by omega
  have HBB := Lib.hid hb
  clear hr hb
  go_enter Tryd.func20, Tryd.ntmps20
  go_wp2
  clear hd hd2
  go_loopw [5, 6] (fun x y wr => ∃ (j q : Nat) (acc : List El) (lv : Value) (us : List Value) (P : Nat → Prop), lv = x ∧ y = .int .i64 (q : Nat) ∧ q ≤ b.size ∧ Hid (parseL b 65 j q acc = r) ∧ b.size < q + j ∧ EO 88 w.heap.size P wr lv acc us ∧ acc.length ≤ q ∧ Below w.heap.size w wr) (fun _ y _ => b.size - (intOf y).toNat)
  case atStart => exact ⟨_, 0, [], _, [], _, rfl, rfl, Nat.zero_le _, HR, by omega, EO.nil _ _ _, Nat.zero_le _, Below.refl _ _⟩
  case round =>
    obtain ⟨j, q, acc, lv, us, P, rfl, rfl, hq, HLV, hjq, heo, hacc, hbl⟩ := hrel
    cases j with
    | zero => omega
    | succ j =>
      have hq63 : (q : Int) ≤ 1000000 := by omega
      by_cases hlt : q < b.size
      · have hlt1 : (q : Int) < (b.size : Int) := by omega
        have hlv := HLV.out
        unfold parseL at hlv
        rw [if_pos hlt] at hlv
        have HEO := Lib.hid heo
        have HBL := Lib.hid hbl
        have HPR := Lib.hid (fun q x a5 => elemV_prog (b := b) 65 q 0 x a5)
        clear heo hbl HLV
        by_cases hq0 : q = 0
        · subst hq0
          simp only [true_or, if_true] at hlv
          have hcall := HEL.out wr 0 0 (by omega) (by omega) (by omega)
          rw [show ((0 : Nat) : Int) = 0 from rfl] at hcall
          have hprog := HPR.out 0
          revert hlv hprog hcall
          generalize elemV b 65 0 0 = er
          intro hlv hcall hprog
          cases er with
          | error er =>
            obtain ⟨a', e⟩ := er
            simp only at hlv
            have HX := Lib.hid hlv
            have hc2 : Calls Tryd.prog 52 #[.string b, .int .i64 0, .int .i64 0] wr fun en W' => en = .returned (.tuple #[.agg #[.int .i64 0, .bool false, .slice none 0 0], .int .i64 (a' : Nat), .int .i64 e]) ∧ Below wr.heap.size wr W' ∧ e ≠ 0 := hcall
            have HC2 := Lib.hid hc2
            clear hlv hprog hcall hc2
            by_cases hez : e = 0
            · go_wp2_with (go_at_call 52; refine HC2.out.mono ?_; rintro en w6 ⟨rfl, hb6, hne⟩; exact absurd hez hne)
            · have hne1 : (e == 0) = false := by simpa using hez
              clear hez
              go_wp2_with (go_at_call 52; refine HC2.out.mono ?_; rintro en w6 ⟨rfl, hb6, -⟩; have hb66 := HBL.out.trans (hb6.mono HBL.out.size))
              go_ret3
              rw [← HX.out]
              exact ⟨rfl, hb66.alloc hb66.size _⟩
          | ok xr =>
            obtain ⟨⟨p, c, body⟩, a2⟩ := xr
            simp only at hlv
            obtain ⟨ha2, ha3⟩ := hprog _ _ rfl (by omega)
            have HLV2 := Lib.hid hlv
            have hc2 : Calls Tryd.prog 52 #[.string b, .int .i64 0, .int .i64 0] wr fun en W' => ∃ v, en = .returned (.tuple #[.agg #[.int .i64 p, .bool c, v], .int .i64 (a2 : Nat), .int .i64 0]) ∧ Els (fun c => wr.heap.size ≤ c ∧ Typed W' c 88) W' v body ∧ Below wr.heap.size wr W' ∧ InI64 p := hcall
            have HC2 := Lib.hid hc2
            clear hlv hprog hcall hc2
            have hwW := HBL.out.size
            go_upto_region 11 with (go_at_call 52; refine HC2.out.mono ?_; rintro en w6 ⟨v6, rfl, hels6, hb6, hi6⟩; obtain ⟨A6, c6, rfl, -⟩ := id hels6.shape)
            have he6 := HEO.out.only (S := fun _ => False) (Only.of_below hb6 (fun b h1 h2 => by omega)) (fun _ _ f => f) (fun _ _ f => f)
            have hbl6 := HBL.out.trans (hb6.mono HBL.out.size)
            have hwr6 := hb6.size
            have hrow : ∀ r, lv.ownBlock = some r → w.heap.size ≤ r ∧ r < wr.heap.size := fun r hr => HEO.out.own.lt r hr
            have hz7 : (w6.alloc (.cells #[.int .i64 p, .bool c, .slice A6 body.length c6] 88)).heap.size = w6.heap.size + 1 := World.size_alloc _ _
            have hels7 := (hels6.only ((Only.refl (fun _ => False) w6).alloc (.cells #[.int .i64 p, .bool c, .slice A6 body.length c6] 88)) (fun b hb => ⟨hb.2.lt, fun f => f⟩)).mono (Q := fun b => wr.heap.size ≤ b ∧ Typed (w6.alloc (.cells #[.int .i64 p, .bool c, .slice A6 body.length c6] 88)) b 88) (fun b hb => ⟨hb.1, hb.2.only ((Only.refl (fun _ => False) w6).alloc _) (fun f => f)⟩)
            have he7 := he6.alloc (.cells #[.int .i64 p, .bool c, .slice A6 body.length c6] 88)
            have hbl7 := hbl6.alloc hbl6.size (.cells #[.int .i64 p, .bool c, .slice A6 body.length c6] 88)
            have hy7 := Blk.newAt w6 88 #[.int .i64 p, .bool c, .slice A6 body.length c6] rfl
            clear he6 hbl6 hels6 hb6
            revert hz7 hels7 he7 hbl7 hy7
            generalize w6.alloc (.cells #[.int .i64 p, .bool c, .slice A6 body.length c6] 88) = w7
            generalize hg6 : w6.heap.size = y6 at *
            intro hz7 hels7 he7 hbl7 hy7
            have y0 := hy7.cellAt (i := 0) rfl
            have y1 := hy7.cellAt (i := 1) rfl
            have y2 := hy7.cellAt (i := 2) rfl
            obtain ⟨il, hil, hl0, hl1, hl2⟩ := info_parts info_rel'
            have hels8 := (hels7.only ((Only.refl (fun _ => False) w7).alloc (.cells #[.int .i64 p, .bool c, .slice A6 body.length c6] 88)) (fun b hb => ⟨hb.2.lt, fun f => f⟩)).mono (Q := fun b => wr.heap.size ≤ b ∧ Typed (w7.alloc (.cells #[.int .i64 p, .bool c, .slice A6 body.length c6] 88)) b 88) (fun b hb => ⟨hb.1, hb.2.only ((Only.refl (fun _ => False) w7).alloc _) (fun f => f)⟩)
            have he8 := he7.alloc (.cells #[.int .i64 p, .bool c, .slice A6 body.length c6] 88)
            have hbl8 := hbl7.alloc hbl7.size (.cells #[.int .i64 p, .bool c, .slice A6 body.length c6] 88)
            have hnb := Blk.newAt (N := y6 + 1) w7 88 #[.int .i64 p, .bool c, .slice A6 body.length c6] hz7
            have hwlt : (w7.alloc (.cells #[.int .i64 p, .bool c, .slice A6 body.length c6] 88)).heap.size = w7.heap.size + 1 := World.size_alloc _ _
            have hw8 : w.heap.size ≤ (w7.alloc (.cells #[.int .i64 p, .bool c, .slice A6 body.length c6] 88)).heap.size := by rw [World.size_alloc]; omega
            have HELS8 := Lib.hid hels8
            have HE8 := Lib.hid he8
            have HBL8 := Lib.hid hbl8
            have HROW := Lib.hid hrow
            have HI6 := Lib.hid hi6
            have HWLT := Lib.hid hwlt
            clear hels7 hels8 he7 he8 hbl7 hbl8 hy7 hrow hi6 hwlt
            go_wp2_with (at_builtin; refine wpList_append_lies _ rfl (.tmp 37) (.tmp 39) 31 rfl w.heap.size 88 il (.agg #[.int .i64 0, .bool false, .slice none 0 0]) 3 40 Tryd.underlying31 hil hl0 hl1 hl2 rfl (by decide) lv acc.length (elCells acc us) rfl HE8.out.own ⟨y6 + 1, 0, none⟩ 1 1 [.int .i64 p, .bool c, .slice A6 body.length c6] rfl rfl (fun j u' hj => by rw [add_none]; exact hnb.cellAt hj) (fun u' hu => by simp at hu; rcases hu with rfl | rfl | rfl <;> rfl) (by decide) (by unfold maxLen; omega) (by omega) hw8 _ rfl ?_; intro g7 c7 w9 hown9 hgr9 hat9 _)
            have hput := HE8.out.put (Q := fun b => wr.heap.size ≤ b ∧ Typed (w7.alloc (.cells #[.int .i64 p, .bool c, .slice A6 body.length c6] 88)) b 88) (u := .slice A6 body.length c6) (x := El.mk p c body) (pre := acc) (post := []) (ups := us) (uqs := []) (v' := .slice (some ⟨g7, 0, none⟩) (acc.length + 1) c7) (by simp) (by simp) HE8.out.len HELS8.out
              (fun b hb => ⟨by have := hb.1; omega, hb.2, fun h => by have := (HROW.out b h).2; have := hb.1; omega⟩) HI6.out hgr9 (by rw [elCells_append _ _ _ _ HE8.out.len]; simpa [elCells, El.p, El.c] using hown9) (by
                rcases hat9 with h | h
                · exact .inl (by rw [h]; rfl)
                · exact .inr ⟨g7, rfl, by first | exact Nat.le_of_eq h.symm | (rw [h]; simp) | (rw [h])⟩)
            have hbl9 := HBL8.out.grown hgr9 (by rw [HWLT.out]; omega) (fun k hk => (HROW.out k hk).1)
            have HPUT := Lib.hid hput
            have HBL9 := Lib.hid hbl9
            clear hput hbl9 hown9 hgr9 hat9 hnb
            go_wp2
            go_roundw
            case rel => exact ⟨j, a2, acc ++ [El.mk p c body], _, _, _, rfl, rfl, ha3, HLV2, by omega, by simpa using HPUT.out, by simp; omega, HBL9.out⟩
            case measure => simp [intOf]; omega
        · have hp1 : decide ((0 : Int) < (q : Int)) = true := by rw [decide_eq_true_iff]; omega
          have hp2 : decide (0 < q) = true := by rw [decide_eq_true_iff]; omega
          cases hsp : isV b q 32 with
          | false =>
            rw [if_neg (by rw [hsp]; simp [hq0])] at hlv
            have HX := Lib.hid hlv
            rw [isV_at hlt] at hsp
            have hw : (((b[q]).toNat : Int) != 32) = true := by simpa using hsp
            clear hlv hq0 hsp
            go_wp2
            go_ret3
            rw [← HX.out]
            exact ⟨rfl, HBL.out⟩
          | true =>
            rw [if_pos (.inr hsp), if_neg hq0] at hlv
            rw [isV_at hlt] at hsp
            have hw : (((b[q]).toNat : Int) != 32) = false := by simpa using hsp
            have hwq : IntKind.i64.wrap ((q : Int) + 1) = (q : Int) + 1 := IntWalk.i64_in _ (by omega)
            clear hq0 hsp
            have hcall := HEL.out wr (q + 1) 0 (by omega) (by omega) (by omega)
            rw [show ((q + 1 : Nat) : Int) = (q : Int) + 1 by omega] at hcall
            have hprog := HPR.out (q + 1)
            revert hlv hprog hcall
            generalize elemV b 65 (q + 1) 0 = er
            intro hlv hcall hprog
            cases er with
            | error er =>
              obtain ⟨a', e⟩ := er
              simp only at hlv
              have HX := Lib.hid hlv
              have hc2 : Calls Tryd.prog 52 #[.string b, .int .i64 ((q : Int) + 1), .int .i64 0] wr fun en W' => en = .returned (.tuple #[.agg #[.int .i64 0, .bool false, .slice none 0 0], .int .i64 (a' : Nat), .int .i64 e]) ∧ Below wr.heap.size wr W' ∧ e ≠ 0 := hcall
              have HC2 := Lib.hid hc2
              clear hlv hprog hcall hc2
              by_cases hez : e = 0
              · go_wp2_with (go_at_call 52; refine HC2.out.mono ?_; rintro en w6 ⟨rfl, hb6, hne⟩; exact absurd hez hne)
              · have hne1 : (e == 0) = false := by simpa using hez
                clear hez
                go_wp2_with (go_at_call 52; refine HC2.out.mono ?_; rintro en w6 ⟨rfl, hb6, -⟩; have hb66 := HBL.out.trans (hb6.mono HBL.out.size))
                go_ret3
                rw [← HX.out]
                exact ⟨rfl, hb66.alloc hb66.size _⟩
            | ok xr =>
              obtain ⟨⟨p, c, body⟩, a2⟩ := xr
              simp only at hlv
              obtain ⟨ha2, ha3⟩ := hprog _ _ rfl (by omega)
              have HLV2 := Lib.hid hlv
              have hc2 : Calls Tryd.prog 52 #[.string b, .int .i64 ((q : Int) + 1), .int .i64 0] wr fun en W' => ∃ v, en = .returned (.tuple #[.agg #[.int .i64 p, .bool c, v], .int .i64 (a2 : Nat), .int .i64 0]) ∧ Els (fun c => wr.heap.size ≤ c ∧ Typed W' c 88) W' v body ∧ Below wr.heap.size wr W' ∧ InI64 p := hcall
              have HC2 := Lib.hid hc2
              clear hlv hprog hcall hc2
              have hwW := HBL.out.size
              go_upto_region 11 with (go_at_call 52; refine HC2.out.mono ?_; rintro en w6 ⟨v6, rfl, hels6, hb6, hi6⟩; obtain ⟨A6, c6, rfl, -⟩ := id hels6.shape)
              have he6 := HEO.out.only (S := fun _ => False) (Only.of_below hb6 (fun b h1 h2 => by omega)) (fun _ _ f => f) (fun _ _ f => f)
              have hbl6 := HBL.out.trans (hb6.mono HBL.out.size)
              have hwr6 := hb6.size
              have hrow : ∀ r, lv.ownBlock = some r → w.heap.size ≤ r ∧ r < wr.heap.size := fun r hr => HEO.out.own.lt r hr
              have hz7 : (w6.alloc (.cells #[.int .i64 p, .bool c, .slice A6 body.length c6] 88)).heap.size = w6.heap.size + 1 := World.size_alloc _ _
              have hels7 := (hels6.only ((Only.refl (fun _ => False) w6).alloc (.cells #[.int .i64 p, .bool c, .slice A6 body.length c6] 88)) (fun b hb => ⟨hb.2.lt, fun f => f⟩)).mono (Q := fun b => wr.heap.size ≤ b ∧ Typed (w6.alloc (.cells #[.int .i64 p, .bool c, .slice A6 body.length c6] 88)) b 88) (fun b hb => ⟨hb.1, hb.2.only ((Only.refl (fun _ => False) w6).alloc _) (fun f => f)⟩)
              have he7 := he6.alloc (.cells #[.int .i64 p, .bool c, .slice A6 body.length c6] 88)
              have hbl7 := hbl6.alloc hbl6.size (.cells #[.int .i64 p, .bool c, .slice A6 body.length c6] 88)
              have hy7 := Blk.newAt w6 88 #[.int .i64 p, .bool c, .slice A6 body.length c6] rfl
              clear he6 hbl6 hels6 hb6
              revert hz7 hels7 he7 hbl7 hy7
              generalize w6.alloc (.cells #[.int .i64 p, .bool c, .slice A6 body.length c6] 88) = w7
              generalize hg6 : w6.heap.size = y6 at *
              intro hz7 hels7 he7 hbl7 hy7
              have y0 := hy7.cellAt (i := 0) rfl
              have y1 := hy7.cellAt (i := 1) rfl
              have y2 := hy7.cellAt (i := 2) rfl
              obtain ⟨il, hil, hl0, hl1, hl2⟩ := info_parts info_rel'
              have hels8 := (hels7.only ((Only.refl (fun _ => False) w7).alloc (.cells #[.int .i64 p, .bool c, .slice A6 body.length c6] 88)) (fun b hb => ⟨hb.2.lt, fun f => f⟩)).mono (Q := fun b => wr.heap.size ≤ b ∧ Typed (w7.alloc (.cells #[.int .i64 p, .bool c, .slice A6 body.length c6] 88)) b 88) (fun b hb => ⟨hb.1, hb.2.only ((Only.refl (fun _ => False) w7).alloc _) (fun f => f)⟩)
              have he8 := he7.alloc (.cells #[.int .i64 p, .bool c, .slice A6 body.length c6] 88)
              have hbl8 := hbl7.alloc hbl7.size (.cells #[.int .i64 p, .bool c, .slice A6 body.length c6] 88)
              have hnb := Blk.newAt (N := y6 + 1) w7 88 #[.int .i64 p, .bool c, .slice A6 body.length c6] hz7
              have hwlt : (w7.alloc (.cells #[.int .i64 p, .bool c, .slice A6 body.length c6] 88)).heap.size = w7.heap.size + 1 := World.size_alloc _ _
              have hw8 : w.heap.size ≤ (w7.alloc (.cells #[.int .i64 p, .bool c, .slice A6 body.length c6] 88)).heap.size := by rw [World.size_alloc]; omega
              have HELS8 := Lib.hid hels8
              have HE8 := Lib.hid he8
              have HBL8 := Lib.hid hbl8
              have HROW := Lib.hid hrow
              have HI6 := Lib.hid hi6
              have HWLT := Lib.hid hwlt
              clear hels7 hels8 he7 he8 hbl7 hbl8 hy7 hrow hi6 hwlt
              go_wp2_with (at_builtin; refine wpList_append_lies _ rfl (.tmp 37) (.tmp 39) 31 rfl w.heap.size 88 il (.agg #[.int .i64 0, .bool false, .slice none 0 0]) 3 40 Tryd.underlying31 hil hl0 hl1 hl2 rfl (by decide) lv acc.length (elCells acc us) rfl HE8.out.own ⟨y6 + 1, 0, none⟩ 1 1 [.int .i64 p, .bool c, .slice A6 body.length c6] rfl rfl (fun j u' hj => by rw [add_none]; exact hnb.cellAt hj) (fun u' hu => by simp at hu; rcases hu with rfl | rfl | rfl <;> rfl) (by decide) (by unfold maxLen; omega) (by omega) hw8 _ rfl ?_; intro g7 c7 w9 hown9 hgr9 hat9 _)
              have hput := HE8.out.put (Q := fun b => wr.heap.size ≤ b ∧ Typed (w7.alloc (.cells #[.int .i64 p, .bool c, .slice A6 body.length c6] 88)) b 88) (u := .slice A6 body.length c6) (x := El.mk p c body) (pre := acc) (post := []) (ups := us) (uqs := []) (v' := .slice (some ⟨g7, 0, none⟩) (acc.length + 1) c7) (by simp) (by simp) HE8.out.len HELS8.out
                (fun b hb => ⟨by have := hb.1; omega, hb.2, fun h => by have := (HROW.out b h).2; have := hb.1; omega⟩) HI6.out hgr9 (by rw [elCells_append _ _ _ _ HE8.out.len]; simpa [elCells, El.p, El.c] using hown9) (by
                  rcases hat9 with h | h
                  · exact .inl (by rw [h]; rfl)
                  · exact .inr ⟨g7, rfl, by first | exact Nat.le_of_eq h.symm | (rw [h]; simp) | (rw [h])⟩)
              have hbl9 := HBL8.out.grown hgr9 (by rw [HWLT.out]; omega) (fun k hk => (HROW.out k hk).1)
              have HPUT := Lib.hid hput
              have HBL9 := Lib.hid hbl9
              clear hput hbl9 hown9 hgr9 hat9 hnb
              go_wp2
              go_roundw
              case rel => exact ⟨j, a2, acc ++ [El.mk p c body], _, _, _, rfl, rfl, ha3, HLV2, by omega, by simpa using HPUT.out, by simp; omega, HBL9.out⟩
              case measure => simp [intOf]; omega
      · have hge : decide ((q : Int) < (b.size : Int)) = false := by rw [decide_eq_false_iff_not]; omega
        have hge2 : decide (q < b.size) = false := by rw [decide_eq_false_iff_not]; omega
        have hlv := HLV.out
        unfold parseL at hlv
        rw [if_neg hlt] at hlv
        have HX := Lib.hid hlv
        have hels := heo.els (by have := HBB.out; omega)
        have HELS := Lib.hid hels
        clear hlv HLV heo hels hlt
        go_wp2
        go_ret3
        rw [← HX.out]
        exact ⟨_, rfl, HELS.out, hbl⟩
end Go.Proofs.YthaampinmelgaaaDoor

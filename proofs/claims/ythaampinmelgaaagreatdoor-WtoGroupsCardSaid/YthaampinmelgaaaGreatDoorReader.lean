/- Package wto: the reader of a text: is, need, number. -/
import Derived.Test.YthaampinmelgaaaGreatDoorEls
import Derived.Test.YthaampinmelgaaaGreatDoorBack
import Derived.Test.YthaampinmelgaaaGreatDoorReach
import Derived.Lib.Hide
import Derived.IntWalk
namespace Go.Proofs.YthaampinmelgaaaGreatDoor
open Go.RowKit Go.Shelf

/-- A byte comes next. -/
def isV (b : ByteArray) (at_ : Nat) (c : Int) : Bool := if h : at_ < b.size then ((b[at_].toNat : Int) == c) else false
theorem isV_end {b : ByteArray} {at_ : Nat} {c : Int} (h : ¬ at_ < b.size) : isV b at_ c = false := by unfold isV; rw [dif_neg h]
theorem isV_at {b : ByteArray} {at_ : Nat} {c : Int} (h : at_ < b.size) : isV b at_ c = ((b[at_].toNat : Int) == c) := by unfold isV; rw [dif_pos h]
/-- The reader lies in block g. -/
def Rdr (w : World) (g : Nat) (b : ByteArray) (at_ : Nat) : Prop := Blk w g 87 [.string b, .int .i64 (at_ : Int)]

set_option maxRecDepth 100000 in
set_option maxHeartbeats 1000000 in
theorem is_any (w : World) (g : Nat) (b : ByteArray) (at_ : Nat) (c : Int) (h : Rdr w g b at_) :
    Calls Tryz.prog 51 #[.pointer (some ⟨g, 0, none⟩), .int .u8 c] w fun en w' => en = .returned (.bool (isV b at_ c)) ∧ ∃ n, w' = w.drewN n := by
  have c0 := Blk.cellAt (i := 0) h rfl
  have c1 := Blk.cellAt (i := 1) h rfl
  by_cases hlt : at_ < b.size
  · have hlt1 : (at_ : Int) < (b.size : Int) := by omega
    rw [isV_at hlt]
    clear h
    go_enter Tryz.func51, Tryz.ntmps51
    go_wp2
    go_quiet (fail)
    go_wp2
    go_ret
    exact ⟨rfl, _, rfl⟩
  · have hd : decide ((at_ : Int) < (b.size : Int)) = false := by rw [decide_eq_false_iff_not]; omega
    have hd2 : decide (at_ < b.size) = false := by rw [decide_eq_false_iff_not]; omega
    rw [isV_end hlt]
    clear h hlt
    go_enter Tryz.func51, Tryz.ntmps51
    go_wp2
    go_quiet (fail)
    go_wp2
    go_ret
    exact ⟨rfl, _, rfl⟩

theorem Rdr.only {S : Nat → Prop} {w w' : World} {g : Nat} {b : ByteArray} {at_ : Nat} (h : Rdr w g b at_) (ho : Only S w w') (hg : ¬ S g) : Rdr w' g b at_ := Blk.only h ho hg
theorem Rdr.far' {w : World} {g : Nat} {b : ByteArray} {at_ : Nat} (h : Rdr w g b at_) {c i : Nat} (hc : g ≠ c) {u : Value} : Rdr (w.setCell ⟨c, i, none⟩ u) g b at_ := Blk.far h (p := ⟨c, i, none⟩) hc u
theorem Rdr.drewN {w : World} {g : Nat} {b : ByteArray} {at_ : Nat} (h : Rdr w g b at_) (q : Nat) : Rdr (w.drewN q) g b at_ := h
theorem Rdr.set {w : World} {g : Nat} {b : ByteArray} {at_ : Nat} (h : Rdr w g b at_) (x : Nat) : Rdr (w.setCell ⟨g, 1, none⟩ (.int .i64 (x : Int))) g b x := by
  have := Blk.set h 1 (.int .i64 (x : Int))
  exact this
/-- A fault on its way out. -/
def faultV (at_ : Nat) (e : Int) : Ending := .panicked [{ v := .iface 84 (.agg #[.int .i64 (at_ : Int), .int .i64 e]), recovered := false }]

set_option maxRecDepth 100000 in
set_option maxHeartbeats 1000000 in
theorem need_ok (w : World) (g : Nat) (b : ByteArray) (at_ : Nat) (c : Int) (h : Rdr w g b at_) (hb : b.size ≤ 100000000) (ht : isV b at_ c = true) :
    Calls Tryz.prog 32 #[.pointer (some ⟨g, 0, none⟩), .int .u8 c] w fun en w' => en = .returned (.tuple #[]) ∧ Rdr w' g b (at_ + 1) ∧ Only (fun x => x = g) w w' := by
  have hlt : at_ < b.size := by
    rcases Nat.lt_or_ge at_ b.size with h1 | h1
    · exact h1
    · rw [isV_end (by omega)] at ht; cases ht
  have hlt9 : (at_ : Int) ≤ 100000000 := by omega
  have his := is_any w g b at_ c h
  rw [ht] at his
  have HIS := Lib.hid his
  have HR := Lib.hid h
  clear his h ht
  go_enter Tryz.func32, Tryz.ntmps32
  go_wp2_with (go_at_call 51; refine HIS.out.mono ?_; rintro en w1 ⟨rfl, nq, rfl⟩; have h1 : Rdr (w.drewN nq) g b at_ := HR.out; have c1 := Blk.cellAt (i := 1) h1 rfl; have f1 := Blk.frozen h1 1)
  go_end0
  refine ⟨rfl, ?_, ?_⟩
  · have := h1.set (at_ + 1)
    simpa using this
  · exact ((Only.refl (fun x => x = g) w).drewN nq).set (p := ⟨g, 1, none⟩) (fun _ => rfl) _

set_option maxRecDepth 100000 in
set_option maxHeartbeats 1000000 in
theorem need_bad (w : World) (g : Nat) (b : ByteArray) (at_ : Nat) (c : Int) (h : Rdr w g b at_) (ht : isV b at_ c = false) :
    Calls Tryz.prog 32 #[.pointer (some ⟨g, 0, none⟩), .int .u8 c] w fun en w' => en = faultV at_ 4 ∧ Only (fun _ => False) w w' := by
  have his := is_any w g b at_ c h
  rw [ht] at his
  have HIS := Lib.hid his
  have HR := Lib.hid h
  clear his h ht
  go_enter Tryz.func32, Tryz.ntmps32
  go_wp2_with (go_at_call 51; refine HIS.out.mono ?_; rintro en w1 ⟨rfl, nq, rfl⟩; have h1 : Rdr (w.drewN nq) g b at_ := HR.out; have c1 := Blk.cellAt (i := 1) h1 rfl; have f1 := Blk.frozen h1 1)
  exact ⟨rfl, rfl, (Only.refl _ w).drewN nq⟩

def digB (b : ByteArray) (at_ : Nat) : Bool := if h : at_ < b.size then decide (48 ≤ b[at_].toNat) && decide (b[at_].toNat ≤ 57) else false
def byteI (b : ByteArray) (at_ : Nat) : Int := if h : at_ < b.size then (b[at_].toNat : Int) else 0
/-- A number, from the place where its digits begin: its value and the place behind it, or the fault. -/
def numV (b : ByteArray) (from_ : Nat) : Nat → Nat → Int → Except (Nat × Int) (Int × Nat)
  | 0, _, _ => .error (0, 0)
  | k + 1, at_, n =>
    if digB b at_ = true then (if at_ = from_ + 1 ∧ byteI b from_ = 48 then .error (at_, 4) else numV b from_ k (at_ + 1) (min (10 * n + (byteI b at_ - 48)) 1048577))
    else if at_ = from_ then .error (from_, 4) else if 1048576 < n then .error (from_, 2) else .ok (n, at_)
def msr (g : Nat) (b : ByteArray) (w : World) : Nat := match w.cell? ⟨g, 1, none⟩ with
  | some (.int _ a) => b.size + 1 - a.toNat
  | _ => 0
theorem msr_of {w : World} {g : Nat} {b : ByteArray} {at_ : Nat} (h : Rdr w g b at_) : msr g b w = b.size + 1 - at_ := by
  unfold msr
  rw [Blk.cellAt (i := 1) h rfl]
  simp
theorem msr_lt {w w' : World} {g : Nat} {b : ByteArray} {at_ : Nat} (h : Rdr w g b at_) (k : Rdr w' g b (at_ + 1)) (hlt : at_ < b.size) : msr g b w' < msr g b w := by
  rw [msr_of h, msr_of k]; omega
/-- What number leaves. -/
def NumPost (w : World) (g : Nat) (b : ByteArray) (r : Except (Nat × Int) (Int × Nat)) (en : Ending) (w' : World) : Prop :=
  match r with
  | .ok (n, at_) => en = .returned (.int .i64 n) ∧ Rdr w' g b at_ ∧ Only (fun x => x = g) w w'
  | .error (at_, e) => en = faultV at_ e ∧ Only (fun x => x = g) w w'

set_option maxRecDepth 100000 in
set_option maxHeartbeats 4000000 in
theorem number_any (w : World) (g : Nat) (b : ByteArray) (at_ : Nat) (h : Rdr w g b at_) (hb : b.size ≤ 100000000) (hat : at_ ≤ b.size) :
    Calls Tryz.prog 52 #[.pointer (some ⟨g, 0, none⟩)] w (NumPost w g b (numV b at_ (b.size + 1) at_ 0)) := by
  have c1 := Blk.cellAt (i := 1) h rfl
  obtain ⟨r, hr⟩ : ∃ r, r = numV b at_ (b.size + 1) at_ 0 := ⟨_, rfl⟩
  rw [← hr]
  have HR := Lib.hid hr
  have HH := Lib.hid h
  clear hr h
  go_enter Tryz.func52, Tryz.ntmps52
  go_wp2
  go_loopw [4] (fun x wr => ∃ (k a : Nat) (n : Int), x = .int .i64 n ∧ Rdr wr g b a ∧ Hid (r = numV b at_ k a n) ∧ 0 ≤ n ∧ n ≤ 1048577 ∧ at_ ≤ a ∧ a ≤ b.size ∧ b.size < a + k ∧ Only (fun x => x = g) w wr) (fun _ wr => msr g b wr)
  case atStart => exact ⟨_, _, _, rfl, HH.out, HR, by omega, by omega, Nat.le_refl _, hat, by omega, Only.refl _ _⟩
  case round =>
    obtain ⟨k, a, n, rfl, hrd, HN, hn0, hn1, ha0, ha1, hak, how⟩ := hrel
    have d0 := Blk.cellAt (i := 0) hrd rfl
    have d1 := Blk.cellAt (i := 1) hrd rfl
    have f1 := Blk.frozen hrd 1
    have HRD := Lib.hid hrd
    have HOW := Lib.hid how
    clear hrd how c1
    have hd0 : ∀ q, (wr.drewN q).cell? ⟨g, 0, none⟩ = some (.string b) := fun q => d0
    obtain ⟨k, rfl⟩ : ∃ k', k = k' + 1 := ⟨k - 1, by omega⟩
    have hb63 : (b.size : Int) ≤ 100000000 := by omega
    have ha63 : (a : Int) ≤ 100000000 := by omega
    cases hdg : digB b a with
    | false =>
      have hr : r = if a = at_ then .error (at_, 4) else if 1048576 < n then .error (at_, 2) else .ok (n, a) := by rw [HN.out, numV, hdg]; simp
      have hway : (decide ((a : Int) < (b.size : Int)) = false ∧ decide (a < b.size) = false) ∨ (∃ hlt : a < b.size, decide ((48 : Int) ≤ ((b[a]).toNat : Int)) = false ∧ decide (48 ≤ (b[a]).toNat) = false) ∨ (∃ hlt : a < b.size, (48 : Int) ≤ ((b[a]).toNat : Int) ∧ decide (((b[a]).toNat : Int) ≤ 57) = false ∧ decide ((b[a]).toNat ≤ 57) = false) := by
        unfold digB at hdg
        by_cases hlt : a < b.size
        · rw [dif_pos hlt] at hdg
          simp only [Bool.and_eq_false_iff, decide_eq_false_iff_not] at hdg
          rcases hdg with hdg | hdg
          · exact .inr (.inl ⟨hlt, by rw [decide_eq_false_iff_not]; omega, by rw [decide_eq_false_iff_not]; omega⟩)
          · by_cases h48 : 48 ≤ (b[a]).toNat
            · exact .inr (.inr ⟨hlt, by omega, by rw [decide_eq_false_iff_not]; omega, by rw [decide_eq_false_iff_not]; omega⟩)
            · exact .inr (.inl ⟨hlt, by rw [decide_eq_false_iff_not]; omega, by rw [decide_eq_false_iff_not]; omega⟩)
        · exact .inl ⟨by rw [decide_eq_false_iff_not]; omega, by rw [decide_eq_false_iff_not]; omega⟩
      clear hdg HN hak
      by_cases ha : a = at_
      · rw [if_pos ha] at hr
        have HRR := Lib.hid hr
        subst ha
        clear hr
        rcases hway with ⟨hw1, hw2⟩ | ⟨hw0, hw1, hw2⟩ | ⟨hw0, hw3, hw1, hw2⟩
        all_goals
          go_wp2
          go_quiet (fail)
          go_wp2
          exact ⟨rfl, by rw [HRR.out]; exact ⟨rfl, HOW.out.drewN _⟩⟩
      rw [if_neg ha] at hr
      have hai : ((a : Int) == (at_ : Int)) = false := by simpa using fun e : (a : Int) = (at_ : Int) => ha (by omega)
      have hai2 : decide ((a : Int) = (at_ : Int)) = false := by simpa using fun e : (a : Int) = (at_ : Int) => ha (by omega)
      by_cases hn : 1048576 < n
      · rw [if_pos hn] at hr
        have HRR := Lib.hid hr
        clear hr
        rcases hway with ⟨hw1, hw2⟩ | ⟨hw0, hw1, hw2⟩ | ⟨hw0, hw3, hw1, hw2⟩
        all_goals
          go_wp2
          go_quiet (fail)
          go_wp2
          exact ⟨rfl, by rw [HRR.out]; exact ⟨rfl, HOW.out.drewN _⟩⟩
      · rw [if_neg hn] at hr
        have HRR := Lib.hid hr
        have hnd : decide (1048576 < n) = false := decide_eq_false hn
        clear hr
        rcases hway with ⟨hw1, hw2⟩ | ⟨hw0, hw1, hw2⟩ | ⟨hw0, hw3, hw1, hw2⟩
        all_goals
          go_wp2
          go_quiet (fail)
          go_wp2
          go_ret; rw [HRR.out]; exact ⟨rfl, HRD.out, HOW.out.drewN _⟩
    | true =>
      obtain ⟨hlt, h48, h57⟩ : ∃ hlt : a < b.size, 48 ≤ (b[a]).toNat ∧ (b[a]).toNat ≤ 57 := by
        unfold digB at hdg
        by_cases hlt : a < b.size
        · rw [dif_pos hlt] at hdg
          simp only [Bool.and_eq_true, decide_eq_true_eq] at hdg
          exact ⟨hlt, hdg⟩
        · rw [dif_neg hlt] at hdg; cases hdg
      have hby : byteI b a = ((b[a]).toNat : Int) := by unfold byteI; rw [dif_pos hlt]
      have hr : r = if a = at_ + 1 ∧ byteI b at_ = 48 then .error (a, 4) else numV b at_ k (a + 1) (min (10 * n + (((b[a]).toNat : Int) - 48)) 1048577) := by rw [HN.out, numV, hdg, hby]; simp
      have hlt1 : (a : Int) < (b.size : Int) := by omega
      have hi48 : (48 : Int) ≤ ((b[a]).toNat : Int) := by omega
      have hi57 : ((b[a]).toNat : Int) ≤ 57 := by omega
      clear hdg HN hby
      by_cases ha : a = at_ + 1
      · have hfs : at_ < b.size := by omega
        have hfi : (at_ : Int) < (b.size : Int) := by omega
        have hbf : byteI b at_ = ((b[at_]).toNat : Int) := by unfold byteI; rw [dif_pos hfs]
        rw [hbf] at hr
        have hai : ((a : Int) == (at_ : Int) + 1) = true := by rw [beq_iff_eq]; omega
        have hai2 : decide ((a : Int) = (at_ : Int) + 1) = true := by rw [decide_eq_true_iff]; omega
        by_cases hz : ((b[at_]).toNat : Int) = 48
        · rw [if_pos ⟨ha, hz⟩] at hr
          have hz1 : (((b[at_]).toNat : Int) == 48) = true := by simpa using hz
          have HRR := Lib.hid hr
          clear hr hbf hz ha
          go_wp2
          go_quiet (fail)
          go_wp2
          exact ⟨rfl, by rw [HRR.out]; exact ⟨rfl, HOW.out.drewN _⟩⟩
        · rw [if_neg (fun h => hz h.2)] at hr
          have hz1 : (((b[at_]).toNat : Int) == 48) = false := by simpa using hz
          have hz2 : decide (((b[at_]).toNat : Int) = 48) = false := by simpa using hz
          have HRR := Lib.hid hr
          clear hr hbf hz ha
          go_wp2
          go_quiet (fail)
          go_wp2
          have hq1 : IntKind.i64.wrap (10 * n) = 10 * n := IntWalk.i64_in _ (by omega)
          have hq2 : IntKind.u8.wrap (((b[a]).toNat : Int) - 48) = ((b[a]).toNat : Int) - 48 := IntWalk.u8_in _ (by omega)
          have hq4 : IntKind.i64.wrap (((b[a]).toNat : Int) - 48) = ((b[a]).toNat : Int) - 48 := IntWalk.i64_in _ (by omega)
          have hq3 : IntKind.i64.wrap (10 * n + (((b[a]).toNat : Int) - 48)) = 10 * n + (((b[a]).toNat : Int) - 48) := IntWalk.i64_in _ (by omega)
          go_quiet (fail)
          clear hq1 hq2 hq3 hq4
          obtain ⟨n2, hn2⟩ : ∃ n2, n2 = (if 1048577 < 10 * n + (((b[a]).toNat : Int) - 48) then 1048577 else 10 * n + (((b[a]).toNat : Int) - 48)) := ⟨_, rfl⟩
          rw [← hn2]
          have hmin : min (10 * n + (((b[a]).toNat : Int) - 48)) 1048577 = n2 := by rw [hn2]; split <;> omega
          have hn20 : 0 ≤ n2 ∧ n2 ≤ 1048577 := by rw [hn2]; split <;> omega
          have HM := Lib.hid hmin
          clear hn2 hmin
          go_wp2
          go_roundw
          case rel => exact ⟨k, a + 1, n2, rfl, by simpa using (HRD.out.drewN _ |>.set (a + 1) : Rdr _ g b (a + 1)), Lib.hid (by rw [HRR.out, HM.out]), hn20.1, hn20.2, by omega, by omega, by omega, (HOW.out.drewN _).set (p := ⟨g, 1, none⟩) (fun _ => rfl) _⟩
          case measure =>
            refine msr_lt HRD.out ?_ hlt
            simpa using (HRD.out.drewN _ |>.set (a + 1) : Rdr _ g b (a + 1))
      · rw [if_neg (fun h => ha h.1)] at hr
        have hai : ((a : Int) == (at_ : Int) + 1) = false := by simpa using fun e : (a : Int) = (at_ : Int) + 1 => ha (by omega)
        have hai2 : decide ((a : Int) = (at_ : Int) + 1) = false := by simpa using fun e : (a : Int) = (at_ : Int) + 1 => ha (by omega)
        have hai3 : ¬ (a : Int) = (at_ : Int) + 1 := fun e => ha (by omega)
        have HRR := Lib.hid hr
        clear hr
        go_wp2
        go_quiet (fail)
        go_wp2
        have hq1 : IntKind.i64.wrap (10 * n) = 10 * n := IntWalk.i64_in _ (by omega)
        have hq2 : IntKind.u8.wrap (((b[a]).toNat : Int) - 48) = ((b[a]).toNat : Int) - 48 := IntWalk.u8_in _ (by omega)
        have hq4 : IntKind.i64.wrap (((b[a]).toNat : Int) - 48) = ((b[a]).toNat : Int) - 48 := IntWalk.i64_in _ (by omega)
        have hq3 : IntKind.i64.wrap (10 * n + (((b[a]).toNat : Int) - 48)) = 10 * n + (((b[a]).toNat : Int) - 48) := IntWalk.i64_in _ (by omega)
        go_quiet (fail)
        clear hq1 hq2 hq3 hq4
        obtain ⟨n2, hn2⟩ : ∃ n2, n2 = (if 1048577 < 10 * n + (((b[a]).toNat : Int) - 48) then 1048577 else 10 * n + (((b[a]).toNat : Int) - 48)) := ⟨_, rfl⟩
        rw [← hn2]
        have hmin : min (10 * n + (((b[a]).toNat : Int) - 48)) 1048577 = n2 := by rw [hn2]; split <;> omega
        have hn20 : 0 ≤ n2 ∧ n2 ≤ 1048577 := by rw [hn2]; split <;> omega
        have HM := Lib.hid hmin
        clear hn2 hmin
        go_wp2
        go_roundw
        case rel => exact ⟨k, a + 1, n2, rfl, by simpa using (HRD.out.drewN _ |>.set (a + 1) : Rdr _ g b (a + 1)), Lib.hid (by rw [HRR.out, HM.out]), hn20.1, hn20.2, by omega, by omega, by omega, (HOW.out.drewN _).set (p := ⟨g, 1, none⟩) (fun _ => rfl) _⟩
        case measure =>
          refine msr_lt HRD.out ?_ hlt
          simpa using (HRD.out.drewN _ |>.set (a + 1) : Rdr _ g b (a + 1))
end Go.Proofs.YthaampinmelgaaaGreatDoor

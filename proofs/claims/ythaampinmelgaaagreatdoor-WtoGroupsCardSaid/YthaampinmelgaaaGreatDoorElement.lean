/- Package wto: the reader's element, where the text is right. -/
import Derived.Test.YthaampinmelgaaaGreatDoorReader
import Derived.Test.YthaampinmelgaaaGreatDoorInsert
import Derived.Test.YthaampinmelgaaaGreatDoorFront
namespace Go.Proofs.YthaampinmelgaaaGreatDoor
open Go.RowKit Go.Shelf

theorem numV_ok {b : ByteArray} {f : Nat} : ∀ (k a : Nat) (n : Int) {m : Int} {a2 : Nat}, numV b f k a n = .ok (m, a2) → a ≤ b.size → 0 ≤ n → n ≤ 1048577 → a ≤ a2 ∧ a2 ≤ b.size ∧ 0 ≤ m ∧ m ≤ 1048576 ∧ (a = f → f < a2)
  | 0, a, n, m, a2, h, _, _, _ => by simp [numV] at h
  | k + 1, a, n, m, a2, h, ha, h0, h1 => by
    unfold numV at h
    split at h
    · rename_i hd
      split at h
      · cases h
      · have hlt : a < b.size ∧ 48 ≤ byteI b a := by
          unfold digB at hd
          by_cases hlt : a < b.size
          · rw [dif_pos hlt] at hd
            simp only [Bool.and_eq_true, decide_eq_true_eq] at hd
            unfold byteI
            rw [dif_pos hlt]
            exact ⟨hlt, by omega⟩
          · rw [dif_neg hlt] at hd; cases hd
        have := numV_ok k (a + 1) _ h (by omega) (by omega) (by omega)
        omega
    · split at h
      · cases h
      · split at h
        · cases h
        · rename_i h2 h3
          cases h
          exact ⟨Nat.le_refl _, ha, h0, by omega, fun e => absurd e h2⟩

/-- The elements behind a head. -/
def loopV (f : Nat → Except (Nat × Int) (El × Nat)) (b : ByteArray) : Nat → Nat → List El → Except (Nat × Int) (List El × Nat)
  | 0, _, _ => .error (0, 0)
  | j + 1, a, acc => if isV b a 32 = true then (match f (a + 1) with
      | .error e => .error e
      | .ok (x, a2) => loopV f b j a2 (acc ++ [x])) else .ok (acc, a)
def elemV (b : ByteArray) : Nat → Nat → Nat → Except (Nat × Int) (El × Nat)
  | 0, _, _ => .error (0, 0)
  | k + 1, a, d => if isV b a 40 = false then (match numV b a (b.size + 1) a 0 with
      | .error e => .error e
      | .ok (n, a2) => .ok (.mk n false [], a2))
    else if d = 64 then .error (a, 12)
    else match numV b (a + 1) (b.size + 1) (a + 1) 0 with
      | .error e => .error e
      | .ok (n, a2) => match loopV (fun q => elemV b k q (d + 1)) b (b.size + 1) a2 [] with
        | .error e => .error e
        | .ok (l, a3) => if isV b a3 41 = true then .ok (.mk n true l, a3 + 1) else .error (a3, 4)
theorem isV_lt {b : ByteArray} {a : Nat} {c : Int} (h : isV b a c = true) : a < b.size := by
  rcases Nat.lt_or_ge a b.size with h1 | h1
  · exact h1
  · rw [isV_end (by omega)] at h; cases h
theorem loopV_prog {f : Nat → Except (Nat × Int) (El × Nat)} {b : ByteArray} (hf : ∀ a x a2, f a = .ok (x, a2) → a ≤ b.size → a < a2 ∧ a2 ≤ b.size) :
    ∀ (j q : Nat) (acc l : List El) (a4 : Nat), loopV f b j q acc = .ok (l, a4) → q ≤ b.size → q ≤ a4 ∧ a4 ≤ b.size
  | 0, q, acc, l, a4, h, _ => by simp [loopV] at h
  | j + 1, q, acc, l, a4, h, hq => by
    unfold loopV at h
    split at h
    · rename_i hs
      have hlt := isV_lt hs
      split at h
      · cases h
      · rename_i x a2 hx
        have h1 := hf _ _ _ hx (by omega)
        have h2 := loopV_prog hf j a2 _ l a4 h h1.2
        omega
    · cases h; exact ⟨Nat.le_refl _, hq⟩
theorem elemV_prog {b : ByteArray} : ∀ (k a d : Nat) (x : El) (a2 : Nat), elemV b k a d = .ok (x, a2) → a ≤ b.size → a < a2 ∧ a2 ≤ b.size
  | 0, a, d, x, a2, h, _ => by simp [elemV] at h
  | k + 1, a, d, x, a2, h, ha => by
    unfold elemV at h
    split at h
    · split at h
      · cases h
      · rename_i n a3 hn
        cases h
        obtain ⟨-, h2, -, -, h5⟩ := numV_ok _ _ _ hn ha (by omega) (by omega)
        exact ⟨h5 rfl, h2⟩
    · rename_i hs
      have hlt := isV_lt (by simpa using hs)
      split at h
      · cases h
      split at h
      · cases h
      rename_i n a3 hn
      obtain ⟨h1, h2, -, -, -⟩ := numV_ok _ _ _ hn (by omega) (by omega) (by omega)
      split at h
      · cases h
      rename_i l a4 hl
      split at h
      · rename_i h41
        cases h
        have := loopV_prog (fun q x a5 => elemV_prog k q (d + 1) x a5) _ _ _ _ _ hl h2
        have := isV_lt h41
        omega
      · cases h
/-- What an element that is right leaves. -/
def ElemOk (w : World) (g : Nat) (b : ByteArray) (x : El) (a : Nat) (en : Ending) (w' : World) : Prop :=
  ∃ v, en = .returned (.agg #[.int .i64 x.p, .bool x.c, v]) ∧ Els (fun c => w.heap.size ≤ c ∧ Typed w' c 36) w' v x.body ∧ Rdr w' g b a ∧ Only (fun c => c = g) w w' ∧ InI64 x.p
def ElemAt (b : ByteArray) (k : Nat) : Prop := ∀ (w : World) (g a d : Nat) (x : El) (a2 : Nat), Rdr w g b a → a ≤ b.size → d ≤ 64 → elemV b k a d = .ok (x, a2) →
  (Calls Tryz.prog 33 #[.pointer (some ⟨g, 0, none⟩), .int .i64 (d : Int)] w (ElemOk w g b x a2)) ∧ a < a2 ∧ a2 ≤ b.size

set_option maxRecDepth 100000 in
set_option maxHeartbeats 4000000 in
theorem element_plain {b : ByteArray} (hb : b.size ≤ 100000000) (w : World) (g a d : Nat) (n : Int) (a2 : Nat) (h : Rdr w g b a) (ha : a ≤ b.size) (hs : isV b a 40 = false) (hn : numV b a (b.size + 1) a 0 = .ok (n, a2)) :
    Calls Tryz.prog 33 #[.pointer (some ⟨g, 0, none⟩), .int .i64 (d : Int)] w (ElemOk w g b (.mk n false []) a2) := by
  have hg := Blk.lt h
  obtain ⟨-, -, hn0, hn1, -⟩ := numV_ok _ _ _ hn ha (by omega) (by omega)
  have hbr := Blk.newAt w 36 #[.int .i64 0, .bool false, .slice none 0 0] rfl
  have h1 : Rdr (w.alloc (.cells #[.int .i64 0, .bool false, .slice none 0 0] 36)) g b a := Blk.alloc h _
  have his := is_any _ g b a 40 h1
  rw [hs] at his
  have hnum := fun q => number_any ((w.alloc (.cells #[.int .i64 0, .bool false, .slice none 0 0] 36)).drewN q) g b a (h1.drewN q) hb ha
  rw [hn] at hnum
  have HIS := Lib.hid his
  have HNU := Lib.hid hnum
  have HH := Lib.hid h
  have HBR := Lib.hid hbr
  clear his hnum h h1 hbr hs hn
  go_enter Tryz.func33, Tryz.ntmps33
  go_wp2_with (first | (go_at_call 51; refine HIS.out.mono ?_; rintro en w1 ⟨rfl, q, rfl⟩) | (go_at_call 52; refine (HNU.out q).mono ?_; rintro en w2 ⟨rfl, hrd2, ho2⟩; have hb2 := (HBR.out.drewN q).only ho2 (by omega); have c0 := hb2.cellAt (i := 0) rfl; have c1 := hb2.cellAt (i := 1) rfl; have c2 := hb2.cellAt (i := 2) rfl; have f0 := hb2.frozen 0; have f1 := hb2.frozen 1; have f2 := hb2.frozen 2))
  have hb5 := ((hb2.set 0 (.int .i64 n)).set 1 (.bool false)).set 2 (.slice none 0 0)
  have k0 := hb5.cellAt (i := 0) rfl
  have k1 := hb5.cellAt (i := 1) rfl
  have k2 := hb5.cellAt (i := 2) rfl
  have ho3 : Only (fun c => c = g) w _ := (((((Only.refl (fun c => c = g) w).alloc (.cells #[.int .i64 0, .bool false, .slice none 0 0] 36)).drewN q).trans ho2 (fun _ _ h => h)).set (p := ⟨w.heap.size, 0, none⟩) (fun h => by simp at h) (.int .i64 n)).set (p := ⟨w.heap.size, 1, none⟩) (fun h => by simp at h) (.bool false)
  refine bodyPost_ret (v := .agg #[.int .i64 n, .bool false, .slice none 0 0]) (by simp [results, Tryz.results33, go_sem, k0, k1, k2]) rfl ⟨_, rfl, Els.nil, ?_, ho3.set (p := ⟨w.heap.size, 2, none⟩) (fun h => by simp at h) _, by unfold InI64; simp only [El.p]; omega⟩
  exact ((hrd2.far' (by omega)).far' (by omega)).far' (by omega)

set_option maxRecDepth 100000 in
set_option maxHeartbeats 8000000 in
theorem element_succ {b : ByteArray} (hb : b.size ≤ 100000000) (k : Nat) (ih : ElemAt b k) : ElemAt b (k + 1) := by
  intro w g a d x a2 h ha hd hr
  unfold elemV at hr
  split at hr
  · rename_i hs
    split at hr
    · cases hr
    · rename_i n a3 hn
      cases hr
      obtain ⟨h1, h2, -, -, h5⟩ := numV_ok _ _ _ hn ha (by omega) (by omega)
      exact ⟨element_plain hb w g a d n a2 h ha hs hn, h5 rfl, h2⟩
  rename_i hs
  have hs1 : isV b a 40 = true := by simpa using hs
  split at hr
  · cases hr
  rename_i hd64
  split at hr
  · cases hr
  rename_i n a3 hn
  split at hr
  · cases hr
  rename_i l a4 hl
  split at hr
  rotate_left
  · cases hr
  rename_i h41
  cases hr
  have hlt := isV_lt hs1
  obtain ⟨n1, n2, n3, n4, -⟩ := numV_ok _ _ _ hn (by omega) (by omega) (by omega)
  have hg := Blk.lt h
  -- the loop's own progress
  have hprog : ∀ (j q : Nat) (acc : List El) (l : List El) (a4 : Nat), loopV (fun q => elemV b k q (d + 1)) b j q acc = .ok (l, a4) → q ≤ b.size → q ≤ a4 ∧ a4 ≤ b.size := loopV_prog (fun q x a5 => elemV_prog k q (d + 1) x a5)
  refine ⟨?_, by have := hprog _ _ _ _ _ hl n2; omega, by have := isV_lt h41; omega⟩
  have hbr := Blk.newAt w 36 #[.int .i64 0, .bool false, .slice none 0 0] rfl
  have h1 : Rdr (w.alloc (.cells #[.int .i64 0, .bool false, .slice none 0 0] 36)) g b a := Blk.alloc h _
  have his := is_any _ g b a 40 h1
  rw [hs1] at his
  have hd1 : ((d : Int) == 64) = false := by rw [beq_eq_false_iff_ne]; omega
  have hd2 : decide ((d : Int) = 64) = false := by rw [decide_eq_false_iff_not]; omega
  have hd3 : ¬ (d : Int) = 64 := by omega
  have ha63 : (a : Int) ≤ 100000000 := by omega
  have hst : ∀ q, Rdr (((w.alloc (.cells #[.int .i64 0, .bool false, .slice none 0 0] 36)).drewN q).setCell ⟨g, 1, none⟩ (.int .i64 ((a : Int) + 1))) g b (a + 1) := fun q => by simpa using (h1.drewN q).set (a + 1)
  have hnum := fun q => number_any _ g b (a + 1) (hst q) hb (by omega)
  rw [hn] at hnum
  have HIS := Lib.hid his
  have HNU := Lib.hid hnum
  have HH := Lib.hid h
  have HBR := Lib.hid hbr
  have HPR := Lib.hid hprog
  have HL := Lib.hid hl
  have H41 := Lib.hid h41
  have HIH := Lib.hid ih
  have HST := Lib.hid hst
  have g1 : ∀ q, ((w.alloc (.cells #[.int .i64 0, .bool false, .slice none 0 0] 36)).drewN q).cell? ⟨g, 1, none⟩ = some (.int .i64 (a : Int)) := fun q => Blk.cellAt (i := 1) h1 rfl
  have e1 : ∀ q, ((w.alloc (.cells #[.int .i64 0, .bool false, .slice none 0 0] 36)).drewN q).frozen? ⟨g, 1, none⟩ = false := fun q => Blk.frozen h1 1
  clear his hnum h h1 hbr hs hs1 hn hd64 hprog hl h41 ih hst
  go_enter Tryz.func33, Tryz.ntmps33
  go_wp2_with (first | (go_at_call 51; refine HIS.out.mono ?_; rintro en w1 ⟨rfl, q, rfl⟩; have g1q := g1 q; have e1q := e1 q) | (go_at_call 52; refine (HNU.out q).mono ?_; rintro en w2 ⟨rfl, hrd2, ho2⟩))
  have hz2 : w.heap.size + 1 ≤ w2.heap.size := by
    have := ho2.size
    simpa [World.setCell] using this
  have hob : Only (fun c => c = g) w w2 := ((((Only.refl (fun c => c = g) w).alloc (.cells #[.int .i64 0, .bool false, .slice none 0 0] 36)).drewN q).set (p := ⟨g, 1, none⟩) (fun _ => rfl) _).trans ho2 (fun _ _ h => h)
  have hrb : Blk w2 w.heap.size 36 [.int .i64 0, .bool false, .slice none 0 0] := ((HBR.out.drewN q).far (p := ⟨g, 1, none⟩) (by show w.heap.size ≠ g; omega) _).only ho2 (by omega)
  have hxb := Blk.newAt w2 36 #[.int .i64 n, .bool true, .slice none 0 0] rfl
  obtain ⟨W0, hW0⟩ : ∃ W0, W0 = w2.alloc (.cells #[.int .i64 n, .bool true, .slice none 0 0] 36) := ⟨_, rfl⟩
  have hW0r : Rdr W0 g b a3 := by rw [hW0]; exact Blk.alloc hrd2 _
  have hW0x : Blk W0 w2.heap.size 36 [.int .i64 n, .bool true, .slice none 0 0] := by rw [hW0]; exact hxb
  have hW0b : Blk W0 w.heap.size 36 [.int .i64 0, .bool false, .slice none 0 0] := by rw [hW0]; exact hrb.alloc _
  have hW0o : Only (fun c => c = g) w W0 := by rw [hW0]; exact hob.alloc _
  rw [← hW0]
  have hd65 : d + 1 ≤ 64 := by omega
  have hwd : IntKind.i64.wrap ((d : Int) + 1) = (d : Int) + 1 := IntWalk.i64_in _ (by omega)
  clear g1 e1 g1q e1q hrd2 ho2 hob hrb hxb hW0
  go_loopw [30] (fun _ wr => ∃ (j q : Nat) (acc : List El) (lv : Value) (us : List Value) (P : Nat → Prop), Rdr wr g b q ∧ q ≤ b.size ∧ Hid (loopV (fun q => elemV b k q (d + 1)) b j q acc = .ok (l, a4)) ∧ Blk wr w2.heap.size 36 [.int .i64 n, .bool true, lv] ∧ Blk wr w.heap.size 36 [.int .i64 0, .bool false, .slice none 0 0] ∧
    EO 36 (w2.heap.size + 1) P wr lv acc us ∧ acc.length ≤ q ∧ Only (fun c => c = g) w wr) (fun _ wr => msr g b wr)
  case atStart => exact ⟨_, a3, [], _, [], _, hW0r, n2, HL, hW0x, hW0b, EO.nil _ _ _, Nat.zero_le _, hW0o⟩
  case round =>
    obtain ⟨j, q, acc, lv, us, P, hrd, hq, HLV, hxb, hrb, heo, hacc, how⟩ := hrel
    cases j with
    | zero => have := HLV.out; simp [loopV] at this
    | succ j =>
      have his := is_any wr g b q 32 hrd
      obtain ⟨Al, cl, rfl⟩ := own_slice heo.own
      cases hsp : isV b q 32 with
      | true =>
        rw [hsp] at his
        obtain ⟨x, a2, hx, hlv⟩ : ∃ x a2, elemV b k (q + 1) (d + 1) = .ok (x, a2) ∧ loopV (fun q => elemV b k q (d + 1)) b j a2 (acc ++ [x]) = .ok (l, a4) := by
          have := HLV.out
          unfold loopV at this
          rw [hsp] at this
          simp only [if_true] at this
          cases hf : elemV b k (q + 1) (d + 1) with
          | error e => rw [hf] at this; cases this
          | ok r => rw [hf] at this; exact ⟨r.1, r.2, rfl, this⟩
        have hqs := isV_lt hsp
        have hq63 : (q : Int) ≤ 100000000 := by omega
        have hgw : g < wr.heap.size := Blk.lt hrd
        have g1q : ∀ t, (wr.drewN t).cell? ⟨g, 1, none⟩ = some (.int .i64 (q : Int)) := fun t => Blk.cellAt (i := 1) hrd rfl
        have e1q : ∀ t, (wr.drewN t).frozen? ⟨g, 1, none⟩ = false := fun t => Blk.frozen hrd 1
        have hrs : ∀ t, Rdr ((wr.drewN t).setCell ⟨g, 1, none⟩ (.int .i64 ((q : Int) + 1))) g b (q + 1) := fun t => by simpa using (hrd.drewN t).set (q + 1)
        have hxb' : w2.heap.size + 1 ≤ wr.heap.size := hxb.lt
        have HIS := Lib.hid his
        have HXB := Lib.hid hxb
        have HRB := Lib.hid hrb
        have HEO := Lib.hid heo
        have HOW := Lib.hid how
        have HRS := Lib.hid hrs
        have HX := Lib.hid hx
        have HLV2 := Lib.hid hlv
        have HRD := Lib.hid hrd
        clear his hxb hrb heo how hsp hrd hrs hx hlv
        go_upto_region 9 with (go_at_call 51; refine HIS.out.mono ?_; rintro en w5 ⟨rfl, t, rfl⟩; have g1t := g1q t; have e1t := e1q t)
        have hwrt : Only (fun c => c = g) wr ((wr.drewN t).setCell ⟨g, 1, none⟩ (.int .i64 ((q : Int) + 1))) := ((Only.refl (fun c => c = g) wr).drewN t).set (p := ⟨g, 1, none⟩) (fun _ => rfl) _
        have hxt := (HXB.out.only hwrt (by omega)).drew
        have hHeld := And.intro (hxt.cellAt (i := 2) rfl) trivial
        refine wp_region_front (S := fun w' => w'.cell? ⟨w2.heap.size, 2, none⟩ = some (.slice Al acc.length cl) ∧ True) 2 9 (by kernel_rfl) (by kernel_rfl) (by decide) rfl (by kernel_rfl) (by kernel_rfl) (fun _ _ _ h => h) (.inl ⟨by rfl, fun w' => by rfl⟩) ?_
        simp only [Act.put, List.setIfInBounds_toArray, List.set_cons_zero, List.set_cons_succ]
        have hrz : Rdr ((wr.drewN t).setCell ⟨g, 1, none⟩ (.int .i64 ((q : Int) + 1))).drew g b (q + 1) := HRS.out t
        have hoz : Only (fun c => c = g) wr ((wr.drewN t).setCell ⟨g, 1, none⟩ (.int .i64 ((q : Int) + 1))).drew := hwrt.drew
        have hbz := (HRB.out.only hwrt (by omega)).drew
        clear hwrt g1t e1t g1q e1q
        revert hrz hoz hbz hxt hHeld
        generalize ((wr.drewN t).setCell ⟨g, 1, none⟩ (.int .i64 ((q : Int) + 1))).drew = wz
        intro hxt hHeld hrz hoz hbz
        obtain ⟨hcall, ha2, ha3⟩ := HIH.out wz g (q + 1) (d + 1) x a2 hrz (by omega) hd65 HX.out
        rw [show ((d + 1 : Nat) : Int) = (d : Int) + 1 by omega] at hcall
        have heoz := HEO.out.only (S := fun c => c = g) hoz (fun c hc e => by have := (HEO.out.own.lt c hc).1; omega) (fun c hc e => by have := (HEO.out.apart c hc).1; omega)
        have hzs := hoz.size
        have HOZ := Lib.hid hoz
        have HXT := Lib.hid hxt
        have HBZ := Lib.hid hbz
        have HEZ := Lib.hid heoz
        clear hoz hxt hbz heoz hrz
        obtain ⟨p, c, body⟩ := x
        have hcall' : Calls Tryz.prog 33 #[.pointer (some ⟨g, 0, none⟩), .int .i64 ((d : Int) + 1)] wz fun en w' => ∃ v, en = .returned (.agg #[.int .i64 p, .bool c, v]) ∧ Els (fun c => wz.heap.size ≤ c ∧ Typed w' c 36) w' v body ∧ Rdr w' g b a2 ∧ Only (fun c => c = g) wz w' ∧ InI64 p :=
          hcall.mono (fun en w' ⟨v, h1, h2, h3, h4, h5⟩ => ⟨v, h1, h2, h3, h4, h5⟩)
        have HCALL := Lib.hid hcall'
        clear hcall hcall'
        refine Front.take 0 (v := ?_) rfl (by decide) (by kernel_rfl) (by kernel_rfl) (fun _ _ _ h => h) rfl hHeld ?_ ?_
        case refine_2 => intro w' hSw; obtain ⟨q1, q2⟩ := hSw; go_simp <;> with_reducible rfl
        simp only [Act.put, List.setIfInBounds_toArray, List.set_cons_zero, List.set_cons_succ]
        refine Front.take 1 (v := ?_) rfl (by decide) (by kernel_rfl) (by kernel_rfl) (fun _ _ _ h => h) rfl hHeld ?_ ?_
        case refine_2 => intro w' hSw; obtain ⟨q1, q2⟩ := hSw; go_simp <;> with_reducible rfl
        simp only [Act.put, List.setIfInBounds_toArray, List.set_cons_zero, List.set_cons_succ]
        refine Front.take 3 (v := ?_) rfl (by decide) (by kernel_rfl) (by kernel_rfl) (fun _ _ _ h => h) rfl hHeld ?_ ?_
        case refine_2 => intro w' hSw; obtain ⟨q1, q2⟩ := hSw; go_simp <;> with_reducible rfl
        simp only [Act.put, List.setIfInBounds_toArray, List.set_cons_zero, List.set_cons_succ]
        refine Front.take 4 (v := ?_) rfl (by decide) (by kernel_rfl) (by kernel_rfl) (fun _ _ _ h => h) rfl hHeld ?_ ?_
        case refine_2 => intro w' hSw; obtain ⟨q1, q2⟩ := hSw; go_simp <;> with_reducible rfl
        simp only [Act.put, List.setIfInBounds_toArray, List.set_cons_zero, List.set_cons_succ]
        refine Front.one (i := 5) (by kernel_rfl) (by decide) ?_
        refine FrontStep.of rfl (fun K hK => ?_)
        go_simp
        refine HCALL.out.mono ?_
        rintro en w6 ⟨v6, rfl, hels6, hrd6, ho6, hi6⟩
        obtain ⟨A6, c6, rfl, -⟩ := hels6.shape
        have hx6 := HXT.out.only ho6 (by omega)
        have hb6 := HBZ.out.only ho6 (by omega)
        have he6 := HEZ.out.only (S := fun c => c = g) ho6 (fun c hc e => by have := (HEO.out.own.lt c hc).1; omega) (fun c hc e => by have := (HEO.out.apart c hc).1; omega)
        refine hK _ w6 ⟨hx6.cellAt (i := 2) rfl, trivial⟩ ?_
        clear K hK hHeld HCALL
        refine Front.one (i := 6) (by kernel_rfl) (by decide) ?_
        refine FrontStep.of rfl (fun K hK => ?_)
        go_simp
        have hx7 := hx6.alloc (.cells #[.int .i64 p, .bool c, .slice A6 body.length c6] 36)
        have he7 := he6.alloc (.cells #[.int .i64 p, .bool c, .slice A6 body.length c6] 36)
        have hnb := Blk.newAt w6 36 #[.int .i64 p, .bool c, .slice A6 body.length c6] rfl
        refine hK _ _ ⟨hx7.cellAt (i := 2) rfl, trivial⟩ ?_
        clear K hK
        refine Front.one (i := 7) (by kernel_rfl) (by decide) ?_
        refine FrontStep.of rfl (fun K hK => ?_)
        obtain ⟨il, hil, hl0, hl1, hl2⟩ := info_parts info_el
        have hw6 : w2.heap.size + 1 ≤ w6.heap.size := by have := hxb'; have := ho6.size; omega
        have hz6 : (w6.alloc (.cells #[.int .i64 p, .bool c, .slice A6 body.length c6] 36)).heap.size = w6.heap.size + 1 := by simp
        refine step_append_lies _ rfl (.tmp 40) (.tmp 45) 27 rfl (w2.heap.size + 1) 36 il (.agg #[.int .i64 0, .bool false, .slice none 0 0]) 3 40 Tryz.underlying27 hil hl0 hl1 hl2 rfl (by decide) (.slice Al acc.length cl) acc.length (elCells acc us) rfl he7.own ⟨w6.heap.size, 0, none⟩ 1 1 [.int .i64 p, .bool c, .slice A6 body.length c6] rfl rfl (fun j u' hj => by rw [add_none]; exact hnb.cellAt hj) (fun u' hu => by simp at hu; rcases hu with rfl | rfl | rfl <;> rfl) (by decide) (by unfold maxLen; omega) (by omega) (by rw [hz6]; omega) _ rfl ?_
        intro g7 c7 w7 hown7 hgr7 hat7 _
        have hrow : ∀ r, (Value.slice Al acc.length cl).ownBlock = some r → w2.heap.size + 1 ≤ r := fun r hr => (he7.own.lt r hr).1
        have hx8 := hx7.same (hgr7.block _ (by rw [hz6]; omega) (fun e => by have := hrow _ e.symm; omega))
        have hHeld := And.intro (hx8.cellAt (i := 2) rfl) trivial
        refine hK _ w7 hHeld ?_
        clear K hK
        refine Front.take 8 (v := ?_) rfl (by decide) (by kernel_rfl) (by kernel_rfl) (fun _ _ _ h => h) rfl hHeld ?_ ?_
        case refine_2 => intro w' hSw; obtain ⟨q1, q2⟩ := hSw; go_simp <;> with_reducible rfl
        simp only [Act.put, List.setIfInBounds_toArray, List.set_cons_zero, List.set_cons_succ]
        clear hHeld
        refine Front.done (by kernel_rfl) ?_
        simp only [List.drop_succ_cons, List.drop_zero]
        have hels7 := (hels6.only ((Only.refl (fun _ => False) w6).alloc (.cells #[.int .i64 p, .bool c, .slice A6 body.length c6] 36)) (fun b hb => ⟨hb.2.lt, fun f => f⟩)).mono (Q := fun b => wz.heap.size ≤ b ∧ Typed (w6.alloc (.cells #[.int .i64 p, .bool c, .slice A6 body.length c6] 36)) b 36) (fun b hb => ⟨hb.1, hb.2.only ((Only.refl (fun _ => False) w6).alloc _) (fun f => f)⟩)
        have hput := he7.put (Q := fun b => wz.heap.size ≤ b ∧ Typed (w6.alloc (.cells #[.int .i64 p, .bool c, .slice A6 body.length c6] 36)) b 36) (u := .slice A6 body.length c6) (x := El.mk p c body) (pre := acc) (post := []) (ups := us) (uqs := []) (v' := .slice (some ⟨g7, 0, none⟩) (acc.length + 1) c7) (by simp) (by simp) he7.len hels7
          (fun b hb => ⟨by have := hb.1; omega, hb.2, fun h => by have := (HEZ.out.own.lt b h).2; have := hb.1; omega⟩) hi6 hgr7 (by rw [elCells_append _ _ _ _ he7.len]; simpa [elCells, El.p, El.c] using hown7) (by
            rcases hat7 with h | h
            · exact .inl (by rw [h]; rfl)
            · exact .inr ⟨g7, rfl, by rw [h]; exact Nat.le_refl _⟩)
        have hrd7 : Rdr w7 g b a2 := Blk.same (Blk.alloc hrd6 _) (hgr7.block _ (by rw [hz6]; have := Blk.lt hrd6; omega) (fun e => by have := hrow _ e.symm; omega))
        have hb7 := (hb6.alloc (.cells #[.int .i64 p, .bool c, .slice A6 body.length c6] 36)).same (hgr7.block _ (by rw [hz6]; have := hb6.lt; omega) (fun e => by have := hrow _ e.symm; omega))
        have c7c := hx8.cellAt (i := 2) rfl
        have f7c := hx8.frozen 2
        have ho8 : Only (fun c => c = g) w w7 := by
          have h1 := ((HOW.out.trans HOZ.out (fun _ _ h => h)).trans ho6 (fun _ _ h => h)).alloc (.cells #[.int .i64 p, .bool c, .slice A6 body.length c6] 36)
          exact h1.trans (Only.of_grown (S := fun b => (Value.slice Al acc.length cl).ownBlock = some b) hgr7 (fun b e => e)) (fun b hb hs => by have := hrow b hs; omega)
        have HPUT := Lib.hid hput
        have HX8 := Lib.hid hx8
        have HB7 := Lib.hid hb7
        have HR7 := Lib.hid hrd7
        have HO8 := Lib.hid ho8
        clear hels7 hput hx8 hb7 hrd7 ho8 hown7 hgr7 hat7 hnb he7 hx7 hx6 he6 hels6 hrd6 ho6 hb6 hz6
        go_wp2
        go_roundw
        case rel =>
          have hput' := HPUT.out.only (S := fun c => c = w2.heap.size) ((Only.refl (fun c => c = w2.heap.size) w7).set (p := ⟨w2.heap.size, 2, none⟩) (fun _ => rfl) (.slice (some ⟨g7, 0, none⟩) (acc.length + 1) c7)) (fun c hc e => by have := (HPUT.out.own.lt c hc).1; omega) (fun c hc e => by have := (HPUT.out.apart c hc).1; omega)
          refine ⟨j, a2, acc ++ [El.mk p c body], _, _, _, HR7.out.far' (by omega), ha3, HLV2, by simpa using HX8.out.set 2 (.slice (some ⟨g7, 0, none⟩) (acc.length + 1) c7), HB7.out.far (p := ⟨w2.heap.size, 2, none⟩) (by show w.heap.size ≠ w2.heap.size; omega) _, hput', by simp; omega, HO8.out.set (p := ⟨w2.heap.size, 2, none⟩) (fun h => by simp at h; omega) _⟩
        case measure =>
          refine Nat.lt_of_le_of_lt ?_ (Nat.lt_of_lt_of_le (show b.size + 1 - a2 < b.size + 1 - q by omega) ?_)
          · rw [msr_of (HR7.out.far' (c := w2.heap.size) (i := 2) (u := .slice (some ⟨g7, 0, none⟩) (acc.length + 1) c7) (by omega))]; exact Nat.le_refl _
          · rw [msr_of HRD.out]; exact Nat.le_refl _
      | false =>
        rw [hsp] at his
        have hfin : acc = l ∧ q = a4 := by
          have := HLV.out
          unfold loopV at this
          rw [hsp] at this
          simpa using this
        obtain ⟨rfl, rfl⟩ := hfin
        have hneed := fun t => need_ok (wr.drewN t) g b q 41 (hrd.drewN t) hb H41.out
        have HIS := Lib.hid his
        have HND := Lib.hid hneed
        have HXB := Lib.hid hxb
        have HRB := Lib.hid hrb
        have HEO := Lib.hid heo
        have HOW := Lib.hid how
        clear his hneed hxb hrb heo how hsp hrd
        go_wp2_with (first | (go_at_call 51; refine HIS.out.mono ?_; rintro en w5 ⟨rfl, t, rfl⟩) | (go_at_call 32; refine (HND.out t).mono ?_; rintro en w6 ⟨rfl, hrd6, ho6⟩; have hx6 := (HXB.out.drewN t).only ho6 (by omega); have hr6 := (HRB.out.drewN t).only ho6 (by omega); have x0 := hx6.cellAt (i := 0) rfl; have x1 := hx6.cellAt (i := 1) rfl; have x2 := hx6.cellAt (i := 2) rfl; have c0 := hr6.cellAt (i := 0) rfl; have c1 := hr6.cellAt (i := 1) rfl; have c2 := hr6.cellAt (i := 2) rfl; have f0 := hr6.frozen 0; have f1 := hr6.frozen 1; have f2 := hr6.frozen 2))
        have hb5 := ((hr6.set 0 (.int .i64 n)).set 1 (.bool true)).set 2 (.slice Al acc.length cl)
        have k0 := hb5.cellAt (i := 0) rfl
        have k1 := hb5.cellAt (i := 1) rfl
        have k2 := hb5.cellAt (i := 2) rfl
        have ho7 := (((HOW.out.drewN t).trans ho6 (fun _ _ h => h)).set (p := ⟨w.heap.size, 0, none⟩) (fun h => by simp at h) (.int .i64 n)).set (p := ⟨w.heap.size, 1, none⟩) (fun h => by simp at h) (.bool true)
        refine bodyPost_ret (v := .agg #[.int .i64 n, .bool true, .slice Al acc.length cl]) (by simp [results, Tryz.results33, go_sem, k0, k1, k2]) rfl ⟨_, rfl, ?_, ((hrd6.far' (by omega)).far' (by omega)).far' (by omega), ho7.set (p := ⟨w.heap.size, 2, none⟩) (fun h => by simp at h) _, by unfold InI64; simp only [El.p]; omega⟩
        have hoS : Only (fun c => c = g ∨ c = w.heap.size) wr _ := ((((((Only.refl (fun c => c = g ∨ c = w.heap.size) wr).drewN t).trans ho6 (fun _ _ h => .inl h)).set (p := ⟨w.heap.size, 0, none⟩) (fun _ => .inr rfl) (.int .i64 n)).set (p := ⟨w.heap.size, 1, none⟩) (fun _ => .inr rfl) (.bool true))).set (p := ⟨w.heap.size, 2, none⟩) (fun _ => .inr rfl) (.slice Al acc.length cl)
        exact ((HEO.out.els (by omega)).only hoS (fun c hc => ⟨hc.2.lt, by have := hc.1; omega⟩)).mono (fun c hc => ⟨by have := hc.1; omega, hc.2.only hoS (by have := hc.1; omega)⟩)

theorem element_all {b : ByteArray} (hb : b.size ≤ 100000000) : ∀ k, ElemAt b k
  | 0 => fun w g a d x a2 _ _ _ h => by simp [elemV] at h
  | k + 1 => element_succ hb k (element_all hb k)
end Go.Proofs.YthaampinmelgaaaGreatDoor

/- Package wto: Parse, where the text is right. -/
import Derived.Test.YthaampinmelgaaaGreatDoorElement
import Derived.Test.YthaampinmelgaaaGreatDoorFront2
import Derived.Deep.AppendLies
import Derived.Defers
import Derived.Recover
namespace Go.Proofs.YthaampinmelgaaaGreatDoor
open Go.RowKit Go.Shelf

/-- What a text says, if it is right. -/
def parseL (b : ByteArray) (K : Nat) : Nat → Nat → List El → Except (Nat × Int) (List El)
  | 0, _, _ => .error (0, 0)
  | j + 1, a, acc => if a < b.size then
      (if a = 0 ∨ isV b a 32 = true then (match elemV b K (if a = 0 then a else a + 1) 0 with
        | .error e => .error e
        | .ok (x, a2) => parseL b K j a2 (acc ++ [x])) else .error (a, 4))
    else .ok acc


theorem parse_idle (p q r : Value) (w : World) :
    CallsD Tryz.prog 31 #[p, q, r] .returning w fun e u' w' => e = .returned (.tuple #[]) ∧ u' = .returning ∧ w' = w := by
  refine callsD_of_wpS Tryz.func31 rfl fun c₀ cs hu => ?_
  apply wpS_seq
  apply wpS_region
  simp [wpOpsS, go_sem, recoverD, hu, Tryz.ntmps31, Exit.thenS]
  apply wpS_seq
  apply wpS_region
  simp [wpOpsS, go_sem, Exit.thenS]
  refine wpS_cond (t := false) (by simp [Act.eval, Array.replicate]) ?_
  simp only [Bool.false_eq_true, if_false]
  refine wpS_of_wp (wp_skip ?_)
  cases c₀
  simp_all [bodyPostS, results, Tryz.results31]

theorem leaves_same {P : Program} {fn : Func} {R : Ending → World → Prop} {tmps tmps' : Array Value} (h : ∀ w, (results fn tmps).run P w = (results fn tmps').run P w) : ∀ (ds : List Deferred) (u : FrameMode) (w : World), Leaves P fn tmps R ds u w → Leaves P fn tmps' R ds u w
  | [], .returning, w, ⟨v, h1, h2⟩ => ⟨v, (h w) ▸ h1, h2⟩
  | [], .panicking _, _, h1 => h1
  | [], .run, _, h1 => h1
  | d :: ds, u, w, ⟨hu, fv, cap, f, args, ht, hi, hc⟩ => ⟨hu, fv, cap, f, args, ht, hi, hc.mono fun e u' w' h1 => by
      cases e with
      | returned v => exact leaves_same h ds _ _ h1
      | panicked chain => exact leaves_same h ds _ _ h1
      | outgrown => exact h1⟩
theorem parse_hQ {R : Ending → World → Prop} (d : Option Tmp) (hd : d ≠ some 2 ∧ d ≠ some 3 ∧ d ≠ some 4) (v : Value) : ∀ c (a : Act) (w : World),
    Exit.inBlock 1 (bodyPostD Tryz.prog Tryz.f13 R) (.panic c) (a.put d v) w → Exit.inBlock 1 (bodyPostD Tryz.prog Tryz.f13 R) (.panic c) a w := by
  intro c a w
  obtain ⟨h2, h3, h4⟩ := hd
  cases d with
  | none => exact id
  | some i =>
    have h2' : i ≠ 2 := fun e => h2 (by rw [e])
    have h3' : i ≠ 3 := fun e => h3 (by rw [e])
    have h4' : i ≠ 4 := fun e => h4 (by rw [e])
    refine leaves_same (fun w => ?_) _ _ _
    simp [results, Tryz.results13, Act.put, Array.getElem?_setIfInBounds, h2', h3', h4']

/-- One element more, in a row that is known. -/
theorem EO.lay {T : TypeId} {base : Nat} {P : Nat → Prop} {w w' : World} {v v' : Value} {l : List El} {us : List Value} (h : EO T base P w v l us) {Q : Nat → Prop} {u : Value} {x : El}
    (hu : Els Q w u x.body) (hQ : ∀ b, Q b → base ≤ b ∧ Typed w b T ∧ v.ownBlock ≠ some b) (hx : InI64 x.p)
    (hk : ∀ b, P b ∨ Q b → w'.heap[b]? = w.heap[b]?) (hown : w'.ownsRow base T 3 v' (l.length + 1) (elCells (l ++ [x]) (us ++ [u]))) (hat : v.ownBlock = v'.ownBlock ∨ ∃ b, v'.ownBlock = some b ∧ w.heap.size ≤ b) :
    EO T base (fun b => P b ∨ Q b) w' v' (l ++ [x]) (us ++ [u]) := by
  have hR : ∀ b, P b ∨ Q b → base ≤ b ∧ Typed w b T ∧ v.ownBlock ≠ some b := fun b hb => hb.elim (h.apart b) (hQ b)
  refine ⟨by rw [List.length_append]; exact hown, by simp [h.len], fun j u' x' hu' hx' => ?_, fun y hy => ?_, fun b hb => ⟨(hR b hb).1, (hR b hb).2.1.same (hk b hb), ?_⟩⟩
  · rcases Nat.lt_or_ge j l.length with hj | hj
    · rw [List.getElem?_append_left hj] at hx'
      rw [List.getElem?_append_left (by rw [h.len]; exact hj)] at hu'
      exact ((h.bod j u' x' hu' hx').mono (fun b hb => Or.inl hb)).keep fun _ hp => World.cell?_of_block (hk _ hp)
    · rw [List.getElem?_append_right hj] at hx'
      rw [List.getElem?_append_right (by rw [h.len]; exact hj), h.len] at hu'
      cases hjj : j - l.length with
      | zero =>
        rw [hjj] at hu' hx'
        cases hu'; cases hx'
        exact (hu.mono (fun b hb => Or.inr hb)).keep fun _ hp => World.cell?_of_block (hk _ hp)
      | succ i => rw [hjj] at hx'; simp at hx'
  · rcases List.mem_append.1 hy with hy | hy
    · exact h.wf y hy
    · rw [List.mem_singleton.1 hy]; exact hx
  · rcases hat with hat | ⟨b', hb', hbs⟩
    · rw [← hat]; exact (hR b hb).2.2
    · rw [hb']
      intro e
      cases e
      have := (hR b hb).2.1.lt
      omega

set_option maxRecDepth 100000 in
set_option maxHeartbeats 4000000 in
theorem parse_ok {b : ByteArray} (hb : b.size ≤ 65536) (K : Nat) (w : World) (l : List El) (hl : parseL b K (b.size + 1) 0 [] = .ok l) :
    Calls Tryz.prog 13 #[.string b] w fun en w' => ∃ v, en = .returned (.tuple #[v, .int .i64 0, .int .i64 0]) ∧ Els (fun c => w.heap.size ≤ c ∧ Typed w' c 36) w' v l ∧ Below w.heap.size w w' := by
  have hmf : ∀ (fn : Fn) (first cap : Array Value) (w : World), (Instr.makeFunc fn first cap).run Tryz.prog w = .ok (.func fn first cap) w := fun _ _ _ _ => rfl
  have hbs : ¬ (65536 : Int) < (b.size : Int) := by omega
  have HL := Lib.hid hl
  have HB := Lib.hid hb
  clear hl
  go_enter_defers Tryz.func13, Tryz.ntmps13
  go_wp2
  clear hbs hmf hb
  have n0 := Blk.newAt w 27 #[.slice none 0 0] rfl
  have n1 := Blk.newAt (w.alloc (.cells #[.slice none 0 0] 27)) 3 #[.int .i64 0] rfl
  have n2 := Blk.newAt ((w.alloc (.cells #[.slice none 0 0] 27)).alloc (.cells #[.int .i64 0] 3)) 28 #[.int .i64 0] rfl
  have n3 := Blk.newAt (((w.alloc (.cells #[.slice none 0 0] 27)).alloc (.cells #[.int .i64 0] 3)).alloc (.cells #[.int .i64 0] 28)) 87 #[.string b, .int .i64 0] rfl
  have m0 := ((n0.alloc (.cells #[.int .i64 0] 3)).alloc (.cells #[.int .i64 0] 28)).alloc (.cells #[.string b, .int .i64 0] 87)
  have m1 := (n1.alloc (.cells #[.int .i64 0] 28)).alloc (.cells #[.string b, .int .i64 0] 87)
  have m2 := n2.alloc (.cells #[.string b, .int .i64 0] 87)
  have mb : Below w.heap.size w ((((w.alloc (.cells #[.slice none 0 0] 27)).alloc (.cells #[.int .i64 0] 3)).alloc (.cells #[.int .i64 0] 28)).alloc (.cells #[.string b, .int .i64 0] 87)) := ((((Below.refl w.heap.size w).alloc (Nat.le_refl _) _).alloc (by simp) _).alloc (by simp; omega) _).alloc (by simp; omega) _
  have ms : ((((w.alloc (.cells #[.slice none 0 0] 27)).alloc (.cells #[.int .i64 0] 3)).alloc (.cells #[.int .i64 0] 28)).alloc (.cells #[.string b, .int .i64 0] 87)).heap.size = w.heap.size + 4 := by simp
  have e1 : (w.alloc (.cells #[.slice none 0 0] 27)).heap.size = w.heap.size + 1 := by simp
  have e2 : ((w.alloc (.cells #[.slice none 0 0] 27)).alloc (.cells #[.int .i64 0] 3)).heap.size = w.heap.size + 2 := by simp
  have e3 : (((w.alloc (.cells #[.slice none 0 0] 27)).alloc (.cells #[.int .i64 0] 3)).alloc (.cells #[.int .i64 0] 28)).heap.size = w.heap.size + 3 := by simp
  rw [e1] at m1
  rw [e2] at m2
  rw [e3] at n3
  clear e1 e2 e3 n0 n1 n2
  revert m0 m1 m2 n3 mb ms
  generalize ((((w.alloc (.cells #[.slice none 0 0] 27)).alloc (.cells #[.int .i64 0] 3)).alloc (.cells #[.int .i64 0] 28)).alloc (.cells #[.string b, .int .i64 0] 87)) = W0
  intro m3 m0 m1 m2 mb ms
  go_loopw [26] (fun _ wr => ∃ (j q : Nat) (acc : List El) (lv : Value) (us : List Value) (P : Nat → Prop), Rdr wr (w.heap.size + 3) b q ∧ q ≤ b.size ∧ Hid (parseL b K j q acc = .ok l) ∧ Blk wr w.heap.size 27 [lv] ∧ Blk wr (w.heap.size + 1) 3 [.int .i64 0] ∧ Blk wr (w.heap.size + 2) 28 [.int .i64 0] ∧
    EO 36 (w.heap.size + 4) P wr lv acc us ∧ acc.length ≤ q ∧ Below w.heap.size w wr) (fun _ wr => msr (w.heap.size + 3) b wr)
  case atStart => exact ⟨_, 0, [], _, [], _, m3, Nat.zero_le _, HL, m0, m1, m2, EO.nil _ _ _, Nat.zero_le _, mb⟩
  case round =>
    obtain ⟨j, q, acc, lv, us, P, hrd, hq, HLV, hb0, hb1, hb2, heo, hacc, hbel⟩ := hrel
    cases j with
    | zero => have := HLV.out; simp [parseL] at this
    | succ j =>
      obtain ⟨Al, cl, rfl⟩ := own_slice heo.own
      have g1 := Blk.cellAt (i := 1) hrd rfl
      rcases Nat.lt_or_ge q b.size with hlt | hge
      · obtain ⟨x, q1, a2, hx, hlv, hq1, hcase⟩ : ∃ x q1 a2, elemV b K q1 0 = .ok (x, a2) ∧ parseL b K j a2 (acc ++ [x]) = .ok l ∧ q ≤ q1 ∧ ((q = 0 ∧ q1 = 0) ∨ (0 < q ∧ q1 = q + 1 ∧ isV b q 32 = true)) := by
          have := HLV.out
          unfold parseL at this
          rw [if_pos hlt] at this
          by_cases hq0 : q = 0
          · subst hq0
            simp only [true_or, if_true] at this
            cases hf : elemV b K 0 0 with
            | error e => rw [hf] at this; cases this
            | ok r => rw [hf] at this; exact ⟨r.1, 0, r.2, hf, this, Nat.le_refl _, .inl ⟨rfl, rfl⟩⟩
          · simp only [hq0, false_or, if_false] at this
            split at this
            · rename_i hs
              cases hf : elemV b K (q + 1) 0 with
              | error e => rw [hf] at this; cases this
              | ok r => rw [hf] at this; exact ⟨r.1, q + 1, r.2, hf, this, by omega, .inr ⟨by omega, rfl, hs⟩⟩
            · cases this
        have hlt1 : (q : Int) < (b.size : Int) := by omega
        have hq1b : q1 ≤ b.size := by rcases hcase with h | h <;> omega
        have HB0 := Lib.hid hb0
        have HB1 := Lib.hid hb1
        have HB2 := Lib.hid hb2
        have HEO := Lib.hid heo
        have HRD := Lib.hid hrd
        have HX := Lib.hid hx
        have HLV2 := Lib.hid hlv
        have HBE := Lib.hid hbel
        have HQ1 := Lib.hid hq1b
        have HLE := Lib.hid hq1
        rcases hcase with ⟨hq0, hqe⟩ | ⟨hq0, hqe, hsp⟩
        case' inl =>
          have hq0' : ¬ (0 : Int) < (q : Int) := by omega
          have hq0n : ¬ 0 < q := by omega
          have hrz0 : Rdr wr (w.heap.size + 3) b q1 := by rw [hqe, ← hq0]; exact hrd
          have HRZ := Lib.hid hrz0
          have HQE := Lib.hid hqe
          clear hb0 hb1 hb2 heo hrd hx hlv hbel hq1b hq1 hq0 hqe hrz0
          go_upto_region 8 with fail
          have hrz : Rdr wr.drew (w.heap.size + 3) b q1 := HRZ.out.drewN 1
          have hz0 := HB0.out.drew
          have hz1 := HB1.out.drew
          have hz2 := HB2.out.drew
          have hez : EO 36 (w.heap.size + 4) P wr.drew (.slice Al acc.length cl) acc us := HEO.out.only ((Only.refl (fun _ => False) wr).drewN 1) (fun _ _ h => h) (fun _ _ h => h)
          have hbz : Below w.heap.size w wr.drew := HBE.out.trans (((Only.refl (fun _ => False) wr).drewN 1).below (B := w.heap.size) (by have := HB0.out.lt; omega) (fun _ _ h => h))
        case' inr =>
          have hq0' : (0 : Int) < (q : Int) := by omega
          have hneed := need_ok wr (w.heap.size + 3) b q 32 hrd (by have := HB.out; omega) hsp
          have HND := Lib.hid hneed
          have HQE := Lib.hid hqe
          clear hb0 hb1 hb2 heo hrd hx hlv hbel hq1b hq1 hsp hneed hqe
          go_upto_region 8 with (go_at_call 32; refine HND.out.mono ?_; rintro en w5 ⟨rfl, hrd5, ho5⟩)
          have hrz : Rdr w5.drew (w.heap.size + 3) b q1 := by rw [HQE.out]; exact hrd5
          have hz0 := (HB0.out.only ho5 (by omega)).drew
          have hz1 := (HB1.out.only ho5 (by omega)).drew
          have hz2 := (HB2.out.only ho5 (by omega)).drew
          have hez : EO 36 (w.heap.size + 4) P w5.drew (.slice Al acc.length cl) acc us := (HEO.out.only ho5 (fun c hc e => by have := (HEO.out.own.lt c hc).1; omega) (fun c hc e => by have := (HEO.out.apart c hc).1; omega)).only ((Only.refl (fun _ => False) w5).drewN 1) (fun _ _ h => h) (fun _ _ h => h)
          have hbz : Below w.heap.size w w5.drew := (HBE.out.trans (ho5.below (B := w.heap.size) (by have := HB0.out.lt; omega) (by intro c hc; omega))).trans (((Only.refl (fun _ => False) w5).drewN 1).below (B := w.heap.size) (by have := (HB0.out.only ho5 (by omega)).lt; omega) (fun _ _ h => h))
        case' inl =>
          refine F2.wp_region_front (S := fun w' => w'.cell? ⟨w.heap.size, 0, none⟩ = some (.slice Al acc.length cl) ∧ True) 1 6 (by kernel_rfl) (by kernel_rfl) (v := .pointer (some ⟨w.heap.size + 1 + 1 + 1, 0, none⟩)) (by decide) rfl (by kernel_rfl) (by kernel_rfl) (by exact parse_hQ _ (by decide) _) (.inl ⟨by rfl, fun w' => by rfl⟩) ?_
          simp only [Act.put, List.setIfInBounds_toArray, List.set_cons_zero, List.set_cons_succ]
          revert hrz hz0 hz1 hz2 hez hbz
          generalize wr.drew = wz
          intro hrz hz0 hz1 hz2 hez hbz
          clear hq0' hq0n HRZ
        case' inr =>
          refine F2.wp_region_front (S := fun w' => w'.cell? ⟨w.heap.size, 0, none⟩ = some (.slice Al acc.length cl) ∧ True) 1 6 (by kernel_rfl) (by kernel_rfl) (v := .pointer (some ⟨w.heap.size + 1 + 1 + 1, 0, none⟩)) (by decide) rfl (by kernel_rfl) (by kernel_rfl) (by exact parse_hQ _ (by decide) _) (.inl ⟨by rfl, fun w' => by rfl⟩) ?_
          simp only [Act.put, List.setIfInBounds_toArray, List.set_cons_zero, List.set_cons_succ]
          revert hrz hz0 hz1 hz2 hez hbz
          generalize w5.drew = wz
          intro hrz hz0 hz1 hz2 hez hbz
          clear hq0' hrd5 ho5 HND
        all_goals
          have hHeld := And.intro (hz0.cellAt (i := 0) rfl) trivial
          have hsz := hz2.lt
          have hgz := Blk.lt hrz
          have HZ0 := Lib.hid hz0
          have HZ1 := Lib.hid hz1
          have HZ2 := Lib.hid hz2
          have HEZ := Lib.hid hez
          have HBZ := Lib.hid hbz
          have HRZ' := Lib.hid hrz
          obtain ⟨p, c, body⟩ := x
          clear hrz hz0 hz1 hz2 hez hbz HB0 HB1 HB2 HEO HBE
          have hownz : ∀ r, (Value.slice Al acc.length cl).ownBlock = some r → r < wz.heap.size := fun r hr => (HEZ.out.own.lt r hr).2
          refine F2.Front.take 0 (v := ?_) rfl (by decide) (by kernel_rfl) (by kernel_rfl) (by exact parse_hQ _ (by decide) _) rfl hHeld ?_ ?_
          case refine_2 => intro w' hSw; obtain ⟨k0⟩ := hSw; go_simp <;> with_reducible rfl
          simp only [Act.put, List.setIfInBounds_toArray, List.set_cons_zero, List.set_cons_succ]
          refine F2.Front.take 3 (v := ?_) rfl (by decide) (by kernel_rfl) (by kernel_rfl) (by exact parse_hQ _ (by decide) _) rfl hHeld ?_ ?_
          case refine_2 => intro w' hSw; obtain ⟨k0⟩ := hSw; go_simp <;> with_reducible rfl
          simp only [Act.put, List.setIfInBounds_toArray, List.set_cons_zero, List.set_cons_succ]
          refine F2.Front.two (i := 2) (j := 4) (by kernel_rfl) (by decide) (by decide) ?_ ?_
          case' refine_1 =>
            have hcall' : Calls Tryz.prog 33 #[.pointer (some ⟨w.heap.size + 1 + 1 + 1, 0, none⟩), .int .i64 0] wz fun en w' => ∃ v, en = .returned (.agg #[.int .i64 p, .bool c, v]) ∧ Els (fun c => wz.heap.size ≤ c ∧ Typed w' c 36) w' v body ∧ Rdr w' (w.heap.size + 3) b a2 ∧ Only (fun c => c = w.heap.size + 3) wz w' ∧ InI64 p :=
              (element_all (by have := HB.out; omega) K wz (w.heap.size + 3) q1 0 (.mk p c body) a2 HRZ'.out HQ1.out (by omega) HX.out).1.mono (fun en w' ⟨v, h1, h2, h3, h4, h5⟩ => ⟨v, h1, h2, h3, h4, h5⟩)
            have HCALL := Lib.hid hcall'
            clear hcall'
            refine F2.FrontStep.of rfl (fun K hK => ?_)
            go_simp
            refine HCALL.out.mono ?_
            rintro en w6 ⟨v6, rfl, hels6, hrd6, ho6, hi6⟩
            have hx6 := HZ0.out.only ho6 (by omega)
            have hx7 := (HZ0.out.only ho6 (by omega)).alloc (.cells #[.int .i64 0, .bool false, .slice none 0 0] 36)
            refine hK _ w6 ⟨hx6.cellAt (i := 0) rfl, trivial⟩ ?_
            clear K hK HCALL hHeld
            refine F2.Front.one (i := 4) (by kernel_rfl) (by decide) ?_
            refine F2.FrontStep.of rfl (fun K hK => ?_)
            go_simp
            refine hK _ _ ⟨hx7.cellAt (i := 0) rfl, trivial⟩ ?_
            clear K hK
            have h1 := (HZ1.out.only ho6 (by omega)).alloc (.cells #[.int .i64 0, .bool false, .slice none 0 0] 36)
            have h2 := (HZ2.out.only ho6 (by omega)).alloc (.cells #[.int .i64 0, .bool false, .slice none 0 0] 36)
            have he := (HEZ.out.only ho6 (fun c hc e => by have := (HEZ.out.own.lt c hc).1; omega) (fun c hc e => by have := (HEZ.out.apart c hc).1; omega)).alloc (.cells #[.int .i64 0, .bool false, .slice none 0 0] 36)
            have hr : Rdr (w6.alloc (.cells #[.int .i64 0, .bool false, .slice none 0 0] 36)) (w.heap.size + 3) b a2 := Blk.alloc hrd6 _
            have hels := (hels6.only ((Only.refl (fun _ => False) w6).alloc (.cells #[.int .i64 0, .bool false, .slice none 0 0] 36)) (fun b hb => ⟨hb.2.lt, fun f => f⟩)).mono (Q := fun b => wz.heap.size ≤ b ∧ Typed (w6.alloc (.cells #[.int .i64 0, .bool false, .slice none 0 0] 36)) b 36) (fun b hb => ⟨hb.1, hb.2.only ((Only.refl (fun _ => False) w6).alloc _) (fun f => f)⟩)
            have hzb := Blk.newAt w6 36 #[.int .i64 0, .bool false, .slice none 0 0] rfl
            have hs6 : wz.heap.size ≤ (w6.alloc (.cells #[.int .i64 0, .bool false, .slice none 0 0] 36)).heap.size := by have := ho6.size; simp; omega
            have hbw : Below w.heap.size w (w6.alloc (.cells #[.int .i64 0, .bool false, .slice none 0 0] 36)) := (HBZ.out.trans (ho6.below (B := w.heap.size) (by omega) (by intro c hc; omega))).alloc (by have := ho6.size; omega) _
            clear hx6 hels6 hrd6 HZ0 HZ1 HZ2 HEZ HBZ HRZ'
            revert hx7 h1 h2 he hr hels hzb hs6 hbw
            generalize w6.alloc (.cells #[.int .i64 0, .bool false, .slice none 0 0] 36) = W
            clear ho6
            generalize w6.heap.size = z
            intro hx7 h1 h2 he hr hels hzb hs6 hbw
          case' refine_2 =>
            have hx5 := HZ0.out.alloc (.cells #[.int .i64 0, .bool false, .slice none 0 0] 36)
            have h15 := HZ1.out.alloc (.cells #[.int .i64 0, .bool false, .slice none 0 0] 36)
            have h25 := HZ2.out.alloc (.cells #[.int .i64 0, .bool false, .slice none 0 0] 36)
            have he5 := HEZ.out.alloc (.cells #[.int .i64 0, .bool false, .slice none 0 0] 36)
            have hr5 : Rdr (wz.alloc (.cells #[.int .i64 0, .bool false, .slice none 0 0] 36)) (w.heap.size + 3) b q1 := Blk.alloc HRZ'.out _
            have hzb5 := Blk.newAt wz 36 #[.int .i64 0, .bool false, .slice none 0 0] rfl
            have hs5 : (wz.alloc (.cells #[.int .i64 0, .bool false, .slice none 0 0] 36)).heap.size = wz.heap.size + 1 := by simp
            have hb5 := HBZ.out.alloc (by omega) (.cells #[.int .i64 0, .bool false, .slice none 0 0] 36)
            refine F2.FrontStep.of rfl (fun K hK => ?_)
            go_simp
            refine hK _ _ ⟨hx5.cellAt (i := 0) rfl, trivial⟩ ?_
            clear K hK hHeld HZ0 HZ1 HZ2 HEZ HBZ HRZ'
            revert hx5 h15 h25 he5 hr5 hzb5 hs5 hb5
            generalize wz.alloc (.cells #[.int .i64 0, .bool false, .slice none 0 0] 36) = wy
            intro hx5 h15 h25 he5 hr5 hzb5 hs5 hb5
            have HR5 := Lib.hid hr5
            have hcall' : Calls Tryz.prog 33 #[.pointer (some ⟨w.heap.size + 1 + 1 + 1, 0, none⟩), .int .i64 0] wy fun en w' => ∃ v, en = .returned (.agg #[.int .i64 p, .bool c, v]) ∧ Els (fun c => wy.heap.size ≤ c ∧ Typed w' c 36) w' v body ∧ Rdr w' (w.heap.size + 3) b a2 ∧ Only (fun c => c = w.heap.size + 3) wy w' ∧ InI64 p :=
              (element_all (by have := HB.out; omega) K wy (w.heap.size + 3) q1 0 (.mk p c body) a2 HR5.out HQ1.out (by omega) HX.out).1.mono (fun en w' ⟨v, h1, h2, h3, h4, h5⟩ => ⟨v, h1, h2, h3, h4, h5⟩)
            have HCALL := Lib.hid hcall'
            clear hcall'
            have HH5 := Lib.hid (And.intro hx5 (And.intro h15 (And.intro h25 (And.intro he5 (And.intro hzb5 hb5)))))
            clear hx5 h15 h25 he5 hr5 hzb5 hb5
            refine F2.Front.one (i := 2) (by kernel_rfl) (by decide) ?_
            refine F2.FrontStep.of rfl (fun K hK => ?_)
            go_simp
            refine HCALL.out.mono ?_
            rintro en w6 ⟨v6, rfl, hels6, hr, ho6, hi6⟩
            obtain ⟨hx5, h15, h25, he5, hzb5, hb5⟩ := HH5.out
            have hx7 := hx5.only ho6 (by omega)
            refine hK _ w6 ⟨hx7.cellAt (i := 0) rfl, trivial⟩ ?_
            clear K hK HCALL
            have h1 := h15.only ho6 (by omega)
            have h2 := h25.only ho6 (by omega)
            have he := he5.only ho6 (fun c hc e => by have := (he5.own.lt c hc).1; omega) (fun c hc e => by have := (he5.apart c hc).1; omega)
            have hels := hels6.mono (Q := fun b => wz.heap.size ≤ b ∧ Typed w6 b 36) (fun b hb => ⟨by have := hb.1; omega, hb.2⟩)
            have hzb := hzb5.only ho6 (by omega)
            have hs6 : wz.heap.size ≤ w6.heap.size := by have := ho6.size; omega
            have hbw : Below w.heap.size w w6 := hb5.trans (ho6.below (B := w.heap.size) (by omega) (by intro c hc; omega))
            clear ho6 hels6 HH5 HR5 hx5 h15 h25 he5 hzb5 hb5 hs5
            revert hx7 h1 h2 he hr hels hzb hs6 hbw
            generalize w6 = W
            intro hr hx7 h1 h2 he hels hzb hs6 hbw
            revert hzb
            generalize hzz : wz.heap.size = z
            intro hzb
          all_goals
            obtain ⟨A6, c6, rfl, -⟩ := hels.shape
            obtain ⟨il, hil, hl0, hl1, hl2⟩ := info_parts info_el
            have hz4 : w.heap.size + 4 ≤ W.heap.size := by omega
            have hb6 := HB.out
            refine F2.Front.one (i := 5) (by kernel_rfl) (by decide) ?_
            refine F2.FrontStep.of rfl (fun K hK => ?_)
            refine step_append_lies _ rfl (.tmp 27) (.tmp 31) 27 rfl (w.heap.size + 4) 36 il (.agg #[.int .i64 0, .bool false, .slice none 0 0]) 3 40 Tryz.underlying27 hil hl0 hl1 hl2 rfl (by decide) (.slice Al acc.length cl) acc.length (elCells acc us) rfl he.own ⟨z, 0, none⟩ 1 1 [.int .i64 0, .bool false, .slice none 0 0] rfl rfl (fun j u' hj => by rw [add_none]; exact hzb.cellAt hj) (fun u' hu => by simp at hu; rcases hu with rfl | rfl | rfl <;> rfl) (by decide) (by unfold maxLen; omega) (by omega) hz4 _ rfl ?_
            intro g7 c7 w7 hown7 hgr7 hat7 hg7
            have hrow : ∀ r, (Value.slice Al acc.length cl).ownBlock = some r → w.heap.size + 4 ≤ r := fun r hr => (he.own.lt r hr).1
            have hx8 := hx7.same (hgr7.block _ hx7.lt (fun e => by have := hrow _ e.symm; omega))
            have h18 := h1.same (hgr7.block _ h1.lt (fun e => by have := hrow _ e.symm; omega))
            have h28 := h2.same (hgr7.block _ h2.lt (fun e => by have := hrow _ e.symm; omega))
            have hr8 : Rdr w7 (w.heap.size + 3) b a2 := Blk.same hr (hgr7.block _ (Blk.lt hr) (fun e => by have := hrow _ e.symm; omega))
            have hb8 : Below w.heap.size w w7 := hbw.trans ((Only.of_grown (S := fun b => (Value.slice Al acc.length cl).ownBlock = some b) hgr7 (fun b e => e)).below (B := w.heap.size) (by omega) (fun c hc e => by have := hrow _ e; omega))
            refine hK _ w7 ⟨hx8.cellAt (i := 0) rfl, trivial⟩ ?_
            clear K hK
            have hgg : w.heap.size + 4 ≤ g7 := by
              rcases hat7 with h | h
              · exact hrow _ h
              · omega
            have HELS := Lib.hid hels
            have HE := Lib.hid he
            have HGR := Lib.hid hgr7
            have HX8 := Lib.hid hx8
            have H18 := Lib.hid h18
            have H28 := Lib.hid h28
            have HR8 := Lib.hid hr8
            have HB8 := Lib.hid hb8
            have HAT := Lib.hid hat7
            clear hels he hgr7 hx8 h18 h28 hr8 hb8 hx7 h1 h2 hr hzb hbw hat7
            refine F2.Front.done (by kernel_rfl) ?_
            refine wpAny_take (i := 6) (v := .pointer (some ⟨g7, acc.length * 3, none⟩)) rfl (by kernel_rfl) (by kernel_rfl) (by kernel_rfl) (by exact parse_hQ _ (by decide) _) (.inl ⟨by rfl, fun w' => ?_⟩) ?_
            case refine_1 => go_simp; intro h; exfalso; omega
            have hL := HE.out.own.1
            have hlen3 : (elCells acc us).length = acc.length * 3 := by simpa using hL
            have q0 : w7.cell? ⟨g7, acc.length * 3, none⟩ = some (.int .i64 0) := by rw [hown7.cellAt _ (by omega), List.getElem?_append_right (by omega), hlen3, Nat.sub_self]; rfl
            have q1' : w7.cell? ⟨g7, acc.length * 3 + 1, none⟩ = some (.bool false) := by rw [hown7.cellAt _ (by omega), List.getElem?_append_right (by omega), hlen3, Nat.add_sub_cancel_left]; rfl
            have q2 : w7.cell? ⟨g7, acc.length * 3 + 2, none⟩ = some (.slice none 0 0) := by rw [hown7.cellAt _ (by omega), List.getElem?_append_right (by omega), hlen3, Nat.add_sub_cancel_left]; rfl
            have f0 := hown7.frozenAt (acc.length * 3)
            have f1 := hown7.frozenAt (acc.length * 3 + 1)
            have f2 := hown7.frozenAt (acc.length * 3 + 2)
            have x0 := HX8.out.cellAt (i := 0) rfl
            have y0 := HX8.out.frozen 0
            have hne : g7 ≠ w.heap.size := by omega
            have hne2 : w.heap.size ≠ g7 := by omega
            have HOWN := Lib.hid hown7
            clear hown7 hL hlen3
            refine F2.any_two (i := 7) (j := 8) (by kernel_rfl) ?_ ?_
            case' refine_2.refine_1 =>
              refine F2.op_of rfl (fun K hK => ?_)
              go_simp
              refine hK _ _ ?_
              clear K hK
              have x1 : (((w7.setCell ⟨g7, acc.length * 3, none⟩ (.int .i64 p)).setCell ⟨g7, acc.length * 3 + 1, none⟩ (.bool c)).setCell ⟨g7, acc.length * 3 + 2, none⟩ (.slice A6 body.length c6)).cell? ⟨w.heap.size, 0, none⟩ = some (.slice Al acc.length cl) :=
                (((HX8.out.far (p := ⟨g7, acc.length * 3, none⟩) hne2 _).far (p := ⟨g7, acc.length * 3 + 1, none⟩) hne2 _).far (p := ⟨g7, acc.length * 3 + 2, none⟩) hne2 _).cellAt (i := 0) rfl
              refine F2.any_one (i := 8) (by kernel_rfl) rfl ?_
              intro K hK
              go_simp
              refine hK _ _ ⟨by kernel_rfl, ?_⟩
              clear K hK q0 q1' q2 f0 f1 f2 x0 y0 x1
              have hB := ((HX8.out.far (p := ⟨g7, acc.length * 3, none⟩) hne2 (.int .i64 p)).far (p := ⟨g7, acc.length * 3 + 1, none⟩) hne2 (.bool c)).far (p := ⟨g7, acc.length * 3 + 2, none⟩) hne2 (.slice A6 body.length c6)
              have hB0 := hB.set 0 (.slice (some ⟨g7, 0, none⟩) (acc.length + 1) c7)
              have r1 := ownsRow_setCell_below (((HOWN.out.stored (acc.length * 3) (.int .i64 p)).1.stored (acc.length * 3 + 1) (.bool c)).1.stored (acc.length * 3 + 2) (.slice A6 body.length c6)).1 (a := ⟨w.heap.size, 0, none⟩) (by show w.heap.size < w.heap.size + 4; omega) (.slice (some ⟨g7, 0, none⟩) (acc.length + 1) c7)
              have hoS := ((((Only.refl (fun c => c = g7 ∨ c = w.heap.size) w7).set (p := ⟨g7, acc.length * 3, none⟩) (fun _ => .inl rfl) (.int .i64 p)).set (p := ⟨g7, acc.length * 3 + 1, none⟩) (fun _ => .inl rfl) (.bool c)).set (p := ⟨g7, acc.length * 3 + 2, none⟩) (fun _ => .inl rfl) (.slice A6 body.length c6)).set (p := ⟨w.heap.size, 0, none⟩) (fun _ => .inr rfl) (.slice (some ⟨g7, 0, none⟩) (acc.length + 1) c7)
            case' refine_2.refine_2 =>
              refine F2.op_of rfl (fun K hK => ?_)
              go_simp
              refine hK _ _ ?_
              clear K hK
              have q0' := (World.cell?_setCell_other w7 ⟨w.heap.size, 0, none⟩ ⟨g7, acc.length * 3, none⟩ (.slice (some ⟨g7, 0, none⟩) (acc.length + 1) c7) (by intro h; exact hne2 (congrArg Addr.block h))).trans q0
              have q1'' := (World.cell?_setCell_other w7 ⟨w.heap.size, 0, none⟩ ⟨g7, acc.length * 3 + 1, none⟩ (.slice (some ⟨g7, 0, none⟩) (acc.length + 1) c7) (by intro h; exact hne2 (congrArg Addr.block h))).trans q1'
              have q2' := (World.cell?_setCell_other w7 ⟨w.heap.size, 0, none⟩ ⟨g7, acc.length * 3 + 2, none⟩ (.slice (some ⟨g7, 0, none⟩) (acc.length + 1) c7) (by intro h; exact hne2 (congrArg Addr.block h))).trans q2
              refine F2.any_one (i := 7) (by kernel_rfl) rfl ?_
              intro K hK
              go_simp
              refine hK _ _ ⟨by kernel_rfl, ?_⟩
              clear K hK q0 q1' q2 f0 f1 f2 x0 y0 q0' q1'' q2'
              have hB := HX8.out.set 0 (.slice (some ⟨g7, 0, none⟩) (acc.length + 1) c7)
              have hB0 := ((hB.far (p := ⟨g7, acc.length * 3, none⟩) hne2 (.int .i64 p)).far (p := ⟨g7, acc.length * 3 + 1, none⟩) hne2 (.bool c)).far (p := ⟨g7, acc.length * 3 + 2, none⟩) hne2 (.slice A6 body.length c6)
              have r1 := ((((ownsRow_setCell_below HOWN.out (a := ⟨w.heap.size, 0, none⟩) (by show w.heap.size < w.heap.size + 4; omega) (.slice (some ⟨g7, 0, none⟩) (acc.length + 1) c7)).stored (acc.length * 3) (.int .i64 p)).1.stored (acc.length * 3 + 1) (.bool c)).1.stored (acc.length * 3 + 2) (.slice A6 body.length c6)).1
              have hoS := ((((Only.refl (fun c => c = g7 ∨ c = w.heap.size) w7).set (p := ⟨w.heap.size, 0, none⟩) (fun _ => .inr rfl) (.slice (some ⟨g7, 0, none⟩) (acc.length + 1) c7)).set (p := ⟨g7, acc.length * 3, none⟩) (fun _ => .inl rfl) (.int .i64 p)).set (p := ⟨g7, acc.length * 3 + 1, none⟩) (fun _ => .inl rfl) (.bool c)).set (p := ⟨g7, acc.length * 3 + 2, none⟩) (fun _ => .inl rfl) (.slice A6 body.length c6)
            all_goals
              have hQ : ∀ b, (wz.heap.size ≤ b ∧ Typed W b 36) → w.heap.size + 4 ≤ b ∧ Typed W b 36 ∧ (Value.slice Al acc.length cl).ownBlock ≠ some b := fun b hb => ⟨by have := hb.1; omega, hb.2, fun e => by have := hownz b e; have := hb.1; omega⟩
              have hk : ∀ b, P b ∨ (wz.heap.size ≤ b ∧ Typed W b 36) → _ = W.heap[b]? := fun b hb => by
                obtain ⟨u1, u2, u3⟩ := hb.elim (HE.out.apart b) (hQ b)
                have u4 := u2.lt
                have u5 := HGR.out.size
                refine (hoS.block b (by omega) ?_).trans (HGR.out.block b u4 (fun e => u3 e.symm))
                rintro (e | e)
                · subst e
                  rcases HAT.out with h | h
                  · exact u3 h
                  · omega
                · omega
              have hcells : ((((elCells acc us ++ [Value.int IntKind.i64 0, Value.bool false, Value.slice none 0 0]).set (acc.length * 3) (Value.int IntKind.i64 p)).set (acc.length * 3 + 1) (Value.bool c)).set (acc.length * 3 + 2) (Value.slice A6 body.length c6)) = elCells (acc ++ [El.mk p c body]) (us ++ [Value.slice A6 body.length c6]) := by
                have hl3 := elCells_length acc us HE.out.len
                rw [elCells_append _ _ _ _ HE.out.len, List.set_append_right _ _ (by omega), List.set_append_right _ _ (by omega), List.set_append_right _ _ (by omega), hl3, Nat.sub_self, Nat.add_sub_cancel_left, Nat.add_sub_cancel_left]
                rfl
              rw [hcells] at r1
              have heo9 := HE.out.lay (x := El.mk p c body) (u := Value.slice A6 body.length c6) (Q := fun b => wz.heap.size ≤ b ∧ Typed W b 36) HELS.out hQ hi6 hk r1 (by
                rcases HAT.out with h | h
                · exact .inl h
                · exact .inr ⟨g7, rfl, by omega⟩)
              have h19 := H18.out.only hoS (by omega)
              have h29 := H28.out.only hoS (by omega)
              have hr9 := Rdr.only HR8.out hoS (by omega)
              have hb9 := HB8.out.trans (hoS.below (B := w.heap.size) (by have := Blk.lt HR8.out; omega) (fun c hc e => by omega))
              obtain ⟨ha2, ha3⟩ := elemV_prog K q1 0 _ a2 HX.out HQ1.out
              have hle := HLE.out
              have HB0 := Lib.hid hB0
              have HEO := Lib.hid heo9
              have H19 := Lib.hid h19
              have H29 := Lib.hid h29
              have HR9 := Lib.hid hr9
              have HB9 := Lib.hid hb9
              clear hQ hk hcells r1 heo9 h19 h29 hr9 hb9 hoS hB hB0 hrow hownz
              go_wp2
              go_roundw
              case rel => exact ⟨j, a2, acc ++ [El.mk p c body], _, _, _, HR9.out, ha3, HLV2, by simpa using HB0.out, H19.out, H29.out, by simpa using HEO.out, by simp; omega, HB9.out⟩
              case measure =>
                rw [msr_of HR9.out, msr_of HRD.out]
                omega
      · have hfin : acc = l := by
          have := HLV.out
          unfold parseL at this
          rw [if_neg (by omega)] at this
          simpa using this
        subst hfin
        have hd : decide (q < b.size) = false := by rw [decide_eq_false_iff_not]; omega
        have hd2 : decide ((q : Int) < (b.size : Int)) = false := by rw [decide_eq_false_iff_not]; omega
        have x0 := hb0.cellAt (i := 0) rfl
        have f0 := hb0.frozen 0
        have x1 := hb1.cellAt (i := 0) rfl
        have f1 := hb1.frozen 0
        have x2 := hb2.cellAt (i := 0) rfl
        have f2 := hb2.frozen 0
        have HB0 := Lib.hid hb0
        have HB1 := Lib.hid hb1
        have HB2 := Lib.hid hb2
        have HEO := Lib.hid heo
        have HRD := Lib.hid hrd
        clear hge hb0 hb1 hb2 heo hrd
        go_wp2
        have y0 := ((HB0.out.set 0 (.slice Al acc.length cl)).far (p := ⟨w.heap.size + 1, 0, none⟩) (by show w.heap.size ≠ w.heap.size + 1; omega) (.int .i64 0)).far (p := ⟨w.heap.size + 2, 0, none⟩) (by show w.heap.size ≠ w.heap.size + 2; omega) (.int .i64 0)
        have y1 := ((HB1.out.far (p := ⟨w.heap.size, 0, none⟩) (by show w.heap.size + 1 ≠ w.heap.size; omega) (.slice Al acc.length cl)).set 0 (.int .i64 0)).far (p := ⟨w.heap.size + 2, 0, none⟩) (by show w.heap.size + 1 ≠ w.heap.size + 2; omega) (.int .i64 0)
        have y2 := (((HB2.out.far (p := ⟨w.heap.size, 0, none⟩) (by show w.heap.size + 2 ≠ w.heap.size; omega) (.slice Al acc.length cl)).far (p := ⟨w.heap.size + 1, 0, none⟩) (by show w.heap.size + 2 ≠ w.heap.size + 1; omega) (.int .i64 0)).set 0 (.int .i64 0))
        have k0 := y0.cellAt (i := 0) rfl
        have k1 := y1.cellAt (i := 0) rfl
        have k2 := y2.cellAt (i := 0) rfl
        have hoS := (((Only.refl (fun c => c < w.heap.size + 3) wr).set (p := ⟨w.heap.size, 0, none⟩) (fun _ => by show w.heap.size < w.heap.size + 3; omega) (.slice Al acc.length cl)).set (p := ⟨w.heap.size + 1, 0, none⟩) (fun _ => by show w.heap.size + 1 < w.heap.size + 3; omega) (.int .i64 0)).set (p := ⟨w.heap.size + 2, 0, none⟩) (fun _ => by show w.heap.size + 2 < w.heap.size + 3; omega) (.int .i64 0)
        have hbl := ((hbel.setCell (p := ⟨w.heap.size, 0, none⟩) (Nat.le_refl _) (.slice Al acc.length cl)).setCell (p := ⟨w.heap.size + 1, 0, none⟩) (by show w.heap.size ≤ w.heap.size + 1; omega) (.int .i64 0)).setCell (p := ⟨w.heap.size + 2, 0, none⟩) (by show w.heap.size ≤ w.heap.size + 2; omega) (.int .i64 0)
        have hres := ((HEO.out.els (by have := HB.out; omega)).only hoS (fun c hc => ⟨hc.2.lt, by have := hc.1; omega⟩)).mono (Q := fun c => w.heap.size ≤ c ∧ Typed _ c 36) (fun c hc => ⟨by have := hc.1; omega, hc.2.only hoS (by have := hc.1; omega)⟩)
        refine leaves_cons (f := 31) (args := #[.pointer (some ⟨w.heap.size, 0, none⟩), .pointer (some ⟨w.heap.size + 1, 0, none⟩), .pointer (some ⟨w.heap.size + 2, 0, none⟩)]) (by simp) (by simp [go_sem]) ?_
        refine (parse_idle _ _ _ _).mono ?_
        rintro e u' w'' ⟨rfl, rfl, rfl⟩
        refine ⟨_, ?_, _, rfl, hres, hbl⟩
        simp [results, Tryz.results13, go_sem, k0, k1, k2]
end Go.Proofs.YthaampinmelgaaaGreatDoor

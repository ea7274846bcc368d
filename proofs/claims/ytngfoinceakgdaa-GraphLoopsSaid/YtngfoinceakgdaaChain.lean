/- The laws' helpers: good, chain. -/
import Derived.Test.YtngfoinceakgdaaImmT
import Derived.Test.YtngfoinceakgdaaGV
namespace Go.Proofs.Ytngfoinceakgdaa
open Go.RowKit Go.Shelf

set_option maxRecDepth 100000 in
set_option maxHeartbeats 1000000 in
theorem good_any (w : World) (v : Value) (n exit : Int) (es : List (Int × Int)) (hv : Edges w.heap.size w v es) :
    Calls Try.prog 28 #[.agg #[.int .i64 n, .int .i64 exit, v]] w fun en w' => en = .returned (.bool (few n es && decide (chk n exit es = 0))) ∧ Below w.heap.size w w' := by
  have hfw := fun (W : World) (h : GV w W n exit v) => few_any W.heap.size W n exit v es (h.edges hv)
  have hrc := fun (W : World) (h : GV w W n exit v) => rcheck_any W.heap.size W n exit v es (h.edges hv) (Nat.le_refl _)
  have hg0 := GV.start w n exit v
  have HF := Lib.hid hfw
  have HR := Lib.hid hrc
  obtain ⟨A, c, rfl, hlc, -, hm, -⟩ := hv.shape
  clear hfw hrc hv
  revert HF HR
  generalize chk n exit es = e
  generalize few n es = b
  intro HF HR
  cases b with
  | false =>
    go_enter Try.func28, Try.ntmps28
    go_wp2_with (go_at_call 13; refine (HF.out _ hg0).mono ?_; rintro en w1 ⟨rfl, hw1⟩; have hg1 := hg0.step hw1)
    go_ret
    exact ⟨rfl, hg1.bel⟩
  | true =>
    by_cases he : e = 0
    · subst he
      go_enter Try.func28, Try.ntmps28
      go_wp2_with (first | (go_at_call 13; refine (HF.out _ hg0).mono ?_; rintro en w1 ⟨rfl, hw1⟩; have hg1 := hg0.step hw1; obtain ⟨c0, c1, c2⟩ := hg1.cells) | (go_at_call 32; refine (HR.out _ hg1).mono ?_; rintro en w2 ⟨rfl, hw2⟩; have hg2 := hg1.step hw2))
      go_ret
      exact ⟨rfl, hg2.bel⟩
    · have he1 : (e == 0) = false := by simpa using he
      have he2 : decide (e = 0) = false := by simpa using he
      rw [he2]
      have HE2 := Lib.hid he2
      clear he
      go_enter Try.func28, Try.ntmps28
      go_wp2_with (first | (go_at_call 13; refine (HF.out _ hg0).mono ?_; rintro en w1 ⟨rfl, hw1⟩; have hg1 := hg0.step hw1; obtain ⟨c0, c1, c2⟩ := hg1.cells) | (go_at_call 32; refine (HR.out _ hg1).mono ?_; rintro en w2 ⟨rfl, hw2⟩; have hg2 := hg1.step hw2))
      go_ret
      exact ⟨rfl, hg2.bel⟩

/-- The way up from a point. -/
def chainF (l : List Int) : Nat → List Int → Int → List Int × Bool
  | 0, o, _ => (o, false)
  | k + 1, o, p => if p < 0 ∨ (l.length : Int) ≤ p then (o, decide (p = -1)) else chainF l k (o ++ [p]) (getI l p.toNat)

set_option maxRecDepth 100000 in
set_option maxHeartbeats 4000000 in
theorem chain_any (B : Nat) (w : World) (v : Value) (l : List Int) (p : Int) (hv : Ints B w v l) (hB : B ≤ w.heap.size) (hl : l.length ≤ 100000) :
    Calls Try.prog 33 #[v, .int .i64 p] w fun en w' => ∃ vo, en = .returned (.tuple #[vo, .bool (chainF l (l.length + 1) [] p).2]) ∧ Ints w'.heap.size w' vo (chainF l (l.length + 1) [] p).1 ∧ Below w.heap.size w w' := by
  obtain ⟨R, hR⟩ : ∃ R, R = chainF l (l.length + 1) [] p := ⟨_, rfl⟩
  rw [← hR]
  have HR := Lib.hid hR
  obtain ⟨A, c, rfl, hlc, -, hm, hcell⟩ := hv.shape
  have HC := Lib.hid hcell
  obtain ⟨ie, hi, hz0, hz1, hz2⟩ := info_parts info_int
  clear hR hv hcell
  go_enter Try.func33, Try.ntmps33
  go_wp2
  go_loopw [1, 6, 10] (fun y x z wr => ∃ (k : Nat) (q : Int) (o : List Int) (vo : Value), k ≤ l.length + 1 ∧ y = .int .i64 q ∧ vo = x ∧ z = .int .i64 k ∧ R = chainF l (l.length + 1 - k) o q ∧ o.length = k ∧ wr.ownsRow w.heap.size 3 1 vo o.length (o.map intV) ∧ Below w.heap.size w wr) (fun _ _ z _ => l.length + 1 - (intOf z).toNat)
  case atStart => exact ⟨0, p, [], _, Nat.zero_le _, rfl, rfl, rfl, HR.out, rfl, World.ownsRow_nil _ _ _ _, Below.refl _ _⟩
  case round =>
    obtain ⟨k, q, o, vo, hk, rfl, rfl, rfl, hch, hol, hown, hbel⟩ := hrel
    by_cases hlt : k < l.length + 1
    · have hlt1 : (k : Int) < (l.length : Int) + 1 := by omega
      obtain ⟨d, hd⟩ : ∃ d, l.length + 1 - k = d + 1 := ⟨l.length - k, by omega⟩
      rw [hd] at hch
      simp only [chainF] at hch
      have HOL := Lib.hid hol
      clear hol
      by_cases hq0 : q < 0
      · rw [if_pos (.inl hq0)] at hch
        by_cases hq1 : q = -1
        · subst hq1
          have e1 : decide ((-1 : Int) = -1) = true := rfl
          rw [e1] at hch
          clear e1 hq0 hd
          obtain rfl := hch
          have hint := Sl.of_own (R := RInt) intV (fun _ _ => rfl) hown
          have HI := Lib.hid hint
          clear hown hint
          go_wp2
          go_ret2
          exact ⟨_, rfl, HI.out, hbel⟩
        · have e1 : decide (q = -1) = false := by simpa using hq1
          have e2 : (q == -1) = false := by simpa using hq1
          rw [e1] at hch
          clear hd hq1
          obtain rfl := hch
          have hint := Sl.of_own (R := RInt) intV (fun _ _ => rfl) hown
          have HI := Lib.hid hint
          clear hown hint
          go_wp2
          go_ret2
          exact ⟨_, rfl, HI.out, hbel⟩
      · by_cases hq2 : (l.length : Int) ≤ q
        · rw [if_pos (.inr hq2)] at hch
          have e1 : decide (q = -1) = false := by rw [decide_eq_false_iff_not]; omega
          have e2 : (q == -1) = false := by rw [beq_eq_false_iff_ne]; omega
          rw [e1] at hch
          have hq3 : 0 ≤ q := by omega
          clear hd hq0
          obtain rfl := hch
          have hint := Sl.of_own (R := RInt) intV (fun _ _ => rfl) hown
          have HI := Lib.hid hint
          clear hown hint
          go_wp2
          go_ret2
          exact ⟨_, rfl, HI.out, hbel⟩
        · rw [if_neg (by omega)] at hch
          obtain ⟨m, rfl⟩ : ∃ m : Nat, q = m := ⟨q.toNat, by omega⟩
          have hm1 : m < l.length := by omega
          have hm2 : (m : Int) < (l.length : Int) := by omega
          have hm3 : decide ((l.length : Int) ≤ (m : Int)) = false := by rw [decide_eq_false_iff_not]; omega
          have hm4 : decide (l.length ≤ m) = false := by rw [decide_eq_false_iff_not]; omega
          have hm5 : decide ((m : Int) < 0) = false := by rw [decide_eq_false_iff_not]; omega
          simp only [Int.toNat_natCast] at hch
          obtain ⟨ad, u, rfl, hab, hcl, hru⟩ := HC.out m (getI l m) (by unfold getI; rw [List.getD_eq_getElem?_getD, List.getElem?_eq_getElem hm1]; rfl)
          cases hru
          have hO := hown.alloc (.cells #[.int .i64 (m : Int)] 3)
          have hnb := Blk.new wr 3 [.int .i64 (m : Int)]
          have hba := hbel.alloc hbel.size (.cells #[.int .i64 (m : Int)] 3)
          have hsz := hba.size
          have hd2 : l.length + 1 - (k + 1) = d := by omega
          have HCH := Lib.hid hch
          have HD := Lib.hid hd2
          have hcl2 : o.length ≤ 100001 := by have := HOL.out; omega
          clear hch hd hq0 hq2 hown hbel hd2
          go_wp2_with (at_builtin; refine wpList_append_own_at _ rfl (.tmp 23) (.tmp 25) 27 rfl w.heap.size 3 ie (.int .i64 0) 1 8 Try.underlying27 hi hz0 hz1 hz2 rfl (by decide) _ o.length (o.map intV) rfl hO ⟨wr.heap.size, 0, none⟩ 1 1 [.int .i64 (m : Int)] rfl rfl ?c1 ?c2 ?c3 ?c4 hsz ?_)
          case c1 =>
            intro j u hj
            rw [add_none]
            exact hnb.cellAt hj
          case c2 => intro u hu; simp at hu; subst hu; rfl
          case c3 => simp only [maxLen]; omega
          case c4 => omega
          intro v' w2 hown' hgrow _ _
          have hbx : Below w.heap.size w w2 := hba.grown hgrow hsz (fun j hj => (hO.lt j hj).1)
          have d1 := (hbx.cell (p := ad.add m) (by rw [block_add]; omega)).trans hcl
          have hown2 : w2.ownsRow w.heap.size 3 1 v' (o ++ [(m : Int)]).length ((o ++ [(m : Int)]).map intV) := by
            rw [List.length_append, List.map_append]
            exact hown'
          have HO2 := Lib.hid hown2
          clear hown' hown2 hgrow hO hnb hba hsz hcl
          go_wp2
          go_roundw
          case rel => exact ⟨k + 1, getI l m, o ++ [(m : Int)], v', by omega, rfl, rfl, by go_num, by rw [HD.out]; exact HCH.out, by rw [List.length_append, HOL.out]; rfl, HO2.out, hbx⟩
          case measure => simp [intOf]; omega
    · have hk1 : k = l.length + 1 := by omega
      subst hk1
      rw [Nat.sub_self] at hch
      simp only [chainF] at hch
      obtain rfl := hch
      have hint := Sl.of_own (R := RInt) intV (fun _ _ => rfl) hown
      have HI := Lib.hid hint
      clear hown hint hol
      go_wp2
      go_ret2
      exact ⟨_, rfl, HI.out, hbel⟩

/-- The way up holds just the dominators. -/
theorem chain_spec {succ : Nat → List Nat} {ent n : Nat} {res : List Int} (h : IsIdom succ ent n res) (hs : ∀ p, p < n → ∀ x ∈ succ p, x < n) (hent : ent < n) {D : Nat → Nat → Bool} (hD : ∀ p d, D p d = true ↔ Rch succ (fun _ => True) ent p ∧ ¬ Rch succ (fun q => q ≠ d) ent p) :
    ∀ (k p : Nat) (o : List Int), Rch succ (fun _ => True) ent p → cntD n D p < k → ∃ ds : List Nat, chainF res k o p = (o ++ ds.map (fun d : Nat => (d : Int)), true) ∧ ∀ d, d ∈ ds ↔ D p d = true
  | 0, _, _, _, hk => by omega
  | k + 1, p, o, hp, hk => by
    have hpn := hp.lt hs hent
    have hlen := h.len
    simp only [chainF]
    rw [if_neg (by omega)]
    simp only [Int.toNat_natCast]
    by_cases he : p = ent
    · subst he
      rw [h.entR]
      have hone : ∀ d, D p d = true ↔ d = p := fun d => by
        rw [hD]
        constructor
        · rintro ⟨-, h2⟩
          by_cases e : d = p
          · exact e
          · exact absurd (.refl (Ne.symm e)) h2
        · rintro rfl
          exact ⟨hp, fun k => k.ok_right rfl⟩
      have hk0 : 0 < k := by
        have : 0 < cntD n D p := by
          rw [cntD_eq]
          exact List.length_pos_of_mem (List.mem_filter.2 ⟨List.mem_range.2 hpn, (hone p).2 rfl⟩)
        omega
      obtain ⟨j, rfl⟩ : ∃ j, k = j + 1 := ⟨k - 1, by omega⟩
      simp only [chainF]
      rw [if_pos (.inl (by omega))]
      exact ⟨[p], by simp, fun d => by rw [hone]; simp⟩
    · obtain ⟨a, ha, hra, hne, hiff⟩ := h.up p hp he
      rw [ha]
      obtain ⟨R, hRn, hlt⟩ := h.rank
      have hDiff : ∀ d, D p d = true ↔ d = p ∨ D a d = true := fun d => by
        rw [hD, hD]
        constructor
        · rintro ⟨-, h2⟩
          rcases (hiff d).1 h2 with h3 | h3
          · exact .inl h3
          · exact .inr ⟨hra, h3⟩
        · rintro (h3 | ⟨-, h3⟩)
          · exact ⟨hp, (hiff d).2 (.inl h3)⟩
          · exact ⟨hp, (hiff d).2 (.inr h3)⟩
      have hap : D a p = false := by
        cases hx : D a p with
        | false => rfl
        | true =>
          exfalso
          rcases dom_rank h hRn hlt n a (by omega) hra p ((hD _ _).1 hx).2 with h3 | h3
          · exact hne h3
          · have := hlt p a ha; omega
      have hcnt : cntD n D a < cntD n D p := by
        rw [cntD_eq, cntD_eq]
        exact filter_lt (fun x _ hx => (hDiff x).2 (.inr hx)) ⟨p, List.mem_range.2 hpn, (hDiff p).2 (.inl rfl), hap⟩
      obtain ⟨ds, h1, h2⟩ := chain_spec h hs hent hD k a (o ++ [(p : Int)]) hra (by omega)
      exact ⟨p :: ds, by rw [h1]; simp, fun d => by rw [hDiff, List.mem_cons, h2]⟩
theorem cntD_le (n : Nat) (D : Nat → Nat → Bool) (p : Nat) : cntD n D p ≤ n := by
  rw [cntD_eq]
  exact Nat.le_trans (List.length_filter_le _ _) (by simp)
end Go.Proofs.Ytngfoinceakgdaa

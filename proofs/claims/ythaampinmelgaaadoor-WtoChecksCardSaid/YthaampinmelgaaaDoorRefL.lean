/- The reference's Flat, Heads, Inside, Within and place. -/
import Derived.Test.YthaampinmelgaaaDoorOf
import Derived.Test.YthaampinmelgaaaDoorWithin
import Derived.Test.YthaampinmelgaaaDoorEq
import Derived.Test.YthaampinmelgaaaDoorREnterS
namespace Go.Proofs.YthaampinmelgaaaDoor
open Go.RowKit Go.Shelf

section
variable {w w' : World} {base s n : Nat} {e : TypeId} {v : Value} {xs : List Value}
theorem own_und2 (h : w.ownsRow base e s v n xs) (hb : Below w.heap.size w w') : w'.ownsRow base e s v n xs := by
  rcases h with ⟨hl, ⟨rfl, hn⟩ | ⟨g, cap, cur, rfl, h0, hh, h1, h2, h3, h4⟩⟩
  · exact ⟨hl, .inl ⟨rfl, hn⟩⟩
  · exact ⟨hl, .inr ⟨g, cap, cur, rfl, h0, (hb.block g (lt_of_block hh)).trans hh, h1, h2, h3, h4⟩⟩
theorem own_lower {base' : Nat} (h : w.ownsRow base e s v n xs) (hb : base' ≤ base) : w.ownsRow base' e s v n xs := by
  rcases h with ⟨hl, ⟨rfl, hn⟩ | ⟨g, cap, cur, rfl, h0, hh, h1, h2, h3, h4⟩⟩
  · exact ⟨hl, .inl ⟨rfl, hn⟩⟩
  · exact ⟨hl, .inr ⟨g, cap, cur, rfl, Nat.le_trans hb h0, hh, h1, h2, h3, h4⟩⟩
theorem own_cat {A : Option Addr} {c : Nat} (h : w.ownsRow base e 1 (.slice A n c) n xs) : 0 < n → ∃ ad, A = some ad ∧ ∀ j u, xs[j]? = some u → w.cell? (ad.add j) = some u := fun hp => by
  obtain ⟨g, c, he, -, -⟩ := ownsRow_pos h hp
  cases he
  exact ⟨_, rfl, fun j u hj => h.cells (g := g) rfl j u hj⟩
end
abbrev iV : Int → Value := Value.int .i64
theorem iV_one (l : List Int) : ∀ u ∈ l.map iV, u.oneCell' = true := by
  intro u hu
  obtain ⟨x, -, rfl⟩ := List.mem_map.1 hu
  rfl
theorem El.pts_eq (x : El) : x.pts = x.p :: ptsL x.body := by cases x; rw [El.pts_mk]; rfl
theorem pts_take {l : List El} {m : Nat} {x : El} (hx : l[m]? = some x) : ptsL (l.take (m + 1)) = ptsL (l.take m) ++ [x.p] ++ ptsL x.body := by
  have htk : l.take (m + 1) = l.take m ++ [x] := by rw [List.take_add_one, hx]; rfl
  rw [htk, ptsL_append, ptsL_cons, ptsL_nil, El.pts_eq]
  simp
theorem pts_take_le (l : List El) (m : Nat) : (ptsL (l.take m)).length ≤ (ptsL l).length := by
  conv => rhs; rw [← List.take_append_drop m l, ptsL_append, List.length_append]
  omega
theorem pts_body_le {l : List El} {m : Nat} {x : El} (hx : l[m]? = some x) : (ptsL (l.take m)).length + 1 + (ptsL x.body).length ≤ (ptsL l).length := by
  have h1 := pts_take_le l (m + 1)
  rw [pts_take hx] at h1
  simp at h1
  omega

set_option maxRecDepth 100000 in
set_option maxHeartbeats 1000000 in
theorem rplace_any (B : Nat) (w : World) (v : Value) (xs : List Int) (h1 : Ints B w v xs) (x : Int) :
    Calls Tryd.prog 47 #[v, .int .i64 x] w fun en w' => en = .returned (.int .i64 (idxI xs x)) ∧ ∃ n, w' = w.drewN n := by
  obtain ⟨A1, c1, rfl, -, -, hm1, -⟩ := h1.shape
  go_enter Tryd.func47, Tryd.ntmps47
  go_wp2
  go_loopw [5] (fun y wr => ∃ m : Nat, m ≤ xs.length ∧ y = .int .i64 m ∧ (∀ j, j < m → getI xs j ≠ x) ∧ ∃ n, wr = w.drewN n) (fun y _ => xs.length - (intOf y).toNat)
  case atStart => exact ⟨0, Nat.zero_le _, rfl, fun j hj => absurd hj (Nat.not_lt_zero j), 0, rfl⟩
  case round =>
    obtain ⟨m, hm, rfl, ht, nq, rfl⟩ := hrel
    have HT := Lib.hid ht
    clear ht
    by_cases hlt : m < xs.length
    · have hlt1 : (m : Int) < (xs.length : Int) := by omega
      obtain ⟨ad1, rfl, -, hc1⟩ := Ints.at h1 hlt
      have hd1 : (w.drewN nq).cell? (ad1.add m) = some (.int .i64 (getI xs m)) := hc1
      clear hc1
      by_cases hxy : getI xs m = x
      · have hr := findIdx_some_of hlt HT.out hxy
        rw [hxy] at hd1
        have hxb : (x == x) = true := by simp
        have HR := Lib.hid hr
        clear hr hxy
        go_wp2
        go_ret
        exact ⟨by rw [HR.out]; rfl, nq, rfl⟩
      · have hns := idx_step HT.out hxy
        have hxb : (getI xs m == x) = false := by simpa using hxy
        have hxc : ¬ (getI xs m = x) := hxy
        have HNS := Lib.hid hns
        clear hns hxy
        go_wp2
        go_roundw
        case rel => exact ⟨m + 1, by omega, by go_num, HNS.out, nq, rfl⟩
        case measure => simp [intOf]; omega
    · have hge : ¬ (m : Int) < (xs.length : Int) := by omega
      obtain rfl : xs.length = m := by omega
      have hr := findIdx_none_of HT.out
      have HR := Lib.hid hr
      clear hr
      go_wp2
      go_ret
      exact ⟨by rw [HR.out]; rfl, nq, rfl⟩

set_option maxRecDepth 100000 in
set_option maxHeartbeats 4000000 in
theorem rflat_any {P : Nat → Prop} {w : World} {v : Value} {l : List El} (h : Els P w v l) : ∀ W : World, (∀ p : Addr, P p.block → W.cell? p = w.cell? p) → (∀ b, P b → b < W.heap.size) → (ptsL l).length ≤ 1000000 →
    Calls Tryd.prog 32 #[v] W fun en W' => ∃ vo, en = .returned vo ∧ W'.ownsRow W.heap.size 3 1 vo (ptsL l).length ((ptsL l).map iV) ∧ Below W.heap.size W W' := by
  induction h with
  | mk A c l us hlc hm hz hc hr ih =>
    intro W hW hPW hlen
    have HC := Lib.hid hc
    have HIH := Lib.hid ih
    have HR := Lib.hid hr
    have HW := Lib.hid hW
    have HPW := Lib.hid hPW
    have HLEN := Lib.hid hlen
    have hl63 : l.length ≤ 9223372036854775807 := by unfold maxLen at hm; omega
    obtain ⟨ie, hi, hz0, hz1, hz2⟩ := info_parts info_int
    clear hc hr ih hW hPW hm hlen
    go_enter Tryd.func32, Tryd.ntmps32
    go_wp2
    go_loopw [3, 4] (fun x y wr => ∃ (m : Nat) (vo : Value), m ≤ l.length ∧ vo = x ∧ y = .int .i64 m ∧ wr.ownsRow W.heap.size 3 1 vo (ptsL (l.take m)).length ((ptsL (l.take m)).map iV) ∧ Below W.heap.size W wr) (fun _ y _ => l.length - (intOf y).toNat)
    case atStart => exact ⟨0, _, Nat.zero_le _, rfl, rfl, World.ownsRow_nil _ _ _ _, Below.refl _ _⟩
    case round =>
      obtain ⟨m, vo, hm, rfl, rfl, how, hbw⟩ := hrel
      by_cases hlt : m < l.length
      · obtain ⟨x, hx⟩ : ∃ x, l[m]? = some x := ⟨_, List.getElem?_eq_getElem hlt⟩
        obtain ⟨ad, hA, hPad, e0, e1, e2, hI⟩ := HC.out m x hx
        subst hA
        have hk : ∀ i, wr.cell? (ad.add i) = w.cell? (ad.add i) := fun i => (hbw.cell (by rw [block_add]; exact HPW.out _ hPad)).trans (HW.out _ (by rw [block_add]; exact hPad))
        have c0 := (hk (m * 3)).trans e0
        have c2 := (hk (m * 3 + 2)).trans e2
        rw [← add_add', addrTwo] at c2
        have hih := HIH.out m x hx
        have htk := pts_take hx
        have hbl := pts_body_le hx
        have hll := HLEN.out
        have hadW := HPW.out _ hPad
        obtain ⟨Au, cu, hu, -⟩ := (HR.out m x hx).shape
        rw [hu] at c2 hih
        clear hu
        obtain ⟨p, c, body⟩ := x
        simp only [El.p, El.body] at c0 c2 hih htk hbl
        revert how htk hbl
        generalize hps : ptsL (l.take m) = ps
        intro how htk hbl
        have HTK := Lib.hid htk
        have hlb : (ptsL body).length ≤ 1000000 := by omega
        have hl1 : ps.length + 1 ≤ 1000000 := by omega
        have hl2 : ps.length + 1 + (ptsL body).length ≤ 1000000 := by omega
        have hlt1 : (m : Int) < (l.length : Int) := by omega
        have howa := how.alloc (.cells #[.int .i64 p] 3)
        have hba := hbw.alloc hbw.size (.cells #[.int .i64 p] 3)
        have hnb := Blk.newAt wr 3 #[.int .i64 p] rfl
        have hWs := hba.size
        have HI := Lib.hid hih
        have HB := Lib.hid hbw
        have HBA := Lib.hid hba
        have HOA := Lib.hid howa
        have HOL := Lib.hid (fun k hk => (how.lt k hk).1)
        have hgv := hbw.size
        clear hih how hbw hba howa e0 e1 e2 hk htk hx hPad hI hbl hps
        go_upto_region 6 with (at_builtin; refine wpList_append_lies _ rfl (.tmp 11) (.tmp 17) 51 rfl W.heap.size 3 ie (.int .i64 0) 1 8 Tryd.underlying51 hi hz0 hz1 hz2 rfl (by decide) vo ps.length (ps.map iV) rfl HOA.out ⟨wr.heap.size, 0, none⟩ 1 1 [.int .i64 p] rfl rfl (fun j u' hj => by rw [add_none]; exact hnb.cellAt hj) (by intro u hu; simp at hu; subst hu; rfl) (by decide) (by unfold maxLen; omega) (by omega) hWs _ rfl ?_; intro g cg w7 hown7 hgr7 hat7 _)
        have hb7 := HBA.out.grown hgr7 hWs HOL.out
        have d2 : w7.cell? ⟨(ad.add (m * 3)).block, (ad.add (m * 3)).off + 2, none⟩ = some (.slice Au body.length cu) := (hb7.cell (by rw [block_add]; exact hadW)).trans ((HB.out.cell (by rw [block_add]; exact hadW)).symm.trans c2)
        have HO7 := Lib.hid hown7
        have HB7 := Lib.hid hb7
        clear hown7 hgr7 hat7 hnb c0 c2 hb7 HOL hWs
        go_upto_region 4 with (first
          | (go_at_call 32; refine (HI.out w7 (fun q hq => (HB7.out.cell (HPW.out _ hq)).trans (HW.out q hq)) (fun b hb => by have := HPW.out b hb; have := HB7.out.size; omega) hlb).mono ?_; rintro en w8 ⟨vb, rfl, hob, hb8⟩; have hown8 := own_und2 HO7.out hb8; have hb8' := HB7.out.trans (hb8.mono HB7.out.size); obtain ⟨Ab, cb, rfl⟩ := own_slice hob; have hcat := own_cat hob; have hWs8 := hb8'.size; clear hb8 hob)
          | (at_builtin; (refine wpList_append_cat rfl (.tmp 19) (.tmp 25) 51 rfl W.heap.size 3 ie (.int .i64 0) 1 8 Tryd.underlying51 hi hz0 hz1 hz2 rfl (by decide) (.slice (some ⟨g, 0, none⟩) (ps.length + 1) cg) (ps.length + 1) (ps.map iV ++ [.int .i64 p]) rfl hown8 Ab (ptsL body).length cb ((ptsL body).map iV) rfl (by simp) hcat (iV_one _) (by unfold maxLen; omega) (by omega) hWs8 ?_); intro v9 w9 hown9 hgr9 hat9))
        have hb9 := hb8'.grown hgr9 hWs8 (fun k hk => (hown8.lt k hk).1)
        have hfin : w9.ownsRow W.heap.size 3 1 v9 (ptsL (l.take (m + 1))).length ((ptsL (l.take (m + 1))).map iV) := by
          rw [HTK.out, List.length_append, List.length_append, List.map_append, List.map_append]
          exact hown9
        have HF := Lib.hid hfin
        have HB9 := Lib.hid hb9
        clear hfin hb9 hown9 hgr9 hat9 hown8 hcat hb8'
        go_wp2
        go_roundw
        case rel => exact ⟨m + 1, _, by omega, rfl, by go_num, HF.out, HB9.out⟩
        case measure => simp [intOf]; omega
      · obtain rfl : m = l.length := by omega
        rw [List.take_length] at how
        go_wp2
        go_ret
        exact ⟨_, rfl, how, hbw⟩

theorem headsL_append : ∀ (a b : List El), headsL (a ++ b) = headsL a ++ headsL b
  | [], b => by simp [headsL]
  | x :: a, b => by simp [headsL, headsL_append a b]
theorem headsL_one (x : El) : headsL [x] = (if x.c then [x.p] else []) ++ headsL x.body := by
  obtain ⟨p, c, b⟩ := x
  cases c <;> simp [headsL, El.heads, El.c, El.p, El.body]
theorem heads_take {l : List El} {m : Nat} {x : El} (hx : l[m]? = some x) : headsL (l.take (m + 1)) = headsL (l.take m) ++ (if x.c then [x.p] else []) ++ headsL x.body := by
  have htk : l.take (m + 1) = l.take m ++ [x] := by rw [List.take_add_one, hx]; rfl
  rw [htk, headsL_append, headsL_one, List.append_assoc]
mutual
theorem El.heads_le : ∀ (x : El), x.heads.length ≤ x.pts.length
  | .mk p c b => by
    have := headsL_le b
    rw [El.pts_mk]
    cases c <;> simp [El.heads] <;> omega
theorem headsL_le : ∀ (l : List El), (headsL l).length ≤ (ptsL l).length
  | [] => by simp [headsL, ptsL_nil]
  | x :: l => by
    have h1 := El.heads_le x
    have h2 := headsL_le l
    rw [ptsL_cons]
    simp [headsL]
    omega
end

set_option maxRecDepth 100000 in
set_option maxHeartbeats 4000000 in
theorem rheads_any {P : Nat → Prop} {w : World} {v : Value} {l : List El} (h : Els P w v l) : ∀ W : World, (∀ p : Addr, P p.block → W.cell? p = w.cell? p) → (∀ b, P b → b < W.heap.size) → (ptsL l).length ≤ 1000000 →
    Calls Tryd.prog 34 #[v] W fun en W' => ∃ vo, en = .returned vo ∧ W'.ownsRow W.heap.size 3 1 vo (headsL l).length ((headsL l).map iV) ∧ Below W.heap.size W W' := by
  induction h with
  | mk A c l us hlc hm hz hc hr ih =>
    intro W hW hPW hlen
    have HC := Lib.hid hc
    have HIH := Lib.hid ih
    have HR := Lib.hid hr
    have HW := Lib.hid hW
    have HPW := Lib.hid hPW
    have HLEN := Lib.hid hlen
    have hl63 : l.length ≤ 9223372036854775807 := by unfold maxLen at hm; omega
    obtain ⟨ie, hi, hz0, hz1, hz2⟩ := info_parts info_int
    clear hc hr ih hW hPW hm hlen
    go_enter Tryd.func34, Tryd.ntmps34
    go_wp2
    go_loopw [3, 4] (fun x y wr => ∃ (m : Nat) (vo : Value), m ≤ l.length ∧ vo = x ∧ y = .int .i64 m ∧ wr.ownsRow W.heap.size 3 1 vo (headsL (l.take m)).length ((headsL (l.take m)).map iV) ∧ Below W.heap.size W wr) (fun _ y _ => l.length - (intOf y).toNat)
    case atStart => exact ⟨0, _, Nat.zero_le _, rfl, rfl, World.ownsRow_nil _ _ _ _, Below.refl _ _⟩
    case round =>
      obtain ⟨m, vo, hm, rfl, rfl, how, hbw⟩ := hrel
      by_cases hlt : m < l.length
      · obtain ⟨x, hx⟩ : ∃ x, l[m]? = some x := ⟨_, List.getElem?_eq_getElem hlt⟩
        obtain ⟨ad, hA, hPad, e0, e1, e2, hI⟩ := HC.out m x hx
        subst hA
        have hk : ∀ i, wr.cell? (ad.add i) = w.cell? (ad.add i) := fun i => (hbw.cell (by rw [block_add]; exact HPW.out _ hPad)).trans (HW.out _ (by rw [block_add]; exact hPad))
        have c0 := (hk (m * 3)).trans e0
        have c1 := (hk (m * 3 + 1)).trans e1
        have c2 := (hk (m * 3 + 2)).trans e2
        rw [← add_add', addrOne] at c1
        rw [← add_add', addrTwo] at c2
        have hih := HIH.out m x hx
        have htk := heads_take hx
        have hbl := pts_body_le hx
        have hll := HLEN.out
        have hadW := HPW.out _ hPad
        have hh1 := headsL_le (l.take m)
        have hh2 := headsL_le x.body
        obtain ⟨Au, cu, hu, -⟩ := (HR.out m x hx).shape
        rw [hu] at c2 hih
        clear hu
        obtain ⟨p, cc, body⟩ := x
        simp only [El.p, El.c, El.body] at c0 c1 c2 hih htk hbl hh2
        have hlb : (ptsL body).length ≤ 1000000 := by omega
        have hl1 : (headsL (l.take m)).length + 1 ≤ 1000000 := by omega
        have hl2 : (headsL (l.take m)).length + 1 + (headsL body).length ≤ 1000000 := by omega
        revert how htk hl1 hl2
        clear hbl hh1 hh2
        generalize headsL (l.take m) = ps
        intro how htk hl1 hl2
        have HTK := Lib.hid htk
        have hlt1 : (m : Int) < (l.length : Int) := by omega
        have HI := Lib.hid hih
        have hgv := hbw.size
        clear hih e0 e1 e2 hk htk hx hPad hI
        cases cc with
        | true =>
          have howa := how.alloc (.cells #[.int .i64 p] 3)
          have hba := hbw.alloc hbw.size (.cells #[.int .i64 p] 3)
          have hnb := Blk.newAt wr 3 #[.int .i64 p] rfl
          have hWs := hba.size
          have HB := Lib.hid hbw
          have HBA := Lib.hid hba
          have HOA := Lib.hid howa
          have HOL := Lib.hid (fun k hk => (how.lt k hk).1)
          clear how hbw hba howa
          go_upto_region 7 with (at_builtin; refine wpList_append_lies _ rfl (.tmp 16) (.tmp 22) 51 rfl W.heap.size 3 ie (.int .i64 0) 1 8 Tryd.underlying51 hi hz0 hz1 hz2 rfl (by decide) vo ps.length (ps.map iV) rfl HOA.out ⟨wr.heap.size, 0, none⟩ 1 1 [.int .i64 p] rfl rfl (fun j u' hj => by rw [add_none]; exact hnb.cellAt hj) (by intro u hu; simp at hu; subst hu; rfl) (by decide) (by unfold maxLen; omega) (by omega) hWs _ rfl ?_; intro g cg w7 hown7 hgr7 hat7 _)
          have hb7 := HBA.out.grown hgr7 hWs HOL.out
          have d2 : w7.cell? ⟨(ad.add (m * 3)).block, (ad.add (m * 3)).off + 2, none⟩ = some (.slice Au body.length cu) := (hb7.cell (by rw [block_add]; exact hadW)).trans ((HB.out.cell (by rw [block_add]; exact hadW)).symm.trans c2)
          have HO7 := Lib.hid hown7
          have HB7 := Lib.hid hb7
          clear hown7 hgr7 hat7 hnb c0 c1 c2 hb7 HOL hWs
          go_upto_region 4 with (first
            | (go_at_call 34; refine (HI.out w7 (fun q hq => (HB7.out.cell (HPW.out _ hq)).trans (HW.out q hq)) (fun b hb => by have := HPW.out b hb; have := HB7.out.size; omega) hlb).mono ?_; rintro en w8 ⟨vb, rfl, hob, hb8⟩; have hown8 := own_und2 HO7.out hb8; have hb8' := HB7.out.trans (hb8.mono HB7.out.size); obtain ⟨Ab, cb, rfl⟩ := own_slice hob; have hcat := own_cat hob; have hWs8 := hb8'.size; clear hb8 hob)
            | (at_builtin; refine wpList_append_cat rfl (.tmp 24) (.tmp 30) 51 rfl W.heap.size 3 ie (.int .i64 0) 1 8 Tryd.underlying51 hi hz0 hz1 hz2 rfl (by decide) (.slice (some ⟨g, 0, none⟩) (ps.length + 1) cg) (ps.length+1) _ rfl hown8 Ab (headsL body).length cb ((headsL body).map iV) rfl (by simp) hcat (iV_one _) (by unfold maxLen; omega) (by omega) hWs8 ?_; intro v9 w9 hown9 hgr9 hat9))
          have hb9 := hb8'.grown hgr9 hWs8 (fun k hk => (hown8.lt k hk).1)
          have hfin : w9.ownsRow W.heap.size 3 1 v9 (headsL (l.take (m + 1))).length ((headsL (l.take (m + 1))).map iV) := by
            first
              | (rw [HTK.out, List.length_append, List.length_append, List.map_append, List.map_append]; exact hown9)
              | (rw [HTK.out]; simp only [Bool.false_eq_true, if_false, List.append_nil, List.length_append, List.map_append]; exact hown9)
          have HF := Lib.hid hfin
          have HB9 := Lib.hid hb9
          clear hfin hb9 hown9 hgr9 hat9 hown8 hcat hb8'
          go_wp2
          go_roundw
          case rel => exact ⟨m + 1, _, by omega, rfl, by go_num, HF.out, HB9.out⟩
          case measure => simp [intOf]; omega
        | false =>
          have HO7 := Lib.hid how
          have HB7 := Lib.hid hbw
          clear how hbw c0
          go_upto_region 7 with fail
          go_upto_region 4 with (first
            | (go_at_call 34; refine (HI.out wr (fun q hq => (HB7.out.cell (HPW.out _ hq)).trans (HW.out q hq)) (fun b hb => by have := HPW.out b hb; have := HB7.out.size; omega) hlb).mono ?_; rintro en w8 ⟨vb, rfl, hob, hb8⟩; have hown8 := own_und2 HO7.out hb8; have hb8' := HB7.out.trans (hb8.mono HB7.out.size); obtain ⟨Ab, cb, rfl⟩ := own_slice hob; have hcat := own_cat hob; have hWs8 := hb8'.size; clear hb8 hob)
            | (at_builtin; refine wpList_append_cat rfl (.tmp 24) (.tmp 30) 51 rfl W.heap.size 3 ie (.int .i64 0) 1 8 Tryd.underlying51 hi hz0 hz1 hz2 rfl (by decide) vo (ps.length) _ rfl hown8 Ab (headsL body).length cb ((headsL body).map iV) rfl (by simp) hcat (iV_one _) (by unfold maxLen; omega) (by omega) hWs8 ?_; intro v9 w9 hown9 hgr9 hat9))
          have hb9 := hb8'.grown hgr9 hWs8 (fun k hk => (hown8.lt k hk).1)
          have hfin : w9.ownsRow W.heap.size 3 1 v9 (headsL (l.take (m + 1))).length ((headsL (l.take (m + 1))).map iV) := by
            first
              | (rw [HTK.out, List.length_append, List.length_append, List.map_append, List.map_append]; exact hown9)
              | (rw [HTK.out]; simp only [Bool.false_eq_true, if_false, List.append_nil, List.length_append, List.map_append]; exact hown9)
          have HF := Lib.hid hfin
          have HB9 := Lib.hid hb9
          clear hfin hb9 hown9 hgr9 hat9 hown8 hcat hb8'
          go_wp2
          go_roundw
          case rel => exact ⟨m + 1, _, by omega, rfl, by go_num, HF.out, HB9.out⟩
          case measure => simp [intOf]; omega
      · obtain rfl : m = l.length := by omega
        rw [List.take_length] at how
        go_wp2
        go_ret
        exact ⟨_, rfl, how, hbw⟩

/-- What Inside gives. -/
def InsPost (W : World) (r : Option (List Int)) (en : Ending) (W' : World) : Prop :=
  ∃ vo, en = .returned (.tuple #[vo, .bool r.isSome]) ∧ W'.ownsRow W.heap.size 3 1 vo (r.getD []).length ((r.getD []).map iV) ∧ Below W.heap.size W W'
theorem ins_take {l : List El} {m : Nat} {x : El} {q : Int} (hx : l[m]? = some x) (h0 : insL (l.take m) q = none) : insL l q = (match insE x q with | some r => some r | none => insL (l.drop (m + 1)) q) ∧ (insE x q = none → insL (l.take (m + 1)) q = none) := by
  have htk : l.take (m + 1) = l.take m ++ [x] := by rw [List.take_add_one, hx]; rfl
  constructor
  · conv => lhs; rw [← List.take_append_drop m l]
    have hd : l.drop m = x :: l.drop (m + 1) := by
      obtain ⟨hm, rfl⟩ := List.getElem?_eq_some_iff.1 hx
      exact List.drop_eq_getElem_cons hm
    rw [insL_append_right _ h0, hd, insL_cons]
    cases insE x q <;> rfl
  · intro h
    rw [htk, insL_append_right _ h0, insL_cons, h, insL_nil]
mutual
theorem insE_len : ∀ (x : El) (q : Int) (r : List Int), insE x q = some r → r.length ≤ x.pts.length
  | .mk p c b, q, r, h => by
    rw [insE_mk] at h
    rw [El.pts_mk]
    split at h
    · cases h
      cases c <;> simp
    · obtain ⟨s, hs, rfl⟩ := Option.map_eq_some_iff.1 h
      have := insL_len b q s hs
      cases c <;> simp <;> omega
theorem insL_len : ∀ (l : List El) (q : Int) (r : List Int), insL l q = some r → r.length ≤ (ptsL l).length
  | [], q, r, h => by rw [insL_nil] at h; cases h
  | x :: l, q, r, h => by
    rw [insL_cons] at h
    rw [ptsL_cons]
    cases hx : insE x q with
    | some s =>
      rw [hx] at h
      cases h
      have := insE_len x q _ hx
      simp
      omega
    | none =>
      rw [hx] at h
      have := insL_len l q r h
      simp
      omega
end

set_option maxRecDepth 100000 in
set_option maxHeartbeats 4000000 in
theorem rinside_any {P : Nat → Prop} {w : World} {v : Value} {l : List El} (h : Els P w v l) (q : Int) : ∀ W : World, (∀ p : Addr, P p.block → W.cell? p = w.cell? p) → (∀ b, P b → b < W.heap.size) → (ptsL l).length ≤ 1000000 →
    Calls Tryd.prog 48 #[v, .int .i64 q] W (InsPost W (insL l q)) := by
  induction h with
  | mk A c l us hlc hm hz hc hr ih =>
    intro W hW hPW hlen
    have HC := Lib.hid hc
    have HIH := Lib.hid ih
    have HR := Lib.hid hr
    have HW := Lib.hid hW
    have HPW := Lib.hid hPW
    have HLEN := Lib.hid hlen
    have hl63 : l.length ≤ 9223372036854775807 := by unfold maxLen at hm; omega
    obtain ⟨ie, hi, hz0, hz1, hz2⟩ := info_parts info_int
    clear hc hr ih hW hPW hm hlen
    go_enter Tryd.func48, Tryd.ntmps48
    go_wp2
    go_loopw [6] (fun y wr => ∃ (m : Nat), m ≤ l.length ∧ y = .int .i64 m ∧ Hid (insL (l.take m) q = none) ∧ Below W.heap.size W wr) (fun y _ => l.length - (intOf y).toNat)
    case atStart => exact ⟨0, Nat.zero_le _, rfl, Lib.hid (by rw [List.take_zero, insL_nil]), Below.refl _ _⟩
    case round =>
      obtain ⟨m, hm, rfl, HN, hbw⟩ := hrel
      by_cases hlt : m < l.length
      · obtain ⟨x, hx⟩ : ∃ x, l[m]? = some x := ⟨_, List.getElem?_eq_getElem hlt⟩
        obtain ⟨ad, hA, hPad, e0, e1, e2, hI⟩ := HC.out m x hx
        subst hA
        have hk : ∀ i, wr.cell? (ad.add i) = w.cell? (ad.add i) := fun i => (hbw.cell (by rw [block_add]; exact HPW.out _ hPad)).trans (HW.out _ (by rw [block_add]; exact hPad))
        have c0 := (hk (m * 3)).trans e0
        have c1 := (hk (m * 3 + 1)).trans e1
        have c2 := (hk (m * 3 + 2)).trans e2
        rw [← add_add', addrOne] at c1
        rw [← add_add', addrTwo] at c2
        have hih := HIH.out m x hx
        have hit := ins_take hx HN.out
        have hbl := pts_body_le hx
        have hll := HLEN.out
        have hadW := HPW.out _ hPad
        obtain ⟨Au, cu, hu, -⟩ := (HR.out m x hx).shape
        rw [hu] at c2 hih
        clear hu
        obtain ⟨p, cc, body⟩ := x
        simp only [El.p, El.c, El.body] at c0 c1 c2 hih hbl
        rw [insE_mk] at hit
        have hlb : (ptsL body).length ≤ 1000000 := by omega
        have hilen := fun r hr => insL_len body q r hr
        have hlt1 : (m : Int) < (l.length : Int) := by omega
        have HIT := Lib.hid hit
        have HI := Lib.hid hih
        have hgv := hbw.size
        clear hih e0 e1 e2 hk hx hPad hI hbl hit HN
        cases cc with
        | true =>
          have hbo := hbw.alloc hbw.size (.cells #[.int .i64 p] 3)
          have hown : (wr.alloc (.cells #[.int .i64 p] 3)).ownsRow W.heap.size 3 1 (.slice (some ⟨wr.heap.size, 0, none⟩) 1 1) 1 [.int .i64 p] := own_lower (World.ownsRow_lit wr #[.int .i64 p] 1 (Nat.le_refl _) (by simp [maxLen]) rfl) hbw.size
          have d0 : (wr.alloc (.cells #[.int .i64 p] 3)).cell? (ad.add (m * 3)) = some (.int .i64 p) := (((Below.refl wr.heap.size wr).alloc (Nat.le_refl _) _).cell (by rw [block_add]; omega)).trans c0
          have d2 : (wr.alloc (.cells #[.int .i64 p] 3)).cell? ⟨(ad.add (m * 3)).block, (ad.add (m * 3)).off + 2, none⟩ = some (.slice Au body.length cu) := (((Below.refl wr.heap.size wr).alloc (Nat.le_refl _) _).cell (by rw [block_add]; omega)).trans c2
          have HO0 := Lib.hid hown
          have HB0 := Lib.hid hbo
          clear hbw hown hbo
          go_upto_region 7 with fail
          clear c0 c1 c2
          revert d0 d2 HO0 HB0
          generalize wr.alloc (.cells #[.int .i64 p] 3) = wy
          generalize Value.slice (some ⟨wr.heap.size, 0, none⟩) 1 1 = vy
          intro d0 d2 HO0 HB0
          have hown := HO0.out
          have hbo := HB0.out
          obtain ⟨Ay, cy, rfl⟩ := own_slice hown
          by_cases hpq : p = q
          · subst hpq
            have hfin : insL l p = some [p] := by have := HIT.out.1; rw [if_pos rfl] at this; exact this
            have HF := Lib.hid hfin
            have hxb : (p == p) = true := by simp
            have HO := Lib.hid hown
            have HB := Lib.hid hbo
            clear hfin hown hbo HIT
            go_wp2
            go_ret2
            exact ⟨_, by rw [HF.out]; rfl, by rw [HF.out]; exact HO.out, HB.out⟩
          · have hxb : (p == q) = false := by simpa using hpq
            have hgw := hbo.size
            have HHO := Lib.hid hown
            have HB := Lib.hid hbo
            have hIW : Calls Tryd.prog 48 #[.slice Au body.length cu, .int .i64 q] wy (InsPost wy (insL body q)) :=
              HI.out _ (fun q hq => (HB.out.cell (HPW.out _ hq)).trans (HW.out q hq)) (fun b hb => by have := HPW.out b hb; omega) hlb
            cases ho : insL body q with
            | none =>
              rw [ho] at hIW
              have hnx : insL (l.take (m + 1)) q = none := HIT.out.2 (by rw [if_neg hpq, ho]; rfl)
              have HNX := Lib.hid hnx
              have hI2 : Calls Tryd.prog 48 #[.slice Au body.length cu, .int .i64 q] wy fun en W' => ∃ vo, en = .returned (.tuple #[vo, .bool false]) ∧ Below (wy).heap.size wy W' := hIW.mono fun en W' ⟨vo, h1, _, h3⟩ => ⟨vo, h1, h3⟩
              have HI2 := Lib.hid hI2
              clear hI2 hIW hnx ho hown hbo HIT HI
              go_wp2_with (go_at_call 48; refine HI2.out.mono ?_; rintro en w8 ⟨vb, rfl, hb8⟩; have hb8' := HB.out.trans (hb8.mono HB.out.size))
              go_roundw
              case rel => exact ⟨m + 1, by omega, by go_num, HNX, hb8'⟩
              case measure => simp [intOf]; omega
            | some r =>
              rw [ho] at hIW
              have hfin : insL l q = some ([p] ++ r) := by have := HIT.out.1; rw [if_neg hpq, ho] at this; exact this
              have HF := Lib.hid hfin
              have hrl := hilen r ho
              have hk1 : ([p]).length ≤ 1 := by simp
              have hI2 : Calls Tryd.prog 48 #[.slice Au body.length cu, .int .i64 q] wy fun en W' => ∃ vo, en = .returned (.tuple #[vo, .bool true]) ∧ W'.ownsRow (wy).heap.size 3 1 vo r.length (r.map iV) ∧ Below (wy).heap.size wy W' := hIW
              have HI2 := Lib.hid hI2
              clear hI2 hIW hfin ho hown hbo HIT HI hilen
              go_upto_region 11 with (go_at_call 48; refine HI2.out.mono ?_; rintro en w8 ⟨vb, rfl, hob, hb8⟩; have hown8 := own_und2 HHO.out hb8; have hb8' := HB.out.trans (hb8.mono HB.out.size); obtain ⟨Ab, cb, rfl⟩ := own_slice hob; have hcat := own_cat hob; have hWs8 := hb8'.size; clear hb8 hob)
              go_wp2_with (at_builtin; refine wpList_append_cat rfl (.tmp 46) (.tmp 47) 51 rfl W.heap.size 3 ie (.int .i64 0) 1 8 Tryd.underlying51 hi hz0 hz1 hz2 rfl (by decide) (.slice Ay 1 cy) ([p]).length (([p]).map iV) rfl hown8 Ab r.length cb (r.map iV) rfl (by simp) hcat (iV_one _) (by unfold maxLen; omega) (by omega) hWs8 ?_; intro v9 w9 hown9 hgr9 hat9)
              have hb9 := hb8'.grown hgr9 hWs8 (fun k hk => (hown8.lt k hk).1)
              have HO9 := Lib.hid hown9
              have HB9 := Lib.hid hb9
              clear hown9 hgr9 hat9 hown8 hcat hb8' hb9
              go_ret2
              exact ⟨_, by rw [HF.out]; rfl, by rw [HF.out, Option.getD_some, List.length_append, List.map_append]; exact HO9.out, HB9.out⟩
        | false =>
          have hown : wr.ownsRow W.heap.size 3 1 (.slice none 0 0) 0 [] := World.ownsRow_nil _ _ _ _
          have hbo := hbw
          clear hbw
          have HO0 := Lib.hid hown
          clear hown
          go_upto_region 7 with fail
          clear c1
          have hown := HO0.out
          by_cases hpq : p = q
          · subst hpq
            have hfin : insL l p = some ([] : List Int) := by have := HIT.out.1; rw [if_pos rfl] at this; exact this
            have HF := Lib.hid hfin
            have hxb : (p == p) = true := by simp
            have HO := Lib.hid hown
            have HB := Lib.hid hbo
            clear hfin hown hbo HIT
            go_wp2
            go_ret2
            exact ⟨_, by rw [HF.out]; rfl, by rw [HF.out]; exact HO.out, HB.out⟩
          · have hxb : (p == q) = false := by simpa using hpq
            have hgw := hbo.size
            have HHO := Lib.hid hown
            have HB := Lib.hid hbo
            have hIW : Calls Tryd.prog 48 #[.slice Au body.length cu, .int .i64 q] wr (InsPost wr (insL body q)) :=
              HI.out _ (fun q hq => (HB.out.cell (HPW.out _ hq)).trans (HW.out q hq)) (fun b hb => by have := HPW.out b hb; omega) hlb
            cases ho : insL body q with
            | none =>
              rw [ho] at hIW
              have hnx : insL (l.take (m + 1)) q = none := HIT.out.2 (by rw [if_neg hpq, ho]; rfl)
              have HNX := Lib.hid hnx
              have hI2 : Calls Tryd.prog 48 #[.slice Au body.length cu, .int .i64 q] wr fun en W' => ∃ vo, en = .returned (.tuple #[vo, .bool false]) ∧ Below (wr).heap.size wr W' := hIW.mono fun en W' ⟨vo, h1, _, h3⟩ => ⟨vo, h1, h3⟩
              have HI2 := Lib.hid hI2
              clear hI2 hIW hnx ho hown hbo HIT HI
              go_wp2_with (go_at_call 48; refine HI2.out.mono ?_; rintro en w8 ⟨vb, rfl, hb8⟩; have hb8' := HB.out.trans (hb8.mono HB.out.size))
              go_roundw
              case rel => exact ⟨m + 1, by omega, by go_num, HNX, hb8'⟩
              case measure => simp [intOf]; omega
            | some r =>
              rw [ho] at hIW
              have hfin : insL l q = some (([] : List Int) ++ r) := by have := HIT.out.1; rw [if_neg hpq, ho] at this; exact this
              have HF := Lib.hid hfin
              have hrl := hilen r ho
              have hk1 : (([] : List Int)).length ≤ 1 := by simp
              have hI2 : Calls Tryd.prog 48 #[.slice Au body.length cu, .int .i64 q] wr fun en W' => ∃ vo, en = .returned (.tuple #[vo, .bool true]) ∧ W'.ownsRow (wr).heap.size 3 1 vo r.length (r.map iV) ∧ Below (wr).heap.size wr W' := hIW
              have HI2 := Lib.hid hI2
              clear hI2 hIW hfin ho hown hbo HIT HI hilen
              go_upto_region 11 with (go_at_call 48; refine HI2.out.mono ?_; rintro en w8 ⟨vb, rfl, hob, hb8⟩; have hown8 := own_und2 HHO.out hb8; have hb8' := HB.out.trans (hb8.mono HB.out.size); obtain ⟨Ab, cb, rfl⟩ := own_slice hob; have hcat := own_cat hob; have hWs8 := hb8'.size; clear hb8 hob)
              go_wp2_with (at_builtin; refine wpList_append_cat rfl (.tmp 46) (.tmp 47) 51 rfl W.heap.size 3 ie (.int .i64 0) 1 8 Tryd.underlying51 hi hz0 hz1 hz2 rfl (by decide) (.slice none 0 0) (([] : List Int)).length ((([] : List Int)).map iV) rfl hown8 Ab r.length cb (r.map iV) rfl (by simp) hcat (iV_one _) (by unfold maxLen; omega) (by omega) hWs8 ?_; intro v9 w9 hown9 hgr9 hat9)
              have hb9 := hb8'.grown hgr9 hWs8 (fun k hk => (hown8.lt k hk).1)
              have HO9 := Lib.hid hown9
              have HB9 := Lib.hid hb9
              clear hown9 hgr9 hat9 hown8 hcat hb8' hb9
              go_ret2
              exact ⟨_, by rw [HF.out]; rfl, by rw [HF.out, Option.getD_some, List.length_append, List.map_append]; exact HO9.out, HB9.out⟩
      · obtain rfl : m = l.length := by omega
        have hn := HN.out
        rw [List.take_length] at hn
        have HNN := Lib.hid hn
        clear hn
        go_wp2
        go_ret2
        exact ⟨_, by rw [HNN.out]; rfl, by rw [HNN.out]; exact World.ownsRow_nil _ _ _ _, hbw⟩
theorem rwithin_any {P : Nat → Prop} {w : World} {v : Value} {l : List El} (h : Els P w v l) (q : Int) (hP : ∀ b, P b → b < w.heap.size) (hlen : (ptsL l).length ≤ 1000000) :
    Calls Tryd.prog 30 #[v, .int .i64 q] w fun en W' => ∃ vo, en = .returned (.tuple #[vo, .int .i64 (wErr l q)]) ∧ W'.ownsRow w.heap.size 3 1 vo (wHeads l q).length ((wHeads l q).map iV) ∧ Below w.heap.size w W' := by
  have hi := rinside_any h q w (fun _ _ => rfl) hP hlen
  unfold wErr wHeads
  unfold InsPost at hi
  revert hi
  generalize insL l q = o
  intro hi
  cases o with
  | none =>
    have hi2 : Calls Tryd.prog 48 #[v, .int .i64 q] w fun en W' => ∃ vo, en = .returned (.tuple #[vo, .bool false]) ∧ Below w.heap.size w W' := hi.mono fun en W' ⟨vo, h1, _, h3⟩ => ⟨vo, h1, h3⟩
    have HI := Lib.hid hi2
    clear hi hi2
    go_enter Tryd.func30, Tryd.ntmps30
    go_wp2_with (go_at_call 48; refine HI.out.mono ?_; rintro en w8 ⟨vb, rfl, hb8⟩)
    go_ret2
    exact ⟨_, rfl, World.ownsRow_nil _ _ _ _, hb8⟩
  | some r =>
    have hi2 : Calls Tryd.prog 48 #[v, .int .i64 q] w fun en W' => ∃ vo, en = .returned (.tuple #[vo, .bool true]) ∧ W'.ownsRow w.heap.size 3 1 vo r.length (r.map iV) ∧ Below w.heap.size w W' := hi
    have HI := Lib.hid hi2
    clear hi hi2
    go_enter Tryd.func30, Tryd.ntmps30
    go_wp2_with (go_at_call 48; refine HI.out.mono ?_; rintro en w8 ⟨vb, rfl, hob, hb8⟩)
    go_ret2
    exact ⟨_, rfl, hob, hb8⟩
end Go.Proofs.YthaampinmelgaaaDoor

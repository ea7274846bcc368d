/- The reference's each and Check: plain and walked; the law WtoChecks, walked. -/
import Derived.Test.YthaampinmelgaaaDoorCheckW
import Derived.Test.YthaampinmelgaaaDoorHoldsL
import Derived.Test.YthaampinmelgaaaDoorRefL
/-! The reference's check of elements: plain; each, walked. -/
/-! The reference's check of elements, plain: the first error, element by element. No program here. -/
namespace Go.Proofs.YthaampinmelgaaaDoor
open Go.RowKit

theorem eachErr_bad {n : Nat} {R : List Bool} : ∀ (G : List (El × List Int)) (seen : List Int) (H : List (El × List Int)), eachErr n R seen G ≠ 0 → eachErr n R seen (G ++ H) = eachErr n R seen G
  | [], seen, H, h => absurd rfl h
  | z :: G, seen, H, h => by
    rw [List.cons_append]
    simp only [eachErr] at h ⊢
    by_cases hz : eltErr n R seen z.1 ≠ 0
    · rw [if_pos hz, if_pos hz]
    · rw [if_neg hz] at h ⊢
      rw [if_neg hz]
      exact eachErr_bad G _ H h
section
variable {n : Nat} {R : List Bool} {l pre post : List El} {x : El} {hs seen : List Int}
theorem each_split (hl : l = pre ++ x :: post) (h0 : eachErr n R seen (walkL pre hs) = 0) : eachErr n R seen (walkL l hs) = eachErr n R (seen ++ ptsL pre) (x.walk hs ++ walkL post hs) := by
  rw [hl, walkL_append, eachErr_append n R _ _ _ h0, walkL_pts, walkL_cons]
theorem each_elt (hl : l = pre ++ x :: post) (h0 : eachErr n R seen (walkL pre hs) = 0) (hx : eltErr n R (seen ++ ptsL pre) x ≠ 0) : eachErr n R seen (walkL l hs) = eltErr n R (seen ++ ptsL pre) x := by
  rw [each_split hl h0]
  obtain ⟨p, c, b⟩ := x
  rw [El.walk_mk, List.cons_append]
  simp only [eachErr]
  rw [if_pos hx]
theorem walk_body (x : El) (hs : List Int) : ∃ h, x.walk hs = (x, h) :: walkL x.body h := by
  obtain ⟨p, c, b⟩ := x
  exact ⟨_, El.walk_mk p c b hs⟩
theorem each_body {h : List Int} (hw : x.walk hs = (x, h) :: walkL x.body h) (hl : l = pre ++ x :: post) (h0 : eachErr n R seen (walkL pre hs) = 0) (hx : eltErr n R (seen ++ ptsL pre) x = 0)
    (hb : eachErr n R (seen ++ ptsL pre ++ [x.p]) (walkL x.body h) ≠ 0) : eachErr n R seen (walkL l hs) = eachErr n R (seen ++ ptsL pre ++ [x.p]) (walkL x.body h) := by
  rw [each_split hl h0, hw, List.cons_append]
  simp only [eachErr]
  rw [if_neg (fun e => e hx)]
  exact eachErr_bad _ _ _ hb
theorem each_next {h : List Int} (hw : x.walk hs = (x, h) :: walkL x.body h) (h0 : eachErr n R seen (walkL pre hs) = 0) (hx : eltErr n R (seen ++ ptsL pre) x = 0)
    (hb : eachErr n R (seen ++ ptsL pre ++ [x.p]) (walkL x.body h) = 0) : eachErr n R seen (walkL (pre ++ [x]) hs) = 0 ∧ seen ++ ptsL pre ++ [x.p] ++ ptsL x.body = seen ++ ptsL (pre ++ [x]) := by
  constructor
  · rw [walkL_append, eachErr_append n R _ _ _ h0, walkL_pts, walkL_cons, walkL_nil, List.append_nil, hw]
    simp only [eachErr]
    rw [if_neg (fun e => e hx)]
    exact hb
  · obtain ⟨p, c, b⟩ := x
    rw [ptsL_append, ptsL_cons, ptsL_nil, El.pts_mk]
    simp [El.p, El.body]
end
/-- The places of points that came: idxI in place of placeI, where all are there. -/
theorem place_idx {l : List Int} {u : Int} (h : u ∈ l) : placeI l u = idxI l u := by
  rw [idxI_of]
  unfold placeI
  cases hf : l.findIdx? (fun x => decide (x = u)) with
  | some i => rfl
  | none =>
    rw [List.findIdx?_eq_none_iff] at hf
    have := hf u h
    simp at this
theorem idx_mem {l : List Int} {u : Int} : decide (0 ≤ idxI l u) = decide (u ∈ l) := by
  rw [idxI_contains]
  by_cases h : u ∈ l <;> simp [h]
end Go.Proofs.YthaampinmelgaaaDoor

/-! The reference's each and Check; the law WtoChecks, walked. -/
namespace Go.Proofs.YthaampinmelgaaaDoor
open Go.RowKit Go.Shelf

/-- append of all elements of a slice, nil, empty or not: one step of a drawn region. -/
theorem step_append_cat {P : Program} {w : World} {ops : Array Oper} {o : Oper} {a : Act} {K : Act → World → Prop} {Q : Exit → Act → World → Prop} {E : Prop} (hgd : o.guard = none) (s x : Operand) (t : TypeId)
    (ho : o.op = .call { callee := .builtin .append, args := #[s, x], argTypes := #[t, t] })
    (base : Nat) (e : TypeId) (i : TypeInfo) (z : Value) (size bytes : Nat) (ht : P.underlying t = some (.slice e)) (hi : P.info? e = some i) (hz : i.zero = some z)
    (hsize : i.size = size) (hby : i.bytes = bytes) (hzs : z.cells.size = size) (hsz : 0 < size)
    (v : Value) (n : Nat) (xs : List Value) (hs : a.eval s = v) (hown : w.ownsRow base e size v n xs)
    (A : Option Addr) (m c : Nat) (news : List Value) (hx : a.eval x = .slice A m c) (hl : news.length = m * size) (hnews : 0 < m → ∃ ad, A = some ad ∧ ∀ j u, news[j]? = some u → w.cell? (ad.add j) = some u) (h1 : ∀ u ∈ news, u.oneCell' = true)
    (h63 : n + m ≤ maxLen) (hbytes : (n + m) * bytes ≤ 140737488355328) (hbase : base ≤ w.heap.size)
    (h : ∀ v' w', w'.ownsRow base e size v' (n + m) (xs ++ news) → w.grownBy w' v.ownBlock → (v.ownBlock = v'.ownBlock ∨ ∃ b, v'.ownBlock = some b ∧ w.heap.size ≤ b) → K (a.put o.dst v') w') :
    if Region.wanted o (yielded ops a.tmps) = true then Oper.wp P o a w K Q else E := by
  by_cases hm : m = 0
  · subst hm
    have hn0 : news = [] := List.eq_nil_of_length_eq_zero (by simpa using hl)
    subst hn0
    have hw : Region.wanted o (yielded ops a.tmps) = true := by simp [Region.wanted, hgd]
    rw [if_pos hw]
    have hrun := run_append_zero (P := P) (w := w) t o.type e i ht hi hown A c
    unfold Oper.wp
    simp [execOp, ho, resolve, invoke, builtin, hs, hx, hrun, Result.andThen]
    exact h v w (by simpa using hown) ⟨rfl, rfl, rfl, Nat.le_refl _, fun _ _ _ => rfl⟩ (.inl rfl)
  · obtain ⟨ad, rfl, hc⟩ := hnews (by omega)
    refine step_append_lies w hgd s x t ho base e i z size bytes ht hi hz hsize hby hzs hsz v n xs hs hown ad m c news hx hl hc h1 (by omega) h63 hbytes hbase w.heap.size rfl ?_
    intro g cap w' h2 h3 h4 _
    refine h _ w' h2 h3 ?_
    rcases h4 with h4 | h4
    · exact .inl (by rw [h4]; rfl)
    · exact .inr ⟨g, rfl, by omega⟩

theorem Ints.stp {W W' : World} {v : Value} {xs : List Int} (h : Ints W.heap.size W v xs) (hb : Below W.heap.size W W') : Ints W'.heap.size W' v xs := (Ints.below h hb).more hb.size
theorem ints_cat {B : Nat} {w w' : World} {A : Option Addr} {c : Nat} {xs : List Int} (h : Ints B w (.slice A xs.length c) xs) (hk : ∀ p : Addr, p.block < B → w'.cell? p = w.cell? p) : 0 < xs.length → ∃ ad, A = some ad ∧ ∀ j u, (xs.map iV)[j]? = some u → w'.cell? (ad.add j) = some u := fun hp => by
  obtain ⟨A', c', he, -, -, -, hat⟩ := h.shape
  cases he
  obtain ⟨ad, u, hA, -⟩ := hat 0 _ (List.getElem?_eq_getElem hp)
  subst hA
  refine ⟨ad, rfl, fun j u hj => ?_⟩
  rw [List.getElem?_map] at hj
  cases hx : xs[j]? with
  | none => rw [hx] at hj; cases hj
  | some x =>
    rw [hx] at hj
    cases hj
    obtain ⟨ad', u', hA', hb, hc, hu⟩ := hat j x hx
    cases hA'
    obtain rfl : u' = .int .i64 x := hu
    exact (hk _ (by rw [block_add]; exact hb)).trans hc
/-- What each gives. -/
def EachPost (W : World) (R : List Bool) (seen hs : List Int) (l : List El) (en : Ending) (W' : World) : Prop :=
  ∃ vo, en = .returned (.tuple #[vo, .int .i64 (eachErr R.length R seen (walkL l hs))]) ∧ (eachErr R.length R seen (walkL l hs) = 0 → Ints W'.heap.size W' vo (seen ++ ptsL l)) ∧ Below W.heap.size W W'

set_option maxRecDepth 100000 in
set_option maxHeartbeats 4000000 in
theorem each_any {P : Nat → Prop} {w : World} {v : Value} {l : List El} (h : Els P w v l) (R : List Bool) (hRl : R.length ≤ 1000) : ∀ (W : World) (hs seen : List Int) (vr vs : Value), (∀ p : Addr, P p.block → W.cell? p = w.cell? p) → (∀ b, P b → b < W.heap.size) →
    Bools W.heap.size W vr R → Ints W.heap.size W vs seen → seen.length + (ptsL l).length ≤ 1000000 →
    Calls Tryd.prog 46 #[v, vr, vs] W (EachPost W R seen hs l) := by
  induction h with
  | mk A c l us hlc hm hz hc hr ih =>
    intro W hs seen vr vs hW hPW hvr hvs hlen
    have HC := Lib.hid hc
    have HIH := Lib.hid ih
    have HR := Lib.hid hr
    have HW := Lib.hid hW
    have HPW := Lib.hid hPW
    have HLEN := Lib.hid hlen
    have HVR := Lib.hid hvr
    have hl63 : l.length ≤ 9223372036854775807 := by unfold maxLen at hm; omega
    obtain ⟨ie, hi, hz0, hz1, hz2⟩ := info_parts info_int
    obtain ⟨Ar, cr, rfl, -, -, -, hra⟩ := id hvr.shape
    have HRA := Lib.hid hra
    have HRL := Lib.hid hRl
    have HVS := Lib.hid hvs
    clear hc hr ih hW hPW hm hlen hvr hvs hra hRl
    go_enter Tryd.func46, Tryd.ntmps46
    go_wp2
    go_loopw [2, 8] (fun x y wr => ∃ (m : Nat) (vs : Value), m ≤ l.length ∧ vs = x ∧ y = .int .i64 m ∧ Hid (eachErr R.length R seen (walkL (l.take m) hs) = 0) ∧ Ints wr.heap.size wr vs (seen ++ ptsL (l.take m)) ∧ Below W.heap.size W wr) (fun _ y _ => l.length - (intOf y).toNat)
    case atStart => exact ⟨0, _, Nat.zero_le _, rfl, rfl, Lib.hid (by rw [List.take_zero, walkL_nil]; rfl), by rw [List.take_zero, ptsL_nil, List.append_nil]; exact HVS.out, Below.refl _ _⟩
    case round =>
      obtain ⟨m, vs, hm, rfl, rfl, HE0, his, hbw⟩ := hrel
      by_cases hlt : m < l.length
      · obtain ⟨x, hx⟩ : ∃ x, l[m]? = some x := ⟨_, List.getElem?_eq_getElem hlt⟩
        obtain ⟨ad, hA, hPad, e0, e1, e2, hI⟩ := HC.out m x hx
        subst hA
        have hk : ∀ i, wr.cell? (ad.add i) = w.cell? (ad.add i) := fun i => (hbw.cell (by rw [block_add]; exact HPW.out _ hPad)).trans (HW.out _ (by rw [block_add]; exact hPad))
        have c0 := (hk (m * 3)).trans e0
        have c1 := (hk (m * 3 + 1)).trans e1
        have c2 := (hk (m * 3 + 2)).trans e2
        rw [← add_add', addrOne] at c1
        rw [← add_add', addrTwo] at c2
        have hih := HIH.out m x hx
        have hsp : l = l.take m ++ x :: l.drop (m + 1) := by
          obtain ⟨hm', rfl⟩ := List.getElem?_eq_some_iff.1 hx
          rw [← List.drop_eq_getElem_cons hm', List.take_append_drop]
        have htk : l.take (m + 1) = l.take m ++ [x] := by rw [List.take_add_one, hx]; rfl
        have hbl := pts_body_le hx
        have hll := HLEN.out
        obtain ⟨hh, hwb⟩ := walk_body x hs
        have helt := each_elt (n := R.length) (R := R) (hs := hs) (seen := seen) hsp HE0.out
        have hbod := each_body (n := R.length) (R := R) (seen := seen) hwb hsp HE0.out
        have hnxt := each_next (n := R.length) (R := R) (seen := seen) (pre := l.take m) hwb HE0.out
        rw [← htk] at hnxt
        obtain ⟨Au, cu, hu, -⟩ := (HR.out m x hx).shape
        rw [hu] at c2 hih
        clear hu
        obtain ⟨p, cc, body⟩ := x
        simp only [El.p, El.c, El.body] at c0 c1 c2 hih hbl hbod hnxt
        have hsl : (seen ++ ptsL (l.take m)).length + 1 + (ptsL body).length ≤ 1000000 := by rw [List.length_append]; omega
        revert helt hbod hnxt his hsl
        generalize seen ++ ptsL (l.take m) = sn
        intro his helt hbod hnxt hsl
        have HELT := Lib.hid helt
        have HBOD := Lib.hid hbod
        have HNXT := Lib.hid hnxt
        have hlt1 : (m : Int) < (l.length : Int) := by omega
        have HI := Lib.hid hih
        have hba := hbw.alloc hbw.size (.cells #[.int .i64 p, .bool cc, .slice Au body.length cu] 88)
        have hbk : Blk (wr.alloc (.cells #[.int .i64 p, .bool cc, .slice Au body.length cu] 88)) wr.heap.size 88 [.int .i64 p, .bool cc, .slice Au body.length cu] := Blk.newAt wr 88 #[.int .i64 p, .bool cc, .slice Au body.length cu] rfl
        have hisa := Ints.stp his ((Below.refl wr.heap.size wr).alloc (Nat.le_refl _) (.cells #[.int .i64 p, .bool cc, .slice Au body.length cu] 88))
        have HBA := Lib.hid hba
        have HBK := Lib.hid hbk
        have HISA := Lib.hid hisa
        have hsz : wr.heap.size < (wr.alloc (.cells #[.int .i64 p, .bool cc, .slice Au body.length cu] 88)).heap.size := by rw [World.size_alloc]; omega
        clear hih e0 e1 e2 hk hx hPad hI hba hbk hisa his hbw helt hbod hnxt hsp htk hbl hwb
        go_upto_region 5 with fail
        clear c0 c1 c2
        revert HBA HBK HISA hsz
        generalize wr.alloc (.cells #[.int .i64 p, .bool cc, .slice Au body.length cu] 88) = wz
        generalize wr.heap.size = g
        intro HBA HBK HISA hsz
        obtain ⟨As, cs, rfl, -⟩ := id HISA.out.shape
        have c0 := HBK.out.cellAt (i := 0) rfl
        have c1 := HBK.out.cellAt (i := 1) rfl
        have c2 := HBK.out.cellAt (i := 2) rfl
        cases cc with
        | true =>
          by_cases hp0 : p < 0
          · have hpd : decide (p < 0) = true := decide_eq_true hp0
            have hex : eachErr R.length R seen (walkL l hs) = 6 := by
              have h0 := elt6 (n := R.length) (R := R) (seen := sn) (cc := true) (bb := body) (fun hf => Bool.noConfusion hf.1) (.inl hp0)
              have h1 := HELT.out (by rw [h0]; decide)
              rw [h1, h0]
            have HEX := Lib.hid hex
            clear hex
            go_wp2
            go_ret2
            exact ⟨_, by rw [HEX.out]; rfl, fun h => by rw [HEX.out] at h; exact absurd h (by decide), HBA.out⟩
          · have hpd : decide (p < 0) = false := decide_eq_false hp0
            by_cases hpn : (R.length : Int) ≤ p
            · have hpe : decide ((R.length : Int) ≤ p) = true := decide_eq_true hpn
              have hex : eachErr R.length R seen (walkL l hs) = 6 := by
                have h0 := elt6 (n := R.length) (R := R) (seen := sn) (cc := true) (bb := body) (fun hf => Bool.noConfusion hf.1) (.inr (.inl hpn))
                have h1 := HELT.out (by rw [h0]; decide)
                rw [h1, h0]
              have HEX := Lib.hid hex
              clear hex
              go_wp2
              go_ret2
              exact ⟨_, by rw [HEX.out]; rfl, fun h => by rw [HEX.out] at h; exact absurd h (by decide), HBA.out⟩
            · have hpe : decide ((R.length : Int) ≤ p) = false := decide_eq_false hpn
              obtain ⟨pn, rfl⟩ : ∃ pn : Nat, p = (pn : Int) := ⟨p.toNat, by omega⟩
              have hpl : pn < R.length := by omega
              have hpl1 : (pn : Int) < (R.length : Int) := by omega
              obtain ⟨ar, u, rfl, hbr, hcr, hur⟩ := HRA.out pn _ (List.getElem?_eq_getElem hpl)
              obtain rfl : u = .bool R[pn] := hur
              have hgd : R.getD (pn : Int).toNat false = R[pn] := by rw [Int.toNat_natCast, List.getD_eq_getElem?_getD, List.getElem?_eq_getElem hpl]; rfl
              have hcz : wz.cell? (ar.add pn) = some (.bool R[pn]) := (HBA.out.cell (by rw [block_add]; exact hbr)).trans hcr
              clear hcr hbr hpd hpe
              have hpd : decide ((pn : Int) < 0) = false := by rw [decide_eq_false_iff_not]; omega
              have hpe : decide ((R.length : Int) ≤ (pn : Int)) = false := by rw [decide_eq_false_iff_not]; omega
              have hpe2 : decide (R.length ≤ pn) = false := by rw [decide_eq_false_iff_not]; omega
              revert hcz hgd
              generalize R[pn] = rq
              intro hgd hcz
              cases rq with
              | false =>
                clear hp0 hpn
                have hex : eachErr R.length R seen (walkL l hs) = 6 := by
                  have h0 := elt6 (n := R.length) (R := R) (seen := sn) (cc := true) (bb := body) (fun hf => Bool.noConfusion hf.1) (.inr (.inr hgd))
                  have h1 := HELT.out (by rw [h0]; decide)
                  rw [h1, h0]
                have HEX := Lib.hid hex
                clear hex
                go_wp2
                go_ret2
                exact ⟨_, by rw [HEX.out]; rfl, fun h => by rw [HEX.out] at h; exact absurd h (by decide), HBA.out⟩
              | true =>
                have hno : ¬ ((pn : Int) < 0 ∨ (R.length : Int) ≤ (pn : Int) ∨ R.getD (pn : Int).toNat false = false) := fun hf => by rw [hgd] at hf; rcases hf with hf | hf | hf <;> first | omega | cases hf
                have hplace := rplace_any _ _ _ _ HISA.out (pn : Int)
                have hidx := idx_mem (l := sn) (u := (pn : Int))
                have HPLC := Lib.hid hplace
                have HNO := Lib.hid hno
                clear hp0 hpn hgd hplace hno
                by_cases hmem : (pn : Int) ∈ sn
                · rw [decide_eq_true hmem] at hidx
                  have hex : eachErr R.length R seen (walkL l hs) = 7 := by
                    have h0 := elt7 (n := R.length) (R := R) (seen := sn) (cc := true) (bb := body) (fun hf => Bool.noConfusion hf.1) HNO.out hmem
                    have h1 := HELT.out (by rw [h0]; decide)
                    rw [h1, h0]
                  have HEX := Lib.hid hex
                  clear hex hmem
                  generalize idxI sn (pn : Int) = ix at *
                  go_wp2_with (go_at_call 47; refine HPLC.out.mono ?_; rintro en w5 ⟨rfl, k5, rfl⟩)
                  go_ret2
                  exact ⟨_, by rw [HEX.out]; rfl, fun h => by rw [HEX.out] at h; exact absurd h (by decide), below_drewN' HBA.out k5⟩
                · rw [decide_eq_false hmem] at hidx
                  have h00 := elt0 (n := R.length) (R := R) (seen := sn) (cc := true) (bb := body) (fun hf => Bool.noConfusion hf.1) HNO.out hmem
                  have H00 := Lib.hid h00
                  clear h00 hmem
                  generalize idxI sn (pn : Int) = ix at *
                  go_upto_region 11 with (go_at_call 47; refine HPLC.out.mono ?_; rintro en w5 ⟨rfl, k5, rfl⟩)
                  have hbkq : Blk (wz.drewN k5).drew g 88 [.int .i64 (pn : Int), .bool true, .slice Au body.length cu] := HBK.out
                  have hisq : Ints (wz.drewN k5).drew.heap.size (wz.drewN k5).drew _ sn := HISA.out
                  have hbq : Below W.heap.size W (wz.drewN k5).drew := (below_drewN' HBA.out k5).drew
                  have hszq : g < (wz.drewN k5).drew.heap.size := hsz
                  have hHeld := And.intro (hbkq.cellAt (i := 0) rfl) (hbkq.cellAt (i := 2) rfl)
                  refine F2.wp_region_front (S := fun w' => w'.cell? ⟨g, 0, none⟩ = some (.int .i64 (pn : Int)) ∧ w'.cell? ⟨g, 2, none⟩ = some (.slice Au body.length cu)) 2 12 (by kernel_rfl) (by kernel_rfl) (by decide) rfl (by kernel_rfl) (by kernel_rfl) (fun _ _ _ h => h) (.inl ⟨by rfl, fun w' => by rfl⟩) ?_
                  simp only [Act.put, List.setIfInBounds_toArray, List.set_cons_zero, List.set_cons_succ]
                  revert hbkq hisq hbq hszq hHeld
                  generalize (wz.drewN k5).drew = wq
                  intro hbkq hisq hbq hszq hHeld
                  have HBKQ := Lib.hid hbkq
                  have HISQ := Lib.hid hisq
                  have HBQ := Lib.hid hbq
                  clear hbkq hisq hbq c0 c1 c2 hsz HISA HBK HBA hcz HPLC
                  refine F2.Front.take 0 (v := ?_) rfl (by decide) (by kernel_rfl) (by kernel_rfl) (fun _ _ _ h => h) rfl hHeld ?_ ?_
                  case refine_2 => intro w' hSw; obtain ⟨q0, q2⟩ := hSw; go_simp <;> with_reducible rfl
                  simp only [Act.put, List.setIfInBounds_toArray, List.set_cons_zero, List.set_cons_succ]
                  refine F2.Front.take 1 (v := ?_) rfl (by decide) (by kernel_rfl) (by kernel_rfl) (fun _ _ _ h => h) rfl hHeld ?_ ?_
                  case refine_2 => intro w' hSw; obtain ⟨q0, q2⟩ := hSw; go_simp <;> with_reducible rfl
                  simp only [Act.put, List.setIfInBounds_toArray, List.set_cons_zero, List.set_cons_succ]
                  refine F2.Front.take 4 (v := ?_) rfl (by decide) (by kernel_rfl) (by kernel_rfl) (fun _ _ _ h => h) rfl hHeld ?_ ?_
                  case refine_2 => intro w' hSw; obtain ⟨q0, q2⟩ := hSw; go_simp <;> with_reducible rfl
                  simp only [Act.put, List.setIfInBounds_toArray, List.set_cons_zero, List.set_cons_succ]
                  refine F2.Front.take 6 (v := ?_) rfl (by decide) (by kernel_rfl) (by kernel_rfl) (fun _ _ _ h => h) rfl hHeld ?_ ?_
                  case refine_2 => intro w' hSw; obtain ⟨q0, q2⟩ := hSw; go_simp <;> with_reducible rfl
                  simp only [Act.put, List.setIfInBounds_toArray, List.set_cons_zero, List.set_cons_succ]
                  refine F2.Front.take 7 (v := ?_) rfl (by decide) (by kernel_rfl) (by kernel_rfl) (fun _ _ _ h => h) rfl hHeld ?_ ?_
                  case refine_2 => intro w' hSw; obtain ⟨q0, q2⟩ := hSw; go_simp <;> with_reducible rfl
                  simp only [Act.put, List.setIfInBounds_toArray, List.set_cons_zero, List.set_cons_succ]
                  have hv0 : ∀ b, (Value.slice (some ⟨wq.heap.size, 0, none⟩) 0 0).ownBlock = some b → wq.heap.size ≤ b := fun b h => by cases h; exact Nat.le_refl _
                  have HV0 := Lib.hid hv0
                  clear hv0
                  refine F2.Front.two (i := 3) (j := 8) (by kernel_rfl) (by decide) (by decide) ?_ ?_
                  · refine F2.FrontStep.of rfl (fun K hK => ?_)
                    go_simp
                    refine hK _ _ ⟨(HBKQ.out.alloc _).cellAt (i := 0) rfl, (HBKQ.out.alloc _).cellAt (i := 2) rfl⟩ ?_
                    clear K hK
                    refine F2.Front.two (i := 5) (j := 8) (by kernel_rfl) (by decide) (by decide) ?_ ?_
                    · refine F2.FrontStep.of rfl (fun K hK => ?_)
                      refine step_append_cat rfl (.tmp 58) (.tmp 59) 51 rfl wq.heap.size 3 ie (.int .i64 0) 1 8 Tryd.underlying51 hi hz0 hz1 hz2 rfl (by decide) (.slice (some ⟨wq.heap.size, 0, none⟩) 0 0) 0 [] rfl (own_empty (Nat.le_refl _)) As sn.length cs (sn.map iV) rfl (by simp) (ints_cat HISQ.out (fun p hp => ((Below.refl wq.heap.size wq).alloc (Nat.le_refl _) _).cell hp)) (iV_one _) (by unfold maxLen; omega) (by omega) (by rw [World.size_alloc]; omega) ?_
                      intro v5 w5 hown5 hgr5 hat5
                      rw [Nat.zero_add, List.nil_append] at hown5
                      have hx5 := blk_past (HBKQ.out.alloc (.cells #[] 3)) hgr5 HV0.out hszq
                      have hbl5 := ((Below.refl wq.heap.size wq).alloc (Nat.le_refl _) (.cells #[] 3)).grown hgr5 (by rw [World.size_alloc]; omega) HV0.out
                      refine hK _ w5 ⟨hx5.cellAt (i := 0) rfl, hx5.cellAt (i := 2) rfl⟩ ?_
                      clear K hK
                      simp only [Act.put, List.setIfInBounds_toArray, List.set_cons_zero, List.set_cons_succ]
                      have HX5 := Lib.hid hx5
                      clear hgr5 hat5 hx5
                      refine F2.Front.one (i := 8) (by kernel_rfl) (by decide) ?_
                      refine F2.FrontStep.of rfl (fun K hK => ?_)
                      go_simp
                      refine hK _ _ ⟨(HX5.out.alloc _).cellAt (i := 0) rfl, (HX5.out.alloc _).cellAt (i := 2) rfl⟩ ?_
                      clear K hK
                      have own6 := hown5.alloc (.cells #[.int .i64 (pn : Int)] 3)
                      have hnb6 := Blk.newAt w5 3 #[.int .i64 (pn : Int)] rfl
                      have hx6 := HX5.out.alloc (.cells #[.int .i64 (pn : Int)] 3)
                      have hbl6 := hbl5.alloc hbl5.size (.cells #[.int .i64 (pn : Int)] 3)
                      clear hown5 hbl5 HX5
                      refine F2.Front.one (i := 9) (by kernel_rfl) (by decide) ?_
                      refine F2.FrontStep.of rfl (fun K hK => ?_)
                      refine step_append_lies _ rfl (.tmp 60) (.tmp 63) 51 rfl wq.heap.size 3 ie (.int .i64 0) 1 8 Tryd.underlying51 hi hz0 hz1 hz2 rfl (by decide) v5 sn.length (sn.map iV) rfl own6 ⟨w5.heap.size, 0, none⟩ 1 1 [.int .i64 (pn : Int)] rfl rfl (fun j u' hj => by rw [add_none]; exact hnb6.cellAt hj) (by intro u hu; simp at hu; subst hu; rfl) (by decide) (by unfold maxLen; omega) (by omega) hbl6.size _ rfl ?_
                      intro g7 c7 w7 hown7 hgr7 hat7 _
                      have hx7 := blk_past hx6 hgr7 (fun b hb => (own6.lt b hb).1) hszq
                      have hbl7 := hbl6.grown hgr7 hbl6.size (fun k hk => (own6.lt k hk).1)
                      refine hK _ w7 ⟨hx7.cellAt (i := 0) rfl, hx7.cellAt (i := 2) rfl⟩ ?_
                      clear K hK
                      simp only [Act.put, List.setIfInBounds_toArray, List.set_cons_zero, List.set_cons_succ]
                      have hown7' : w7.ownsRow wq.heap.size 3 1 (.slice (some ⟨g7, 0, none⟩) (sn.length + 1) c7) (sn ++ [(pn : Int)]).length ((sn ++ [(pn : Int)]).map iV) := by simpa using hown7
                      have hi7 := Ints.ofOwn hown7'
                      have hbw7 := HBQ.out.trans (hbl7.mono HBQ.out.size)
                      have hcall := HI.out w7 hh (sn ++ [(pn : Int)]) (.slice (some ar) R.length cr) _ (fun q hq => (hbw7.cell (HPW.out _ hq)).trans (HW.out q hq)) (fun b hb => by have := HPW.out b hb; have := hbw7.size; omega) ((Bools.below HVR.out hbw7).more hbw7.size) hi7 (by rw [List.length_append]; simp; omega)
                      have HCALL := Lib.hid hcall
                      have HX7 := Lib.hid hx7
                      have HBW7 := Lib.hid hbw7
                      have hs7 : g < w7.heap.size := by have := hbl7.size; omega
                      clear hgr7 hat7 hown7 hown7' hi7 own6 hnb6 hx6 hbl6 hx7 hbl7 hbw7 hcall
                      unfold EachPost at HCALL
                      by_cases he : eachErr R.length R (sn ++ [(pn : Int)]) (walkL body hh) = 0
                      · have hc0 : Calls Tryd.prog 46 #[.slice Au body.length cu, .slice (some ar) R.length cr, .slice (some ⟨g7, 0, none⟩) (sn.length + 1) c7] w7 fun en W' => ∃ vo, en = .returned (.tuple #[vo, .int .i64 0]) ∧ Ints W'.heap.size W' vo (sn ++ [(pn : Int)] ++ ptsL body) ∧ Below w7.heap.size w7 W' := HCALL.out.mono fun en W' ⟨vo, h1, h2, h3⟩ => ⟨vo, by rw [h1, he], h2 he, h3⟩
                        obtain ⟨hn1, hn2⟩ := HNXT.out H00.out he
                        rw [hn2] at hc0
                        have HC0 := Lib.hid hc0
                        have HN1 := Lib.hid hn1
                        clear hc0 hn1 hn2 he HCALL
                        refine F2.Front.one (i := 10) (by kernel_rfl) (by decide) ?_
                        refine F2.FrontStep.of rfl (fun K hK => ?_)
                        go_simp
                        refine HC0.out.mono ?_
                        rintro en w8 ⟨v8, rfl, hv8, hb8⟩
                        have hx8 := HX7.out.same (hb8.block _ hs7)
                        have hHeld8 := And.intro (hx8.cellAt (i := 0) rfl) (hx8.cellAt (i := 2) rfl)
                        refine hK _ w8 hHeld8 ?_
                        clear K hK
                        have hb8' := HBW7.out.trans (hb8.mono HBW7.out.size)
                        refine F2.Front.take 11 (v := ?_) rfl (by decide) (by kernel_rfl) (by kernel_rfl) (fun _ _ _ h => h) rfl hHeld8 ?_ ?_
                        case refine_2 => intro w' hSw; obtain ⟨q0, q2⟩ := hSw; go_simp <;> with_reducible rfl
                        simp only [Act.put, List.setIfInBounds_toArray, List.set_cons_zero, List.set_cons_succ]
                        refine F2.Front.done (by kernel_rfl) ?_
                        refine wpAny_take (i := 12) (v := v8) rfl (by kernel_rfl) (by kernel_rfl) (by kernel_rfl) (fun _ _ _ h => h) (.inl ⟨by rfl, fun w' => by rfl⟩) ?_
                        refine wpAny_take (i := 13) (v := .int .i64 0) rfl (by kernel_rfl) (by kernel_rfl) (by kernel_rfl) (fun _ _ _ h => h) (.inl ⟨by rfl, fun w' => by rfl⟩) ?_
                        simp only [Act.put, List.setIfInBounds_toArray]
                        refine F2.any_one (i := 14) (by kernel_rfl) rfl ?_
                        intro K hK
                        go_simp
                        refine hK _ _ ?_
                        clear K hK
                        refine F2.any_one (i := 15) (by kernel_rfl) rfl ?_
                        intro K hK
                        go_simp
                        refine hK _ _ ⟨by kernel_rfl, ?_⟩
                        clear K hK hHeld8 hx8 hHeld
                        go_wp2
                        go_roundw
                        case rel => exact ⟨m + 1, _, by omega, rfl, by go_num, HN1, hv8, hb8'⟩
                        case measure => simp [intOf]; omega
                      · have hex : eachErr R.length R seen (walkL l hs) = eachErr R.length R (sn ++ [(pn : Int)]) (walkL body hh) := HBOD.out H00.out he
                        have HEX := Lib.hid hex
                        have hc0 : Calls Tryd.prog 46 #[.slice Au body.length cu, .slice (some ar) R.length cr, .slice (some ⟨g7, 0, none⟩) (sn.length + 1) c7] w7 fun en W' => ∃ vo, en = .returned (.tuple #[vo, .int .i64 (eachErr R.length R (sn ++ [(pn : Int)]) (walkL body hh))]) ∧ Below w7.heap.size w7 W' := HCALL.out.mono fun en W' ⟨vo, h1, h2, h3⟩ => ⟨vo, h1, h3⟩
                        clear HCALL hex
                        revert hc0 HEX he
                        generalize eachErr R.length R (sn ++ [(pn : Int)]) (walkL body hh) = er
                        intro he HEX hc0
                        have HC0 := Lib.hid hc0
                        have hne : (er == 0) = false := by simpa using he
                        have HNE := Lib.hid he
                        clear hc0
                        refine F2.Front.one (i := 10) (by kernel_rfl) (by decide) ?_
                        refine F2.FrontStep.of rfl (fun K hK => ?_)
                        go_simp
                        refine HC0.out.mono ?_
                        rintro en w8 ⟨v8, rfl, hb8⟩
                        have hx8 := HX7.out.same (hb8.block _ hs7)
                        have hHeld8 := And.intro (hx8.cellAt (i := 0) rfl) (hx8.cellAt (i := 2) rfl)
                        refine hK _ w8 hHeld8 ?_
                        clear K hK
                        have hb8' := HBW7.out.trans (hb8.mono HBW7.out.size)
                        refine F2.Front.take 11 (v := ?_) rfl (by decide) (by kernel_rfl) (by kernel_rfl) (fun _ _ _ h => h) rfl hHeld8 ?_ ?_
                        case refine_2 => intro w' hSw; obtain ⟨q0, q2⟩ := hSw; go_simp <;> with_reducible rfl
                        simp only [Act.put, List.setIfInBounds_toArray, List.set_cons_zero, List.set_cons_succ]
                        refine F2.Front.done (by kernel_rfl) ?_
                        refine wpAny_take (i := 12) (v := v8) rfl (by kernel_rfl) (by kernel_rfl) (by kernel_rfl) (fun _ _ _ h => h) (.inl ⟨by rfl, fun w' => by rfl⟩) ?_
                        refine wpAny_take (i := 13) (v := .int .i64 er) rfl (by kernel_rfl) (by kernel_rfl) (by kernel_rfl) (fun _ _ _ h => h) (.inl ⟨by rfl, fun w' => by rfl⟩) ?_
                        simp only [Act.put, List.setIfInBounds_toArray]
                        refine F2.any_one (i := 14) (by kernel_rfl) rfl ?_
                        intro K hK
                        go_simp
                        refine hK _ _ ?_
                        clear K hK
                        refine F2.any_one (i := 15) (by kernel_rfl) rfl ?_
                        intro K hK
                        go_simp
                        refine hK _ _ ⟨by kernel_rfl, ?_⟩
                        clear K hK hHeld8 hx8 hHeld
                        go_wp2
                        go_ret2
                        exact ⟨_, by rw [HEX.out]; rfl, fun h => absurd (HEX.out.symm.trans h) HNE.out, hb8'⟩
                    · refine F2.FrontStep.of rfl (fun K hK => ?_)
                      go_simp
                      refine hK _ _ ⟨((HBKQ.out.alloc _).alloc _).cellAt (i := 0) rfl, ((HBKQ.out.alloc _).alloc _).cellAt (i := 2) rfl⟩ ?_
                      clear K hK
                      have hnb5 := Blk.newAt (N := wq.heap.size + 1) (wq.alloc (.cells #[] 3)) 3 #[.int .i64 (pn : Int)] (World.size_alloc _ _)
                      refine F2.Front.one (i := 5) (by kernel_rfl) (by decide) ?_
                      refine F2.FrontStep.of rfl (fun K hK => ?_)
                      refine step_append_cat rfl (.tmp 58) (.tmp 59) 51 rfl wq.heap.size 3 ie (.int .i64 0) 1 8 Tryd.underlying51 hi hz0 hz1 hz2 rfl (by decide) (.slice (some ⟨wq.heap.size, 0, none⟩) 0 0) 0 [] rfl ((own_empty (Nat.le_refl _)).alloc _) As sn.length cs (sn.map iV) rfl (by simp) (ints_cat HISQ.out (fun p hp => (((Below.refl wq.heap.size wq).alloc (Nat.le_refl _) _).alloc (by rw [World.size_alloc]; omega) _).cell hp)) (iV_one _) (by unfold maxLen; omega) (by omega) (by rw [World.size_alloc, World.size_alloc]; omega) ?_
                      intro v5 w5 hown5 hgr5 hat5
                      rw [Nat.zero_add, List.nil_append] at hown5
                      have hx6 := blk_past ((HBKQ.out.alloc (.cells #[] 3)).alloc (.cells #[.int .i64 (pn : Int)] 3)) hgr5 HV0.out hszq
                      have hnb6 := hnb5.same (hgr5.block _ (by simp) (fun e => by simp [Value.ownBlock] at e))
                      have hbl6 := (((Below.refl wq.heap.size wq).alloc (Nat.le_refl _) (.cells #[] 3)).alloc (by rw [World.size_alloc]; omega) (.cells #[.int .i64 (pn : Int)] 3)).grown hgr5 (by rw [World.size_alloc, World.size_alloc]; omega) HV0.out
                      refine hK _ w5 ⟨hx6.cellAt (i := 0) rfl, hx6.cellAt (i := 2) rfl⟩ ?_
                      clear K hK
                      simp only [Act.put, List.setIfInBounds_toArray, List.set_cons_zero, List.set_cons_succ]
                      have own6 := hown5
                      clear hgr5 hat5 hnb5 hown5
                      refine F2.Front.one (i := 9) (by kernel_rfl) (by decide) ?_
                      refine F2.FrontStep.of rfl (fun K hK => ?_)
                      refine step_append_lies _ rfl (.tmp 60) (.tmp 63) 51 rfl wq.heap.size 3 ie (.int .i64 0) 1 8 Tryd.underlying51 hi hz0 hz1 hz2 rfl (by decide) v5 sn.length (sn.map iV) rfl own6 ⟨(wq.heap.size + 1), 0, none⟩ 1 1 [.int .i64 (pn : Int)] rfl rfl (fun j u' hj => by rw [add_none]; exact hnb6.cellAt hj) (by intro u hu; simp at hu; subst hu; rfl) (by decide) (by unfold maxLen; omega) (by omega) hbl6.size _ rfl ?_
                      intro g7 c7 w7 hown7 hgr7 hat7 _
                      have hx7 := blk_past hx6 hgr7 (fun b hb => (own6.lt b hb).1) hszq
                      have hbl7 := hbl6.grown hgr7 hbl6.size (fun k hk => (own6.lt k hk).1)
                      refine hK _ w7 ⟨hx7.cellAt (i := 0) rfl, hx7.cellAt (i := 2) rfl⟩ ?_
                      clear K hK
                      simp only [Act.put, List.setIfInBounds_toArray, List.set_cons_zero, List.set_cons_succ]
                      have hown7' : w7.ownsRow wq.heap.size 3 1 (.slice (some ⟨g7, 0, none⟩) (sn.length + 1) c7) (sn ++ [(pn : Int)]).length ((sn ++ [(pn : Int)]).map iV) := by simpa using hown7
                      have hi7 := Ints.ofOwn hown7'
                      have hbw7 := HBQ.out.trans (hbl7.mono HBQ.out.size)
                      have hcall := HI.out w7 hh (sn ++ [(pn : Int)]) (.slice (some ar) R.length cr) _ (fun q hq => (hbw7.cell (HPW.out _ hq)).trans (HW.out q hq)) (fun b hb => by have := HPW.out b hb; have := hbw7.size; omega) ((Bools.below HVR.out hbw7).more hbw7.size) hi7 (by rw [List.length_append]; simp; omega)
                      have HCALL := Lib.hid hcall
                      have HX7 := Lib.hid hx7
                      have HBW7 := Lib.hid hbw7
                      have hs7 : g < w7.heap.size := by have := hbl7.size; omega
                      clear hgr7 hat7 hown7 hown7' hi7 own6 hnb6 hx6 hbl6 hx7 hbl7 hbw7 hcall
                      unfold EachPost at HCALL
                      by_cases he : eachErr R.length R (sn ++ [(pn : Int)]) (walkL body hh) = 0
                      · have hc0 : Calls Tryd.prog 46 #[.slice Au body.length cu, .slice (some ar) R.length cr, .slice (some ⟨g7, 0, none⟩) (sn.length + 1) c7] w7 fun en W' => ∃ vo, en = .returned (.tuple #[vo, .int .i64 0]) ∧ Ints W'.heap.size W' vo (sn ++ [(pn : Int)] ++ ptsL body) ∧ Below w7.heap.size w7 W' := HCALL.out.mono fun en W' ⟨vo, h1, h2, h3⟩ => ⟨vo, by rw [h1, he], h2 he, h3⟩
                        obtain ⟨hn1, hn2⟩ := HNXT.out H00.out he
                        rw [hn2] at hc0
                        have HC0 := Lib.hid hc0
                        have HN1 := Lib.hid hn1
                        clear hc0 hn1 hn2 he HCALL
                        refine F2.Front.one (i := 10) (by kernel_rfl) (by decide) ?_
                        refine F2.FrontStep.of rfl (fun K hK => ?_)
                        go_simp
                        refine HC0.out.mono ?_
                        rintro en w8 ⟨v8, rfl, hv8, hb8⟩
                        have hx8 := HX7.out.same (hb8.block _ hs7)
                        have hHeld8 := And.intro (hx8.cellAt (i := 0) rfl) (hx8.cellAt (i := 2) rfl)
                        refine hK _ w8 hHeld8 ?_
                        clear K hK
                        have hb8' := HBW7.out.trans (hb8.mono HBW7.out.size)
                        refine F2.Front.take 11 (v := ?_) rfl (by decide) (by kernel_rfl) (by kernel_rfl) (fun _ _ _ h => h) rfl hHeld8 ?_ ?_
                        case refine_2 => intro w' hSw; obtain ⟨q0, q2⟩ := hSw; go_simp <;> with_reducible rfl
                        simp only [Act.put, List.setIfInBounds_toArray, List.set_cons_zero, List.set_cons_succ]
                        refine F2.Front.done (by kernel_rfl) ?_
                        refine wpAny_take (i := 12) (v := v8) rfl (by kernel_rfl) (by kernel_rfl) (by kernel_rfl) (fun _ _ _ h => h) (.inl ⟨by rfl, fun w' => by rfl⟩) ?_
                        refine wpAny_take (i := 13) (v := .int .i64 0) rfl (by kernel_rfl) (by kernel_rfl) (by kernel_rfl) (fun _ _ _ h => h) (.inl ⟨by rfl, fun w' => by rfl⟩) ?_
                        simp only [Act.put, List.setIfInBounds_toArray]
                        refine F2.any_one (i := 14) (by kernel_rfl) rfl ?_
                        intro K hK
                        go_simp
                        refine hK _ _ ?_
                        clear K hK
                        refine F2.any_one (i := 15) (by kernel_rfl) rfl ?_
                        intro K hK
                        go_simp
                        refine hK _ _ ⟨by kernel_rfl, ?_⟩
                        clear K hK hHeld8 hx8 hHeld
                        go_wp2
                        go_roundw
                        case rel => exact ⟨m + 1, _, by omega, rfl, by go_num, HN1, hv8, hb8'⟩
                        case measure => simp [intOf]; omega
                      · have hex : eachErr R.length R seen (walkL l hs) = eachErr R.length R (sn ++ [(pn : Int)]) (walkL body hh) := HBOD.out H00.out he
                        have HEX := Lib.hid hex
                        have hc0 : Calls Tryd.prog 46 #[.slice Au body.length cu, .slice (some ar) R.length cr, .slice (some ⟨g7, 0, none⟩) (sn.length + 1) c7] w7 fun en W' => ∃ vo, en = .returned (.tuple #[vo, .int .i64 (eachErr R.length R (sn ++ [(pn : Int)]) (walkL body hh))]) ∧ Below w7.heap.size w7 W' := HCALL.out.mono fun en W' ⟨vo, h1, h2, h3⟩ => ⟨vo, h1, h3⟩
                        clear HCALL hex
                        revert hc0 HEX he
                        generalize eachErr R.length R (sn ++ [(pn : Int)]) (walkL body hh) = er
                        intro he HEX hc0
                        have HC0 := Lib.hid hc0
                        have hne : (er == 0) = false := by simpa using he
                        have HNE := Lib.hid he
                        clear hc0
                        refine F2.Front.one (i := 10) (by kernel_rfl) (by decide) ?_
                        refine F2.FrontStep.of rfl (fun K hK => ?_)
                        go_simp
                        refine HC0.out.mono ?_
                        rintro en w8 ⟨v8, rfl, hb8⟩
                        have hx8 := HX7.out.same (hb8.block _ hs7)
                        have hHeld8 := And.intro (hx8.cellAt (i := 0) rfl) (hx8.cellAt (i := 2) rfl)
                        refine hK _ w8 hHeld8 ?_
                        clear K hK
                        have hb8' := HBW7.out.trans (hb8.mono HBW7.out.size)
                        refine F2.Front.take 11 (v := ?_) rfl (by decide) (by kernel_rfl) (by kernel_rfl) (fun _ _ _ h => h) rfl hHeld8 ?_ ?_
                        case refine_2 => intro w' hSw; obtain ⟨q0, q2⟩ := hSw; go_simp <;> with_reducible rfl
                        simp only [Act.put, List.setIfInBounds_toArray, List.set_cons_zero, List.set_cons_succ]
                        refine F2.Front.done (by kernel_rfl) ?_
                        refine wpAny_take (i := 12) (v := v8) rfl (by kernel_rfl) (by kernel_rfl) (by kernel_rfl) (fun _ _ _ h => h) (.inl ⟨by rfl, fun w' => by rfl⟩) ?_
                        refine wpAny_take (i := 13) (v := .int .i64 er) rfl (by kernel_rfl) (by kernel_rfl) (by kernel_rfl) (fun _ _ _ h => h) (.inl ⟨by rfl, fun w' => by rfl⟩) ?_
                        simp only [Act.put, List.setIfInBounds_toArray]
                        refine F2.any_one (i := 14) (by kernel_rfl) rfl ?_
                        intro K hK
                        go_simp
                        refine hK _ _ ?_
                        clear K hK
                        refine F2.any_one (i := 15) (by kernel_rfl) rfl ?_
                        intro K hK
                        go_simp
                        refine hK _ _ ⟨by kernel_rfl, ?_⟩
                        clear K hK hHeld8 hx8 hHeld
                        go_wp2
                        go_ret2
                        exact ⟨_, by rw [HEX.out]; rfl, fun h => absurd (HEX.out.symm.trans h) HNE.out, hb8'⟩
                  · refine F2.FrontStep.of rfl (fun K hK => ?_)
                    go_simp
                    refine hK _ _ ⟨(HBKQ.out.alloc _).cellAt (i := 0) rfl, (HBKQ.out.alloc _).cellAt (i := 2) rfl⟩ ?_
                    clear K hK
                    have hnb4 := Blk.newAt wq 3 #[.int .i64 (pn : Int)] rfl
                    refine F2.Front.one (i := 3) (by kernel_rfl) (by decide) ?_
                    refine F2.FrontStep.of rfl (fun K hK => ?_)
                    go_simp
                    refine hK _ _ ⟨((HBKQ.out.alloc _).alloc _).cellAt (i := 0) rfl, ((HBKQ.out.alloc _).alloc _).cellAt (i := 2) rfl⟩ ?_
                    clear K hK
                    have hnb5 := hnb4.alloc (.cells #[] 3)
                    have hvv : ∀ b, (Value.slice (some ⟨(wq.alloc (.cells #[.int .i64 (pn : Int)] 3)).heap.size, 0, none⟩) 0 0).ownBlock = some b → wq.heap.size ≤ b := fun b h => by cases h; show wq.heap.size ≤ (wq.alloc _).heap.size; rw [World.size_alloc]; omega
                    refine F2.Front.one (i := 5) (by kernel_rfl) (by decide) ?_
                    refine F2.FrontStep.of rfl (fun K hK => ?_)
                    refine step_append_cat rfl (.tmp 58) (.tmp 59) 51 rfl wq.heap.size 3 ie (.int .i64 0) 1 8 Tryd.underlying51 hi hz0 hz1 hz2 rfl (by decide) (.slice (some ⟨(wq.alloc (.cells #[.int .i64 (pn : Int)] 3)).heap.size, 0, none⟩) 0 0) 0 [] (by simp [Act.eval]) (own_empty (by rw [World.size_alloc]; omega)) As sn.length cs (sn.map iV) rfl (by simp) (ints_cat HISQ.out (fun p hp => (((Below.refl wq.heap.size wq).alloc (Nat.le_refl _) _).alloc (by rw [World.size_alloc]; omega) _).cell hp)) (iV_one _) (by unfold maxLen; omega) (by omega) (by rw [World.size_alloc, World.size_alloc]; omega) ?_
                    intro v5 w5 hown5 hgr5 hat5
                    rw [Nat.zero_add, List.nil_append] at hown5
                    have hx6 := blk_past ((HBKQ.out.alloc (.cells #[.int .i64 (pn : Int)] 3)).alloc (.cells #[] 3)) hgr5 hvv hszq
                    have hnb6 := hnb5.same (hgr5.block _ (by simp; omega) (fun e => by simp [Value.ownBlock] at e))
                    have hbl6 := (((Below.refl wq.heap.size wq).alloc (Nat.le_refl _) (.cells #[.int .i64 (pn : Int)] 3)).alloc (by rw [World.size_alloc]; omega) (.cells #[] 3)).grown hgr5 (by rw [World.size_alloc, World.size_alloc]; omega) hvv
                    refine hK _ w5 ⟨hx6.cellAt (i := 0) rfl, hx6.cellAt (i := 2) rfl⟩ ?_
                    clear K hK
                    simp only [Act.put, List.setIfInBounds_toArray, List.set_cons_zero, List.set_cons_succ]
                    have own6 := hown5
                    clear hgr5 hat5 hnb4 hnb5 hown5 hvv
                    refine F2.Front.one (i := 9) (by kernel_rfl) (by decide) ?_
                    refine F2.FrontStep.of rfl (fun K hK => ?_)
                    refine step_append_lies _ rfl (.tmp 60) (.tmp 63) 51 rfl wq.heap.size 3 ie (.int .i64 0) 1 8 Tryd.underlying51 hi hz0 hz1 hz2 rfl (by decide) v5 sn.length (sn.map iV) rfl own6 ⟨wq.heap.size, 0, none⟩ 1 1 [.int .i64 (pn : Int)] rfl rfl (fun j u' hj => by rw [add_none]; exact hnb6.cellAt hj) (by intro u hu; simp at hu; subst hu; rfl) (by decide) (by unfold maxLen; omega) (by omega) hbl6.size _ rfl ?_
                    intro g7 c7 w7 hown7 hgr7 hat7 _
                    have hx7 := blk_past hx6 hgr7 (fun b hb => (own6.lt b hb).1) hszq
                    have hbl7 := hbl6.grown hgr7 hbl6.size (fun k hk => (own6.lt k hk).1)
                    refine hK _ w7 ⟨hx7.cellAt (i := 0) rfl, hx7.cellAt (i := 2) rfl⟩ ?_
                    clear K hK
                    simp only [Act.put, List.setIfInBounds_toArray, List.set_cons_zero, List.set_cons_succ]
                    have hown7' : w7.ownsRow wq.heap.size 3 1 (.slice (some ⟨g7, 0, none⟩) (sn.length + 1) c7) (sn ++ [(pn : Int)]).length ((sn ++ [(pn : Int)]).map iV) := by simpa using hown7
                    have hi7 := Ints.ofOwn hown7'
                    have hbw7 := HBQ.out.trans (hbl7.mono HBQ.out.size)
                    have hcall := HI.out w7 hh (sn ++ [(pn : Int)]) (.slice (some ar) R.length cr) _ (fun q hq => (hbw7.cell (HPW.out _ hq)).trans (HW.out q hq)) (fun b hb => by have := HPW.out b hb; have := hbw7.size; omega) ((Bools.below HVR.out hbw7).more hbw7.size) hi7 (by rw [List.length_append]; simp; omega)
                    have HCALL := Lib.hid hcall
                    have HX7 := Lib.hid hx7
                    have HBW7 := Lib.hid hbw7
                    have hs7 : g < w7.heap.size := by have := hbl7.size; omega
                    clear hgr7 hat7 hown7 hown7' hi7 own6 hnb6 hx6 hbl6 hx7 hbl7 hbw7 hcall
                    unfold EachPost at HCALL
                    by_cases he : eachErr R.length R (sn ++ [(pn : Int)]) (walkL body hh) = 0
                    · have hc0 : Calls Tryd.prog 46 #[.slice Au body.length cu, .slice (some ar) R.length cr, .slice (some ⟨g7, 0, none⟩) (sn.length + 1) c7] w7 fun en W' => ∃ vo, en = .returned (.tuple #[vo, .int .i64 0]) ∧ Ints W'.heap.size W' vo (sn ++ [(pn : Int)] ++ ptsL body) ∧ Below w7.heap.size w7 W' := HCALL.out.mono fun en W' ⟨vo, h1, h2, h3⟩ => ⟨vo, by rw [h1, he], h2 he, h3⟩
                      obtain ⟨hn1, hn2⟩ := HNXT.out H00.out he
                      rw [hn2] at hc0
                      have HC0 := Lib.hid hc0
                      have HN1 := Lib.hid hn1
                      clear hc0 hn1 hn2 he HCALL
                      refine F2.Front.one (i := 10) (by kernel_rfl) (by decide) ?_
                      refine F2.FrontStep.of rfl (fun K hK => ?_)
                      go_simp
                      refine HC0.out.mono ?_
                      rintro en w8 ⟨v8, rfl, hv8, hb8⟩
                      have hx8 := HX7.out.same (hb8.block _ hs7)
                      have hHeld8 := And.intro (hx8.cellAt (i := 0) rfl) (hx8.cellAt (i := 2) rfl)
                      refine hK _ w8 hHeld8 ?_
                      clear K hK
                      have hb8' := HBW7.out.trans (hb8.mono HBW7.out.size)
                      refine F2.Front.take 11 (v := ?_) rfl (by decide) (by kernel_rfl) (by kernel_rfl) (fun _ _ _ h => h) rfl hHeld8 ?_ ?_
                      case refine_2 => intro w' hSw; obtain ⟨q0, q2⟩ := hSw; go_simp <;> with_reducible rfl
                      simp only [Act.put, List.setIfInBounds_toArray, List.set_cons_zero, List.set_cons_succ]
                      refine F2.Front.done (by kernel_rfl) ?_
                      refine wpAny_take (i := 12) (v := v8) rfl (by kernel_rfl) (by kernel_rfl) (by kernel_rfl) (fun _ _ _ h => h) (.inl ⟨by rfl, fun w' => by rfl⟩) ?_
                      refine wpAny_take (i := 13) (v := .int .i64 0) rfl (by kernel_rfl) (by kernel_rfl) (by kernel_rfl) (fun _ _ _ h => h) (.inl ⟨by rfl, fun w' => by rfl⟩) ?_
                      simp only [Act.put, List.setIfInBounds_toArray]
                      refine F2.any_one (i := 14) (by kernel_rfl) rfl ?_
                      intro K hK
                      go_simp
                      refine hK _ _ ?_
                      clear K hK
                      refine F2.any_one (i := 15) (by kernel_rfl) rfl ?_
                      intro K hK
                      go_simp
                      refine hK _ _ ⟨by kernel_rfl, ?_⟩
                      clear K hK hHeld8 hx8 hHeld
                      go_wp2
                      go_roundw
                      case rel => exact ⟨m + 1, _, by omega, rfl, by go_num, HN1, hv8, hb8'⟩
                      case measure => simp [intOf]; omega
                    · have hex : eachErr R.length R seen (walkL l hs) = eachErr R.length R (sn ++ [(pn : Int)]) (walkL body hh) := HBOD.out H00.out he
                      have HEX := Lib.hid hex
                      have hc0 : Calls Tryd.prog 46 #[.slice Au body.length cu, .slice (some ar) R.length cr, .slice (some ⟨g7, 0, none⟩) (sn.length + 1) c7] w7 fun en W' => ∃ vo, en = .returned (.tuple #[vo, .int .i64 (eachErr R.length R (sn ++ [(pn : Int)]) (walkL body hh))]) ∧ Below w7.heap.size w7 W' := HCALL.out.mono fun en W' ⟨vo, h1, h2, h3⟩ => ⟨vo, h1, h3⟩
                      clear HCALL hex
                      revert hc0 HEX he
                      generalize eachErr R.length R (sn ++ [(pn : Int)]) (walkL body hh) = er
                      intro he HEX hc0
                      have HC0 := Lib.hid hc0
                      have hne : (er == 0) = false := by simpa using he
                      have HNE := Lib.hid he
                      clear hc0
                      refine F2.Front.one (i := 10) (by kernel_rfl) (by decide) ?_
                      refine F2.FrontStep.of rfl (fun K hK => ?_)
                      go_simp
                      refine HC0.out.mono ?_
                      rintro en w8 ⟨v8, rfl, hb8⟩
                      have hx8 := HX7.out.same (hb8.block _ hs7)
                      have hHeld8 := And.intro (hx8.cellAt (i := 0) rfl) (hx8.cellAt (i := 2) rfl)
                      refine hK _ w8 hHeld8 ?_
                      clear K hK
                      have hb8' := HBW7.out.trans (hb8.mono HBW7.out.size)
                      refine F2.Front.take 11 (v := ?_) rfl (by decide) (by kernel_rfl) (by kernel_rfl) (fun _ _ _ h => h) rfl hHeld8 ?_ ?_
                      case refine_2 => intro w' hSw; obtain ⟨q0, q2⟩ := hSw; go_simp <;> with_reducible rfl
                      simp only [Act.put, List.setIfInBounds_toArray, List.set_cons_zero, List.set_cons_succ]
                      refine F2.Front.done (by kernel_rfl) ?_
                      refine wpAny_take (i := 12) (v := v8) rfl (by kernel_rfl) (by kernel_rfl) (by kernel_rfl) (fun _ _ _ h => h) (.inl ⟨by rfl, fun w' => by rfl⟩) ?_
                      refine wpAny_take (i := 13) (v := .int .i64 er) rfl (by kernel_rfl) (by kernel_rfl) (by kernel_rfl) (fun _ _ _ h => h) (.inl ⟨by rfl, fun w' => by rfl⟩) ?_
                      simp only [Act.put, List.setIfInBounds_toArray]
                      refine F2.any_one (i := 14) (by kernel_rfl) rfl ?_
                      intro K hK
                      go_simp
                      refine hK _ _ ?_
                      clear K hK
                      refine F2.any_one (i := 15) (by kernel_rfl) rfl ?_
                      intro K hK
                      go_simp
                      refine hK _ _ ⟨by kernel_rfl, ?_⟩
                      clear K hK hHeld8 hx8 hHeld
                      go_wp2
                      go_ret2
                      exact ⟨_, by rw [HEX.out]; rfl, fun h => absurd (HEX.out.symm.trans h) HNE.out, hb8'⟩
        | false =>
          by_cases hbz : body.length = 0
          · have hb0 : decide ((0 : Int) < (body.length : Int)) = false := by rw [decide_eq_false_iff_not]; omega
            have hb1 : decide (0 < body.length) = false := by rw [decide_eq_false_iff_not]; omega
            have hbn : body = [] := List.eq_nil_of_length_eq_zero hbz
            have HBN := Lib.hid hbn
            clear hbn hbz
            by_cases hp0 : p < 0
            · have hpd : decide (p < 0) = true := decide_eq_true hp0
              have hex : eachErr R.length R seen (walkL l hs) = 6 := by
                have h0 := elt6 (n := R.length) (R := R) (seen := sn) (cc := false) (bb := body) (fun hf => hf.2 HBN.out) (.inl hp0)
                have h1 := HELT.out (by rw [h0]; decide)
                rw [h1, h0]
              have HEX := Lib.hid hex
              clear hex
              go_wp2
              go_ret2
              exact ⟨_, by rw [HEX.out]; rfl, fun h => by rw [HEX.out] at h; exact absurd h (by decide), HBA.out⟩
            · have hpd : decide (p < 0) = false := decide_eq_false hp0
              by_cases hpn : (R.length : Int) ≤ p
              · have hpe : decide ((R.length : Int) ≤ p) = true := decide_eq_true hpn
                have hex : eachErr R.length R seen (walkL l hs) = 6 := by
                  have h0 := elt6 (n := R.length) (R := R) (seen := sn) (cc := false) (bb := body) (fun hf => hf.2 HBN.out) (.inr (.inl hpn))
                  have h1 := HELT.out (by rw [h0]; decide)
                  rw [h1, h0]
                have HEX := Lib.hid hex
                clear hex
                go_wp2
                go_ret2
                exact ⟨_, by rw [HEX.out]; rfl, fun h => by rw [HEX.out] at h; exact absurd h (by decide), HBA.out⟩
              · have hpe : decide ((R.length : Int) ≤ p) = false := decide_eq_false hpn
                obtain ⟨pn, rfl⟩ : ∃ pn : Nat, p = (pn : Int) := ⟨p.toNat, by omega⟩
                have hpl : pn < R.length := by omega
                have hpl1 : (pn : Int) < (R.length : Int) := by omega
                obtain ⟨ar, u, rfl, hbr, hcr, hur⟩ := HRA.out pn _ (List.getElem?_eq_getElem hpl)
                obtain rfl : u = .bool R[pn] := hur
                have hgd : R.getD (pn : Int).toNat false = R[pn] := by rw [Int.toNat_natCast, List.getD_eq_getElem?_getD, List.getElem?_eq_getElem hpl]; rfl
                have hcz : wz.cell? (ar.add pn) = some (.bool R[pn]) := (HBA.out.cell (by rw [block_add]; exact hbr)).trans hcr
                clear hcr hbr hpd hpe
                have hpd : decide ((pn : Int) < 0) = false := by rw [decide_eq_false_iff_not]; omega
                have hpe : decide ((R.length : Int) ≤ (pn : Int)) = false := by rw [decide_eq_false_iff_not]; omega
                have hpe2 : decide (R.length ≤ pn) = false := by rw [decide_eq_false_iff_not]; omega
                revert hcz hgd
                generalize R[pn] = rq
                intro hgd hcz
                cases rq with
                | false =>
                  clear hp0 hpn
                  have hex : eachErr R.length R seen (walkL l hs) = 6 := by
                    have h0 := elt6 (n := R.length) (R := R) (seen := sn) (cc := false) (bb := body) (fun hf => hf.2 HBN.out) (.inr (.inr hgd))
                    have h1 := HELT.out (by rw [h0]; decide)
                    rw [h1, h0]
                  have HEX := Lib.hid hex
                  clear hex
                  go_wp2
                  go_ret2
                  exact ⟨_, by rw [HEX.out]; rfl, fun h => by rw [HEX.out] at h; exact absurd h (by decide), HBA.out⟩
                | true =>
                  have hno : ¬ ((pn : Int) < 0 ∨ (R.length : Int) ≤ (pn : Int) ∨ R.getD (pn : Int).toNat false = false) := fun hf => by rw [hgd] at hf; rcases hf with hf | hf | hf <;> first | omega | cases hf
                  have hplace := rplace_any _ _ _ _ HISA.out (pn : Int)
                  have hidx := idx_mem (l := sn) (u := (pn : Int))
                  have HPLC := Lib.hid hplace
                  have HNO := Lib.hid hno
                  clear hp0 hpn hgd hplace hno
                  by_cases hmem : (pn : Int) ∈ sn
                  · rw [decide_eq_true hmem] at hidx
                    have hex : eachErr R.length R seen (walkL l hs) = 7 := by
                      have h0 := elt7 (n := R.length) (R := R) (seen := sn) (cc := false) (bb := body) (fun hf => hf.2 HBN.out) HNO.out hmem
                      have h1 := HELT.out (by rw [h0]; decide)
                      rw [h1, h0]
                    have HEX := Lib.hid hex
                    clear hex hmem
                    generalize idxI sn (pn : Int) = ix at *
                    go_wp2_with (go_at_call 47; refine HPLC.out.mono ?_; rintro en w5 ⟨rfl, k5, rfl⟩)
                    go_ret2
                    exact ⟨_, by rw [HEX.out]; rfl, fun h => by rw [HEX.out] at h; exact absurd h (by decide), below_drewN' HBA.out k5⟩
                  · rw [decide_eq_false hmem] at hidx
                    have h00 := elt0 (n := R.length) (R := R) (seen := sn) (cc := false) (bb := body) (fun hf => hf.2 HBN.out) HNO.out hmem
                    have H00 := Lib.hid h00
                    clear h00 hmem
                    generalize idxI sn (pn : Int) = ix at *
                    go_upto_region 11 with (go_at_call 47; refine HPLC.out.mono ?_; rintro en w5 ⟨rfl, k5, rfl⟩)
                    have hbkq : Blk (wz.drewN k5).drew g 88 [.int .i64 (pn : Int), .bool false, .slice Au body.length cu] := HBK.out
                    have hisq : Ints (wz.drewN k5).drew.heap.size (wz.drewN k5).drew _ sn := HISA.out
                    have hbq : Below W.heap.size W (wz.drewN k5).drew := (below_drewN' HBA.out k5).drew
                    have hszq : g < (wz.drewN k5).drew.heap.size := hsz
                    have hHeld := And.intro (hbkq.cellAt (i := 0) rfl) (hbkq.cellAt (i := 2) rfl)
                    refine F2.wp_region_front (S := fun w' => w'.cell? ⟨g, 0, none⟩ = some (.int .i64 (pn : Int)) ∧ w'.cell? ⟨g, 2, none⟩ = some (.slice Au body.length cu)) 2 12 (by kernel_rfl) (by kernel_rfl) (by decide) rfl (by kernel_rfl) (by kernel_rfl) (fun _ _ _ h => h) (.inl ⟨by rfl, fun w' => by rfl⟩) ?_
                    simp only [Act.put, List.setIfInBounds_toArray, List.set_cons_zero, List.set_cons_succ]
                    revert hbkq hisq hbq hszq hHeld
                    generalize (wz.drewN k5).drew = wq
                    intro hbkq hisq hbq hszq hHeld
                    have HBKQ := Lib.hid hbkq
                    have HISQ := Lib.hid hisq
                    have HBQ := Lib.hid hbq
                    clear hbkq hisq hbq c0 c1 c2 hsz HISA HBK HBA hcz HPLC
                    refine F2.Front.take 0 (v := ?_) rfl (by decide) (by kernel_rfl) (by kernel_rfl) (fun _ _ _ h => h) rfl hHeld ?_ ?_
                    case refine_2 => intro w' hSw; obtain ⟨q0, q2⟩ := hSw; go_simp <;> with_reducible rfl
                    simp only [Act.put, List.setIfInBounds_toArray, List.set_cons_zero, List.set_cons_succ]
                    refine F2.Front.take 1 (v := ?_) rfl (by decide) (by kernel_rfl) (by kernel_rfl) (fun _ _ _ h => h) rfl hHeld ?_ ?_
                    case refine_2 => intro w' hSw; obtain ⟨q0, q2⟩ := hSw; go_simp <;> with_reducible rfl
                    simp only [Act.put, List.setIfInBounds_toArray, List.set_cons_zero, List.set_cons_succ]
                    refine F2.Front.take 4 (v := ?_) rfl (by decide) (by kernel_rfl) (by kernel_rfl) (fun _ _ _ h => h) rfl hHeld ?_ ?_
                    case refine_2 => intro w' hSw; obtain ⟨q0, q2⟩ := hSw; go_simp <;> with_reducible rfl
                    simp only [Act.put, List.setIfInBounds_toArray, List.set_cons_zero, List.set_cons_succ]
                    refine F2.Front.take 6 (v := ?_) rfl (by decide) (by kernel_rfl) (by kernel_rfl) (fun _ _ _ h => h) rfl hHeld ?_ ?_
                    case refine_2 => intro w' hSw; obtain ⟨q0, q2⟩ := hSw; go_simp <;> with_reducible rfl
                    simp only [Act.put, List.setIfInBounds_toArray, List.set_cons_zero, List.set_cons_succ]
                    refine F2.Front.take 7 (v := ?_) rfl (by decide) (by kernel_rfl) (by kernel_rfl) (fun _ _ _ h => h) rfl hHeld ?_ ?_
                    case refine_2 => intro w' hSw; obtain ⟨q0, q2⟩ := hSw; go_simp <;> with_reducible rfl
                    simp only [Act.put, List.setIfInBounds_toArray, List.set_cons_zero, List.set_cons_succ]
                    have hv0 : ∀ b, (Value.slice (some ⟨wq.heap.size, 0, none⟩) 0 0).ownBlock = some b → wq.heap.size ≤ b := fun b h => by cases h; exact Nat.le_refl _
                    have HV0 := Lib.hid hv0
                    clear hv0
                    refine F2.Front.two (i := 3) (j := 8) (by kernel_rfl) (by decide) (by decide) ?_ ?_
                    · refine F2.FrontStep.of rfl (fun K hK => ?_)
                      go_simp
                      refine hK _ _ ⟨(HBKQ.out.alloc _).cellAt (i := 0) rfl, (HBKQ.out.alloc _).cellAt (i := 2) rfl⟩ ?_
                      clear K hK
                      refine F2.Front.two (i := 5) (j := 8) (by kernel_rfl) (by decide) (by decide) ?_ ?_
                      · refine F2.FrontStep.of rfl (fun K hK => ?_)
                        refine step_append_cat rfl (.tmp 58) (.tmp 59) 51 rfl wq.heap.size 3 ie (.int .i64 0) 1 8 Tryd.underlying51 hi hz0 hz1 hz2 rfl (by decide) (.slice (some ⟨wq.heap.size, 0, none⟩) 0 0) 0 [] rfl (own_empty (Nat.le_refl _)) As sn.length cs (sn.map iV) rfl (by simp) (ints_cat HISQ.out (fun p hp => ((Below.refl wq.heap.size wq).alloc (Nat.le_refl _) _).cell hp)) (iV_one _) (by unfold maxLen; omega) (by omega) (by rw [World.size_alloc]; omega) ?_
                        intro v5 w5 hown5 hgr5 hat5
                        rw [Nat.zero_add, List.nil_append] at hown5
                        have hx5 := blk_past (HBKQ.out.alloc (.cells #[] 3)) hgr5 HV0.out hszq
                        have hbl5 := ((Below.refl wq.heap.size wq).alloc (Nat.le_refl _) (.cells #[] 3)).grown hgr5 (by rw [World.size_alloc]; omega) HV0.out
                        refine hK _ w5 ⟨hx5.cellAt (i := 0) rfl, hx5.cellAt (i := 2) rfl⟩ ?_
                        clear K hK
                        simp only [Act.put, List.setIfInBounds_toArray, List.set_cons_zero, List.set_cons_succ]
                        have HX5 := Lib.hid hx5
                        clear hgr5 hat5 hx5
                        refine F2.Front.one (i := 8) (by kernel_rfl) (by decide) ?_
                        refine F2.FrontStep.of rfl (fun K hK => ?_)
                        go_simp
                        refine hK _ _ ⟨(HX5.out.alloc _).cellAt (i := 0) rfl, (HX5.out.alloc _).cellAt (i := 2) rfl⟩ ?_
                        clear K hK
                        have own6 := hown5.alloc (.cells #[.int .i64 (pn : Int)] 3)
                        have hnb6 := Blk.newAt w5 3 #[.int .i64 (pn : Int)] rfl
                        have hx6 := HX5.out.alloc (.cells #[.int .i64 (pn : Int)] 3)
                        have hbl6 := hbl5.alloc hbl5.size (.cells #[.int .i64 (pn : Int)] 3)
                        clear hown5 hbl5 HX5
                        refine F2.Front.one (i := 9) (by kernel_rfl) (by decide) ?_
                        refine F2.FrontStep.of rfl (fun K hK => ?_)
                        refine step_append_lies _ rfl (.tmp 60) (.tmp 63) 51 rfl wq.heap.size 3 ie (.int .i64 0) 1 8 Tryd.underlying51 hi hz0 hz1 hz2 rfl (by decide) v5 sn.length (sn.map iV) rfl own6 ⟨w5.heap.size, 0, none⟩ 1 1 [.int .i64 (pn : Int)] rfl rfl (fun j u' hj => by rw [add_none]; exact hnb6.cellAt hj) (by intro u hu; simp at hu; subst hu; rfl) (by decide) (by unfold maxLen; omega) (by omega) hbl6.size _ rfl ?_
                        intro g7 c7 w7 hown7 hgr7 hat7 _
                        have hx7 := blk_past hx6 hgr7 (fun b hb => (own6.lt b hb).1) hszq
                        have hbl7 := hbl6.grown hgr7 hbl6.size (fun k hk => (own6.lt k hk).1)
                        refine hK _ w7 ⟨hx7.cellAt (i := 0) rfl, hx7.cellAt (i := 2) rfl⟩ ?_
                        clear K hK
                        simp only [Act.put, List.setIfInBounds_toArray, List.set_cons_zero, List.set_cons_succ]
                        have hown7' : w7.ownsRow wq.heap.size 3 1 (.slice (some ⟨g7, 0, none⟩) (sn.length + 1) c7) (sn ++ [(pn : Int)]).length ((sn ++ [(pn : Int)]).map iV) := by simpa using hown7
                        have hi7 := Ints.ofOwn hown7'
                        have hbw7 := HBQ.out.trans (hbl7.mono HBQ.out.size)
                        have hcall := HI.out w7 hh (sn ++ [(pn : Int)]) (.slice (some ar) R.length cr) _ (fun q hq => (hbw7.cell (HPW.out _ hq)).trans (HW.out q hq)) (fun b hb => by have := HPW.out b hb; have := hbw7.size; omega) ((Bools.below HVR.out hbw7).more hbw7.size) hi7 (by rw [List.length_append]; simp; omega)
                        have HCALL := Lib.hid hcall
                        have HX7 := Lib.hid hx7
                        have HBW7 := Lib.hid hbw7
                        have hs7 : g < w7.heap.size := by have := hbl7.size; omega
                        clear hgr7 hat7 hown7 hown7' hi7 own6 hnb6 hx6 hbl6 hx7 hbl7 hbw7 hcall
                        unfold EachPost at HCALL
                        by_cases he : eachErr R.length R (sn ++ [(pn : Int)]) (walkL body hh) = 0
                        · have hc0 : Calls Tryd.prog 46 #[.slice Au body.length cu, .slice (some ar) R.length cr, .slice (some ⟨g7, 0, none⟩) (sn.length + 1) c7] w7 fun en W' => ∃ vo, en = .returned (.tuple #[vo, .int .i64 0]) ∧ Ints W'.heap.size W' vo (sn ++ [(pn : Int)] ++ ptsL body) ∧ Below w7.heap.size w7 W' := HCALL.out.mono fun en W' ⟨vo, h1, h2, h3⟩ => ⟨vo, by rw [h1, he], h2 he, h3⟩
                          obtain ⟨hn1, hn2⟩ := HNXT.out H00.out he
                          rw [hn2] at hc0
                          have HC0 := Lib.hid hc0
                          have HN1 := Lib.hid hn1
                          clear hc0 hn1 hn2 he HCALL
                          refine F2.Front.one (i := 10) (by kernel_rfl) (by decide) ?_
                          refine F2.FrontStep.of rfl (fun K hK => ?_)
                          go_simp
                          refine HC0.out.mono ?_
                          rintro en w8 ⟨v8, rfl, hv8, hb8⟩
                          have hx8 := HX7.out.same (hb8.block _ hs7)
                          have hHeld8 := And.intro (hx8.cellAt (i := 0) rfl) (hx8.cellAt (i := 2) rfl)
                          refine hK _ w8 hHeld8 ?_
                          clear K hK
                          have hb8' := HBW7.out.trans (hb8.mono HBW7.out.size)
                          refine F2.Front.take 11 (v := ?_) rfl (by decide) (by kernel_rfl) (by kernel_rfl) (fun _ _ _ h => h) rfl hHeld8 ?_ ?_
                          case refine_2 => intro w' hSw; obtain ⟨q0, q2⟩ := hSw; go_simp <;> with_reducible rfl
                          simp only [Act.put, List.setIfInBounds_toArray, List.set_cons_zero, List.set_cons_succ]
                          refine F2.Front.done (by kernel_rfl) ?_
                          refine wpAny_take (i := 12) (v := v8) rfl (by kernel_rfl) (by kernel_rfl) (by kernel_rfl) (fun _ _ _ h => h) (.inl ⟨by rfl, fun w' => by rfl⟩) ?_
                          refine wpAny_take (i := 13) (v := .int .i64 0) rfl (by kernel_rfl) (by kernel_rfl) (by kernel_rfl) (fun _ _ _ h => h) (.inl ⟨by rfl, fun w' => by rfl⟩) ?_
                          simp only [Act.put, List.setIfInBounds_toArray]
                          refine F2.any_one (i := 14) (by kernel_rfl) rfl ?_
                          intro K hK
                          go_simp
                          refine hK _ _ ?_
                          clear K hK
                          refine F2.any_one (i := 15) (by kernel_rfl) rfl ?_
                          intro K hK
                          go_simp
                          refine hK _ _ ⟨by kernel_rfl, ?_⟩
                          clear K hK hHeld8 hx8 hHeld
                          go_wp2
                          go_roundw
                          case rel => exact ⟨m + 1, _, by omega, rfl, by go_num, HN1, hv8, hb8'⟩
                          case measure => simp [intOf]; omega
                        · have hex : eachErr R.length R seen (walkL l hs) = eachErr R.length R (sn ++ [(pn : Int)]) (walkL body hh) := HBOD.out H00.out he
                          have HEX := Lib.hid hex
                          have hc0 : Calls Tryd.prog 46 #[.slice Au body.length cu, .slice (some ar) R.length cr, .slice (some ⟨g7, 0, none⟩) (sn.length + 1) c7] w7 fun en W' => ∃ vo, en = .returned (.tuple #[vo, .int .i64 (eachErr R.length R (sn ++ [(pn : Int)]) (walkL body hh))]) ∧ Below w7.heap.size w7 W' := HCALL.out.mono fun en W' ⟨vo, h1, h2, h3⟩ => ⟨vo, h1, h3⟩
                          clear HCALL hex
                          revert hc0 HEX he
                          generalize eachErr R.length R (sn ++ [(pn : Int)]) (walkL body hh) = er
                          intro he HEX hc0
                          have HC0 := Lib.hid hc0
                          have hne : (er == 0) = false := by simpa using he
                          have HNE := Lib.hid he
                          clear hc0
                          refine F2.Front.one (i := 10) (by kernel_rfl) (by decide) ?_
                          refine F2.FrontStep.of rfl (fun K hK => ?_)
                          go_simp
                          refine HC0.out.mono ?_
                          rintro en w8 ⟨v8, rfl, hb8⟩
                          have hx8 := HX7.out.same (hb8.block _ hs7)
                          have hHeld8 := And.intro (hx8.cellAt (i := 0) rfl) (hx8.cellAt (i := 2) rfl)
                          refine hK _ w8 hHeld8 ?_
                          clear K hK
                          have hb8' := HBW7.out.trans (hb8.mono HBW7.out.size)
                          refine F2.Front.take 11 (v := ?_) rfl (by decide) (by kernel_rfl) (by kernel_rfl) (fun _ _ _ h => h) rfl hHeld8 ?_ ?_
                          case refine_2 => intro w' hSw; obtain ⟨q0, q2⟩ := hSw; go_simp <;> with_reducible rfl
                          simp only [Act.put, List.setIfInBounds_toArray, List.set_cons_zero, List.set_cons_succ]
                          refine F2.Front.done (by kernel_rfl) ?_
                          refine wpAny_take (i := 12) (v := v8) rfl (by kernel_rfl) (by kernel_rfl) (by kernel_rfl) (fun _ _ _ h => h) (.inl ⟨by rfl, fun w' => by rfl⟩) ?_
                          refine wpAny_take (i := 13) (v := .int .i64 er) rfl (by kernel_rfl) (by kernel_rfl) (by kernel_rfl) (fun _ _ _ h => h) (.inl ⟨by rfl, fun w' => by rfl⟩) ?_
                          simp only [Act.put, List.setIfInBounds_toArray]
                          refine F2.any_one (i := 14) (by kernel_rfl) rfl ?_
                          intro K hK
                          go_simp
                          refine hK _ _ ?_
                          clear K hK
                          refine F2.any_one (i := 15) (by kernel_rfl) rfl ?_
                          intro K hK
                          go_simp
                          refine hK _ _ ⟨by kernel_rfl, ?_⟩
                          clear K hK hHeld8 hx8 hHeld
                          go_wp2
                          go_ret2
                          exact ⟨_, by rw [HEX.out]; rfl, fun h => absurd (HEX.out.symm.trans h) HNE.out, hb8'⟩
                      · refine F2.FrontStep.of rfl (fun K hK => ?_)
                        go_simp
                        refine hK _ _ ⟨((HBKQ.out.alloc _).alloc _).cellAt (i := 0) rfl, ((HBKQ.out.alloc _).alloc _).cellAt (i := 2) rfl⟩ ?_
                        clear K hK
                        have hnb5 := Blk.newAt (N := wq.heap.size + 1) (wq.alloc (.cells #[] 3)) 3 #[.int .i64 (pn : Int)] (World.size_alloc _ _)
                        refine F2.Front.one (i := 5) (by kernel_rfl) (by decide) ?_
                        refine F2.FrontStep.of rfl (fun K hK => ?_)
                        refine step_append_cat rfl (.tmp 58) (.tmp 59) 51 rfl wq.heap.size 3 ie (.int .i64 0) 1 8 Tryd.underlying51 hi hz0 hz1 hz2 rfl (by decide) (.slice (some ⟨wq.heap.size, 0, none⟩) 0 0) 0 [] rfl ((own_empty (Nat.le_refl _)).alloc _) As sn.length cs (sn.map iV) rfl (by simp) (ints_cat HISQ.out (fun p hp => (((Below.refl wq.heap.size wq).alloc (Nat.le_refl _) _).alloc (by rw [World.size_alloc]; omega) _).cell hp)) (iV_one _) (by unfold maxLen; omega) (by omega) (by rw [World.size_alloc, World.size_alloc]; omega) ?_
                        intro v5 w5 hown5 hgr5 hat5
                        rw [Nat.zero_add, List.nil_append] at hown5
                        have hx6 := blk_past ((HBKQ.out.alloc (.cells #[] 3)).alloc (.cells #[.int .i64 (pn : Int)] 3)) hgr5 HV0.out hszq
                        have hnb6 := hnb5.same (hgr5.block _ (by simp) (fun e => by simp [Value.ownBlock] at e))
                        have hbl6 := (((Below.refl wq.heap.size wq).alloc (Nat.le_refl _) (.cells #[] 3)).alloc (by rw [World.size_alloc]; omega) (.cells #[.int .i64 (pn : Int)] 3)).grown hgr5 (by rw [World.size_alloc, World.size_alloc]; omega) HV0.out
                        refine hK _ w5 ⟨hx6.cellAt (i := 0) rfl, hx6.cellAt (i := 2) rfl⟩ ?_
                        clear K hK
                        simp only [Act.put, List.setIfInBounds_toArray, List.set_cons_zero, List.set_cons_succ]
                        have own6 := hown5
                        clear hgr5 hat5 hnb5 hown5
                        refine F2.Front.one (i := 9) (by kernel_rfl) (by decide) ?_
                        refine F2.FrontStep.of rfl (fun K hK => ?_)
                        refine step_append_lies _ rfl (.tmp 60) (.tmp 63) 51 rfl wq.heap.size 3 ie (.int .i64 0) 1 8 Tryd.underlying51 hi hz0 hz1 hz2 rfl (by decide) v5 sn.length (sn.map iV) rfl own6 ⟨(wq.heap.size + 1), 0, none⟩ 1 1 [.int .i64 (pn : Int)] rfl rfl (fun j u' hj => by rw [add_none]; exact hnb6.cellAt hj) (by intro u hu; simp at hu; subst hu; rfl) (by decide) (by unfold maxLen; omega) (by omega) hbl6.size _ rfl ?_
                        intro g7 c7 w7 hown7 hgr7 hat7 _
                        have hx7 := blk_past hx6 hgr7 (fun b hb => (own6.lt b hb).1) hszq
                        have hbl7 := hbl6.grown hgr7 hbl6.size (fun k hk => (own6.lt k hk).1)
                        refine hK _ w7 ⟨hx7.cellAt (i := 0) rfl, hx7.cellAt (i := 2) rfl⟩ ?_
                        clear K hK
                        simp only [Act.put, List.setIfInBounds_toArray, List.set_cons_zero, List.set_cons_succ]
                        have hown7' : w7.ownsRow wq.heap.size 3 1 (.slice (some ⟨g7, 0, none⟩) (sn.length + 1) c7) (sn ++ [(pn : Int)]).length ((sn ++ [(pn : Int)]).map iV) := by simpa using hown7
                        have hi7 := Ints.ofOwn hown7'
                        have hbw7 := HBQ.out.trans (hbl7.mono HBQ.out.size)
                        have hcall := HI.out w7 hh (sn ++ [(pn : Int)]) (.slice (some ar) R.length cr) _ (fun q hq => (hbw7.cell (HPW.out _ hq)).trans (HW.out q hq)) (fun b hb => by have := HPW.out b hb; have := hbw7.size; omega) ((Bools.below HVR.out hbw7).more hbw7.size) hi7 (by rw [List.length_append]; simp; omega)
                        have HCALL := Lib.hid hcall
                        have HX7 := Lib.hid hx7
                        have HBW7 := Lib.hid hbw7
                        have hs7 : g < w7.heap.size := by have := hbl7.size; omega
                        clear hgr7 hat7 hown7 hown7' hi7 own6 hnb6 hx6 hbl6 hx7 hbl7 hbw7 hcall
                        unfold EachPost at HCALL
                        by_cases he : eachErr R.length R (sn ++ [(pn : Int)]) (walkL body hh) = 0
                        · have hc0 : Calls Tryd.prog 46 #[.slice Au body.length cu, .slice (some ar) R.length cr, .slice (some ⟨g7, 0, none⟩) (sn.length + 1) c7] w7 fun en W' => ∃ vo, en = .returned (.tuple #[vo, .int .i64 0]) ∧ Ints W'.heap.size W' vo (sn ++ [(pn : Int)] ++ ptsL body) ∧ Below w7.heap.size w7 W' := HCALL.out.mono fun en W' ⟨vo, h1, h2, h3⟩ => ⟨vo, by rw [h1, he], h2 he, h3⟩
                          obtain ⟨hn1, hn2⟩ := HNXT.out H00.out he
                          rw [hn2] at hc0
                          have HC0 := Lib.hid hc0
                          have HN1 := Lib.hid hn1
                          clear hc0 hn1 hn2 he HCALL
                          refine F2.Front.one (i := 10) (by kernel_rfl) (by decide) ?_
                          refine F2.FrontStep.of rfl (fun K hK => ?_)
                          go_simp
                          refine HC0.out.mono ?_
                          rintro en w8 ⟨v8, rfl, hv8, hb8⟩
                          have hx8 := HX7.out.same (hb8.block _ hs7)
                          have hHeld8 := And.intro (hx8.cellAt (i := 0) rfl) (hx8.cellAt (i := 2) rfl)
                          refine hK _ w8 hHeld8 ?_
                          clear K hK
                          have hb8' := HBW7.out.trans (hb8.mono HBW7.out.size)
                          refine F2.Front.take 11 (v := ?_) rfl (by decide) (by kernel_rfl) (by kernel_rfl) (fun _ _ _ h => h) rfl hHeld8 ?_ ?_
                          case refine_2 => intro w' hSw; obtain ⟨q0, q2⟩ := hSw; go_simp <;> with_reducible rfl
                          simp only [Act.put, List.setIfInBounds_toArray, List.set_cons_zero, List.set_cons_succ]
                          refine F2.Front.done (by kernel_rfl) ?_
                          refine wpAny_take (i := 12) (v := v8) rfl (by kernel_rfl) (by kernel_rfl) (by kernel_rfl) (fun _ _ _ h => h) (.inl ⟨by rfl, fun w' => by rfl⟩) ?_
                          refine wpAny_take (i := 13) (v := .int .i64 0) rfl (by kernel_rfl) (by kernel_rfl) (by kernel_rfl) (fun _ _ _ h => h) (.inl ⟨by rfl, fun w' => by rfl⟩) ?_
                          simp only [Act.put, List.setIfInBounds_toArray]
                          refine F2.any_one (i := 14) (by kernel_rfl) rfl ?_
                          intro K hK
                          go_simp
                          refine hK _ _ ?_
                          clear K hK
                          refine F2.any_one (i := 15) (by kernel_rfl) rfl ?_
                          intro K hK
                          go_simp
                          refine hK _ _ ⟨by kernel_rfl, ?_⟩
                          clear K hK hHeld8 hx8 hHeld
                          go_wp2
                          go_roundw
                          case rel => exact ⟨m + 1, _, by omega, rfl, by go_num, HN1, hv8, hb8'⟩
                          case measure => simp [intOf]; omega
                        · have hex : eachErr R.length R seen (walkL l hs) = eachErr R.length R (sn ++ [(pn : Int)]) (walkL body hh) := HBOD.out H00.out he
                          have HEX := Lib.hid hex
                          have hc0 : Calls Tryd.prog 46 #[.slice Au body.length cu, .slice (some ar) R.length cr, .slice (some ⟨g7, 0, none⟩) (sn.length + 1) c7] w7 fun en W' => ∃ vo, en = .returned (.tuple #[vo, .int .i64 (eachErr R.length R (sn ++ [(pn : Int)]) (walkL body hh))]) ∧ Below w7.heap.size w7 W' := HCALL.out.mono fun en W' ⟨vo, h1, h2, h3⟩ => ⟨vo, h1, h3⟩
                          clear HCALL hex
                          revert hc0 HEX he
                          generalize eachErr R.length R (sn ++ [(pn : Int)]) (walkL body hh) = er
                          intro he HEX hc0
                          have HC0 := Lib.hid hc0
                          have hne : (er == 0) = false := by simpa using he
                          have HNE := Lib.hid he
                          clear hc0
                          refine F2.Front.one (i := 10) (by kernel_rfl) (by decide) ?_
                          refine F2.FrontStep.of rfl (fun K hK => ?_)
                          go_simp
                          refine HC0.out.mono ?_
                          rintro en w8 ⟨v8, rfl, hb8⟩
                          have hx8 := HX7.out.same (hb8.block _ hs7)
                          have hHeld8 := And.intro (hx8.cellAt (i := 0) rfl) (hx8.cellAt (i := 2) rfl)
                          refine hK _ w8 hHeld8 ?_
                          clear K hK
                          have hb8' := HBW7.out.trans (hb8.mono HBW7.out.size)
                          refine F2.Front.take 11 (v := ?_) rfl (by decide) (by kernel_rfl) (by kernel_rfl) (fun _ _ _ h => h) rfl hHeld8 ?_ ?_
                          case refine_2 => intro w' hSw; obtain ⟨q0, q2⟩ := hSw; go_simp <;> with_reducible rfl
                          simp only [Act.put, List.setIfInBounds_toArray, List.set_cons_zero, List.set_cons_succ]
                          refine F2.Front.done (by kernel_rfl) ?_
                          refine wpAny_take (i := 12) (v := v8) rfl (by kernel_rfl) (by kernel_rfl) (by kernel_rfl) (fun _ _ _ h => h) (.inl ⟨by rfl, fun w' => by rfl⟩) ?_
                          refine wpAny_take (i := 13) (v := .int .i64 er) rfl (by kernel_rfl) (by kernel_rfl) (by kernel_rfl) (fun _ _ _ h => h) (.inl ⟨by rfl, fun w' => by rfl⟩) ?_
                          simp only [Act.put, List.setIfInBounds_toArray]
                          refine F2.any_one (i := 14) (by kernel_rfl) rfl ?_
                          intro K hK
                          go_simp
                          refine hK _ _ ?_
                          clear K hK
                          refine F2.any_one (i := 15) (by kernel_rfl) rfl ?_
                          intro K hK
                          go_simp
                          refine hK _ _ ⟨by kernel_rfl, ?_⟩
                          clear K hK hHeld8 hx8 hHeld
                          go_wp2
                          go_ret2
                          exact ⟨_, by rw [HEX.out]; rfl, fun h => absurd (HEX.out.symm.trans h) HNE.out, hb8'⟩
                    · refine F2.FrontStep.of rfl (fun K hK => ?_)
                      go_simp
                      refine hK _ _ ⟨(HBKQ.out.alloc _).cellAt (i := 0) rfl, (HBKQ.out.alloc _).cellAt (i := 2) rfl⟩ ?_
                      clear K hK
                      have hnb4 := Blk.newAt wq 3 #[.int .i64 (pn : Int)] rfl
                      refine F2.Front.one (i := 3) (by kernel_rfl) (by decide) ?_
                      refine F2.FrontStep.of rfl (fun K hK => ?_)
                      go_simp
                      refine hK _ _ ⟨((HBKQ.out.alloc _).alloc _).cellAt (i := 0) rfl, ((HBKQ.out.alloc _).alloc _).cellAt (i := 2) rfl⟩ ?_
                      clear K hK
                      have hnb5 := hnb4.alloc (.cells #[] 3)
                      have hvv : ∀ b, (Value.slice (some ⟨(wq.alloc (.cells #[.int .i64 (pn : Int)] 3)).heap.size, 0, none⟩) 0 0).ownBlock = some b → wq.heap.size ≤ b := fun b h => by cases h; show wq.heap.size ≤ (wq.alloc _).heap.size; rw [World.size_alloc]; omega
                      refine F2.Front.one (i := 5) (by kernel_rfl) (by decide) ?_
                      refine F2.FrontStep.of rfl (fun K hK => ?_)
                      refine step_append_cat rfl (.tmp 58) (.tmp 59) 51 rfl wq.heap.size 3 ie (.int .i64 0) 1 8 Tryd.underlying51 hi hz0 hz1 hz2 rfl (by decide) (.slice (some ⟨(wq.alloc (.cells #[.int .i64 (pn : Int)] 3)).heap.size, 0, none⟩) 0 0) 0 [] (by simp [Act.eval]) (own_empty (by rw [World.size_alloc]; omega)) As sn.length cs (sn.map iV) rfl (by simp) (ints_cat HISQ.out (fun p hp => (((Below.refl wq.heap.size wq).alloc (Nat.le_refl _) _).alloc (by rw [World.size_alloc]; omega) _).cell hp)) (iV_one _) (by unfold maxLen; omega) (by omega) (by rw [World.size_alloc, World.size_alloc]; omega) ?_
                      intro v5 w5 hown5 hgr5 hat5
                      rw [Nat.zero_add, List.nil_append] at hown5
                      have hx6 := blk_past ((HBKQ.out.alloc (.cells #[.int .i64 (pn : Int)] 3)).alloc (.cells #[] 3)) hgr5 hvv hszq
                      have hnb6 := hnb5.same (hgr5.block _ (by simp; omega) (fun e => by simp [Value.ownBlock] at e))
                      have hbl6 := (((Below.refl wq.heap.size wq).alloc (Nat.le_refl _) (.cells #[.int .i64 (pn : Int)] 3)).alloc (by rw [World.size_alloc]; omega) (.cells #[] 3)).grown hgr5 (by rw [World.size_alloc, World.size_alloc]; omega) hvv
                      refine hK _ w5 ⟨hx6.cellAt (i := 0) rfl, hx6.cellAt (i := 2) rfl⟩ ?_
                      clear K hK
                      simp only [Act.put, List.setIfInBounds_toArray, List.set_cons_zero, List.set_cons_succ]
                      have own6 := hown5
                      clear hgr5 hat5 hnb4 hnb5 hown5 hvv
                      refine F2.Front.one (i := 9) (by kernel_rfl) (by decide) ?_
                      refine F2.FrontStep.of rfl (fun K hK => ?_)
                      refine step_append_lies _ rfl (.tmp 60) (.tmp 63) 51 rfl wq.heap.size 3 ie (.int .i64 0) 1 8 Tryd.underlying51 hi hz0 hz1 hz2 rfl (by decide) v5 sn.length (sn.map iV) rfl own6 ⟨wq.heap.size, 0, none⟩ 1 1 [.int .i64 (pn : Int)] rfl rfl (fun j u' hj => by rw [add_none]; exact hnb6.cellAt hj) (by intro u hu; simp at hu; subst hu; rfl) (by decide) (by unfold maxLen; omega) (by omega) hbl6.size _ rfl ?_
                      intro g7 c7 w7 hown7 hgr7 hat7 _
                      have hx7 := blk_past hx6 hgr7 (fun b hb => (own6.lt b hb).1) hszq
                      have hbl7 := hbl6.grown hgr7 hbl6.size (fun k hk => (own6.lt k hk).1)
                      refine hK _ w7 ⟨hx7.cellAt (i := 0) rfl, hx7.cellAt (i := 2) rfl⟩ ?_
                      clear K hK
                      simp only [Act.put, List.setIfInBounds_toArray, List.set_cons_zero, List.set_cons_succ]
                      have hown7' : w7.ownsRow wq.heap.size 3 1 (.slice (some ⟨g7, 0, none⟩) (sn.length + 1) c7) (sn ++ [(pn : Int)]).length ((sn ++ [(pn : Int)]).map iV) := by simpa using hown7
                      have hi7 := Ints.ofOwn hown7'
                      have hbw7 := HBQ.out.trans (hbl7.mono HBQ.out.size)
                      have hcall := HI.out w7 hh (sn ++ [(pn : Int)]) (.slice (some ar) R.length cr) _ (fun q hq => (hbw7.cell (HPW.out _ hq)).trans (HW.out q hq)) (fun b hb => by have := HPW.out b hb; have := hbw7.size; omega) ((Bools.below HVR.out hbw7).more hbw7.size) hi7 (by rw [List.length_append]; simp; omega)
                      have HCALL := Lib.hid hcall
                      have HX7 := Lib.hid hx7
                      have HBW7 := Lib.hid hbw7
                      have hs7 : g < w7.heap.size := by have := hbl7.size; omega
                      clear hgr7 hat7 hown7 hown7' hi7 own6 hnb6 hx6 hbl6 hx7 hbl7 hbw7 hcall
                      unfold EachPost at HCALL
                      by_cases he : eachErr R.length R (sn ++ [(pn : Int)]) (walkL body hh) = 0
                      · have hc0 : Calls Tryd.prog 46 #[.slice Au body.length cu, .slice (some ar) R.length cr, .slice (some ⟨g7, 0, none⟩) (sn.length + 1) c7] w7 fun en W' => ∃ vo, en = .returned (.tuple #[vo, .int .i64 0]) ∧ Ints W'.heap.size W' vo (sn ++ [(pn : Int)] ++ ptsL body) ∧ Below w7.heap.size w7 W' := HCALL.out.mono fun en W' ⟨vo, h1, h2, h3⟩ => ⟨vo, by rw [h1, he], h2 he, h3⟩
                        obtain ⟨hn1, hn2⟩ := HNXT.out H00.out he
                        rw [hn2] at hc0
                        have HC0 := Lib.hid hc0
                        have HN1 := Lib.hid hn1
                        clear hc0 hn1 hn2 he HCALL
                        refine F2.Front.one (i := 10) (by kernel_rfl) (by decide) ?_
                        refine F2.FrontStep.of rfl (fun K hK => ?_)
                        go_simp
                        refine HC0.out.mono ?_
                        rintro en w8 ⟨v8, rfl, hv8, hb8⟩
                        have hx8 := HX7.out.same (hb8.block _ hs7)
                        have hHeld8 := And.intro (hx8.cellAt (i := 0) rfl) (hx8.cellAt (i := 2) rfl)
                        refine hK _ w8 hHeld8 ?_
                        clear K hK
                        have hb8' := HBW7.out.trans (hb8.mono HBW7.out.size)
                        refine F2.Front.take 11 (v := ?_) rfl (by decide) (by kernel_rfl) (by kernel_rfl) (fun _ _ _ h => h) rfl hHeld8 ?_ ?_
                        case refine_2 => intro w' hSw; obtain ⟨q0, q2⟩ := hSw; go_simp <;> with_reducible rfl
                        simp only [Act.put, List.setIfInBounds_toArray, List.set_cons_zero, List.set_cons_succ]
                        refine F2.Front.done (by kernel_rfl) ?_
                        refine wpAny_take (i := 12) (v := v8) rfl (by kernel_rfl) (by kernel_rfl) (by kernel_rfl) (fun _ _ _ h => h) (.inl ⟨by rfl, fun w' => by rfl⟩) ?_
                        refine wpAny_take (i := 13) (v := .int .i64 0) rfl (by kernel_rfl) (by kernel_rfl) (by kernel_rfl) (fun _ _ _ h => h) (.inl ⟨by rfl, fun w' => by rfl⟩) ?_
                        simp only [Act.put, List.setIfInBounds_toArray]
                        refine F2.any_one (i := 14) (by kernel_rfl) rfl ?_
                        intro K hK
                        go_simp
                        refine hK _ _ ?_
                        clear K hK
                        refine F2.any_one (i := 15) (by kernel_rfl) rfl ?_
                        intro K hK
                        go_simp
                        refine hK _ _ ⟨by kernel_rfl, ?_⟩
                        clear K hK hHeld8 hx8 hHeld
                        go_wp2
                        go_roundw
                        case rel => exact ⟨m + 1, _, by omega, rfl, by go_num, HN1, hv8, hb8'⟩
                        case measure => simp [intOf]; omega
                      · have hex : eachErr R.length R seen (walkL l hs) = eachErr R.length R (sn ++ [(pn : Int)]) (walkL body hh) := HBOD.out H00.out he
                        have HEX := Lib.hid hex
                        have hc0 : Calls Tryd.prog 46 #[.slice Au body.length cu, .slice (some ar) R.length cr, .slice (some ⟨g7, 0, none⟩) (sn.length + 1) c7] w7 fun en W' => ∃ vo, en = .returned (.tuple #[vo, .int .i64 (eachErr R.length R (sn ++ [(pn : Int)]) (walkL body hh))]) ∧ Below w7.heap.size w7 W' := HCALL.out.mono fun en W' ⟨vo, h1, h2, h3⟩ => ⟨vo, h1, h3⟩
                        clear HCALL hex
                        revert hc0 HEX he
                        generalize eachErr R.length R (sn ++ [(pn : Int)]) (walkL body hh) = er
                        intro he HEX hc0
                        have HC0 := Lib.hid hc0
                        have hne : (er == 0) = false := by simpa using he
                        have HNE := Lib.hid he
                        clear hc0
                        refine F2.Front.one (i := 10) (by kernel_rfl) (by decide) ?_
                        refine F2.FrontStep.of rfl (fun K hK => ?_)
                        go_simp
                        refine HC0.out.mono ?_
                        rintro en w8 ⟨v8, rfl, hb8⟩
                        have hx8 := HX7.out.same (hb8.block _ hs7)
                        have hHeld8 := And.intro (hx8.cellAt (i := 0) rfl) (hx8.cellAt (i := 2) rfl)
                        refine hK _ w8 hHeld8 ?_
                        clear K hK
                        have hb8' := HBW7.out.trans (hb8.mono HBW7.out.size)
                        refine F2.Front.take 11 (v := ?_) rfl (by decide) (by kernel_rfl) (by kernel_rfl) (fun _ _ _ h => h) rfl hHeld8 ?_ ?_
                        case refine_2 => intro w' hSw; obtain ⟨q0, q2⟩ := hSw; go_simp <;> with_reducible rfl
                        simp only [Act.put, List.setIfInBounds_toArray, List.set_cons_zero, List.set_cons_succ]
                        refine F2.Front.done (by kernel_rfl) ?_
                        refine wpAny_take (i := 12) (v := v8) rfl (by kernel_rfl) (by kernel_rfl) (by kernel_rfl) (fun _ _ _ h => h) (.inl ⟨by rfl, fun w' => by rfl⟩) ?_
                        refine wpAny_take (i := 13) (v := .int .i64 er) rfl (by kernel_rfl) (by kernel_rfl) (by kernel_rfl) (fun _ _ _ h => h) (.inl ⟨by rfl, fun w' => by rfl⟩) ?_
                        simp only [Act.put, List.setIfInBounds_toArray]
                        refine F2.any_one (i := 14) (by kernel_rfl) rfl ?_
                        intro K hK
                        go_simp
                        refine hK _ _ ?_
                        clear K hK
                        refine F2.any_one (i := 15) (by kernel_rfl) rfl ?_
                        intro K hK
                        go_simp
                        refine hK _ _ ⟨by kernel_rfl, ?_⟩
                        clear K hK hHeld8 hx8 hHeld
                        go_wp2
                        go_ret2
                        exact ⟨_, by rw [HEX.out]; rfl, fun h => absurd (HEX.out.symm.trans h) HNE.out, hb8'⟩
          · have hb0 : decide ((0 : Int) < (body.length : Int)) = true := by rw [decide_eq_true_iff]; omega
            have hb1 : decide (0 < body.length) = true := by rw [decide_eq_true_iff]; omega
            have hbn : body ≠ [] := fun e => hbz (by rw [e]; rfl)
            clear hbz
            have hex : eachErr R.length R seen (walkL l hs) = 3 := by
              have h0 := elt3 (n := R.length) (R := R) (seen := sn) (p := p) rfl hbn
              have h1 := HELT.out (by rw [h0]; decide)
              rw [h1, h0]
            have HEX := Lib.hid hex
            clear hex
            go_wp2
            go_ret2
            exact ⟨_, by rw [HEX.out]; rfl, fun h => by rw [HEX.out] at h; exact absurd h (by decide), HBA.out⟩
      · obtain rfl : m = l.length := by omega
        have he0 := HE0.out
        rw [List.take_length] at he0 his
        have HZ := Lib.hid he0
        clear he0
        go_wp2
        go_ret2
        exact ⟨_, by rw [HZ.out]; rfl, fun _ => his, hbw⟩
end Go.Proofs.YthaampinmelgaaaDoor

/-! The reference's Check; the law WtoChecks, walked. -/
namespace Go.Proofs.YthaampinmelgaaaDoor
open Go.RowKit Go.Shelf

theorem chkV_edges {n : Nat} {R : List Bool} {l : List El} {u y : Nat} (hgap : gapB n R (ptsL l) = false) (hu : u < n) (hy : y < n) (hRu : R.getD u false = true) (hRy : R.getD y false = true) :
    ∃ hs, insL l (u : Int) = some hs ∧ badEdge' R (ptsL l) (walkL l []) (u, y) = (decide (idxI (ptsL l) (y : Int) ≤ idxI (ptsL l) (u : Int)) && !hs.contains (y : Int)) := by
  have hin : ∀ j, j < n → R.getD j false = true → ((j : Nat) : Int) ∈ ptsL l := fun j hj hr => by
    unfold gapB at hgap
    rw [List.any_eq_false] at hgap
    have := hgap j (List.mem_range.2 hj)
    rw [hr] at this
    simpa using this
  obtain ⟨hs, hi⟩ := insL_some (hin u hu hRu)
  refine ⟨hs, hi, ?_⟩
  unfold badEdge'
  simp only
  rw [hRu, place_idx (hin u hu hRu), place_idx (hin y hy hRy), insW_of, hi]
  simp

set_option maxRecDepth 100000 in
set_option maxHeartbeats 4000000 in
theorem rcheckw_ok (w : World) (v lv : Value) (n : Nat) (exit : Int) (E : List (Nat × Nat)) (l : List El) (hv : Edges w.heap.size w v (castE E)) (hg : GOk n exit E) (h : EL w lv l) (R : List Bool) (hR : R.length = n)
    (hcl : ∀ u y : Nat, (u, y) ∈ E → R.getD u false = true → R.getD y false = true)
    (hreach : ∀ W, GV w W (n : Int) exit v → Calls Tryd.prog 45 #[.agg #[.int .i64 (n : Int), .int .i64 exit, v], .int .i64 0, .int .i64 (-1)] W fun en w' => ∃ vo, en = .returned vo ∧ Bools w'.heap.size w' vo R ∧ Below W.heap.size W w')
    (hlen : (ptsL l).length ≤ 1000) :
    Calls Tryd.prog 18 #[.agg #[.int .i64 (n : Int), .int .i64 exit, v], lv] w fun en w' => en = .returned (.int .i64 (chkV n E R l)) ∧ Below w.heap.size w w' := by
  have hrc := fun (W : World) (h : GV w W (n : Int) exit v) => rcheck_any W.heap.size W n exit v _ (h.edges hv) (Nat.le_refl _)
  have hch : chk (n : Int) exit (castE E) = 0 := hg.chk
  rw [hch] at hrc
  have hg0 := GV.start w (n : Int) exit v
  have hn512 := hg.n512
  subst hR
  obtain ⟨A, c, rfl, hlc, -, hm, hes⟩ := hv.shape
  have hlen0 : (castE E).length = E.length := castE_length E
  rw [hlen0] at hlc hm hg0 hrc hreach ⊢
  have HES := Lib.hid (Edges.nat hes)
  have HRC := Lib.hid hrc
  have HRE := Lib.hid hreach
  have HLEN := Lib.hid hlen
  have HG := Lib.hid hg
  have HCL := Lib.hid hcl
  have H0 := Lib.hid h
  obtain ⟨Al, cl, rfl, -⟩ := id h.shape
  clear hrc hreach hlen hg hcl h hv hes hch hlen0
  go_enter Tryd.func18, Tryd.ntmps18
  go_upto_region 5 with (first
    | (go_at_call 41; refine (HRC.out _ hg0).mono ?_; rintro en w1 ⟨rfl, hw1⟩; have hg1 := hg0.step hw1; obtain ⟨c0, c1, c2⟩ := hg1.cells)
    | (go_at_call 45; refine (HRE.out _ hg1).mono ?_; rintro en w2 ⟨vr, rfl, hvr, hw2⟩; have hg2 := hg1.step hw2; obtain ⟨Ar, cr, rfl, -, -, -, -⟩ := id hvr.shape))
  clear c0 c1 c2
  have he2 := EL.step H0.out hg2.bel
  have hea := each_any he2 R (by omega) w2 [] [] (.slice Ar R.length cr) (.slice none 0 0) (fun _ _ => rfl) (fun _ h => h) hvr (Sl.nil _ _ _) (by have := HLEN.out; simp; omega)
  unfold EachPost at hea
  by_cases her : eachErr R.length R [] (walkL l []) = 0
  · have hea2 : Calls Tryd.prog 46 #[.slice Al l.length cl, .slice Ar R.length cr, .slice none 0 0] w2 fun en W' => ∃ vo, en = .returned (.tuple #[vo, .int .i64 0]) ∧ Ints W'.heap.size W' vo (ptsL l) ∧ Below w2.heap.size w2 W' := hea.mono fun en W' ⟨vo, h1, h2, h3⟩ => ⟨vo, by rw [h1, her], h2 her, h3⟩
    have HEA := Lib.hid hea2
    have HER := Lib.hid her
    clear hea hea2 her
    go_upto_region 8 with (go_at_call 46; refine HEA.out.mono ?_; rintro en w3 ⟨vp, rfl, hvp, hw3⟩)
    obtain ⟨Ap, cp, rfl, -, -, hmp, -⟩ := id hvp.shape
    have hs3 : HSt w w3 (R.length : Int) exit (.slice A E.length c) (.slice Al l.length cl) (.slice Ar R.length cr) (.slice Ap (ptsL l).length cp) R l := ⟨hg2.step hw3, he2.step hw3, (Bools.below hvr hw3).more hw3.size, hvp⟩
    have HS3 := Lib.hid hs3
    clear hg0 hg1 hg2 hw1 hw2 hw3 he2 hvr hvp hs3 HEA
    go_upto_region 9 with fail
    go_loopw [9] (fun y wr => ∃ (m : Nat), m ≤ R.length ∧ y = .int .i64 m ∧ Hid (∀ j, j < m → R.getD j false = true → ((j : Nat) : Int) ∈ ptsL l) ∧ HSt w wr (R.length : Int) exit (.slice A E.length c) (.slice Al l.length cl) (.slice Ar R.length cr) (.slice Ap (ptsL l).length cp) R l) (fun y _ => R.length - (intOf y).toNat)
    case atStart => exact ⟨0, Nat.zero_le _, rfl, Lib.hid (fun j hj => absurd hj (Nat.not_lt_zero j)), HS3.out⟩
    case round =>
      obtain ⟨m, hm, rfl, HM, hs⟩ := hrel
      obtain ⟨c0, -, c2⟩ := hs.g.cells
      by_cases hlt : m < R.length
      · have hlt1 : (m : Int) < (R.length : Int) := by omega
        obtain ⟨_, _, he', -, -, -, hat⟩ := hs.rd.shape
        cases he'
        obtain ⟨ad, u, rfl, hbl, hcl, hru⟩ := hat m _ (List.getElem?_eq_getElem hlt)
        obtain rfl : u = .bool R[m] := hru
        have hgd : R.getD m false = R[m] := by rw [List.getD_eq_getElem?_getD, List.getElem?_eq_getElem hlt]; rfl
        have hpl := rplace_any _ _ _ _ hs.pt (m : Int)
        have hidx := idx_mem (l := ptsL l) (u := (m : Int))
        have hcw : ∀ k, (wr.drewN k).cell? ⟨w.heap.size, 0, none⟩ = some (.int .i64 (R.length : Int)) := fun k => c0
        revert hcl hgd
        generalize R[m] = rq
        intro hcl hgd
        have HS := Lib.hid hs
        have HPL := Lib.hid hpl
        cases rq with
        | false =>
          have hstep : ∀ j, j < m + 1 → R.getD j false = true → ((j : Nat) : Int) ∈ ptsL l := fun j hj hr => by
            by_cases e : j = m
            · subst e; rw [hgd] at hr; cases hr
            · exact HM.out j (by omega) hr
          have HST := Lib.hid hstep
          clear hstep hgd hs hpl hat hbl c2 hidx
          go_wp2
          go_roundw
          case rel => exact ⟨m + 1, by omega, by go_num, HST, HS.out⟩
          case measure => simp [intOf]; omega
        | true =>
          by_cases hmem : (m : Int) ∈ ptsL l
          · have hstep : ∀ j, j < m + 1 → R.getD j false = true → ((j : Nat) : Int) ∈ ptsL l := fun j hj hr => by
              by_cases e : j = m
              · subst e; exact hmem
              · exact HM.out j (by omega) hr
            have HST := Lib.hid hstep
            rw [decide_eq_true hmem] at hidx
            clear hstep hgd hs hpl hat hbl c2 hmem
            generalize idxI (ptsL l) (m : Int) = ix at *
            have hix : decide (ix < 0) = false := by rw [decide_eq_false_iff_not]; have := of_decide_eq_true hidx; omega
            go_wp2_with (go_at_call 47; refine HPL.out.mono ?_; rintro en w5 ⟨rfl, k5, rfl⟩; have c0' := hcw k5)
            have hs5 := HS.out.step (below_drewN' (Below.refl _ _) k5)
            go_roundw
            case rel => exact ⟨m + 1, by omega, by go_num, HST, hs5⟩
            case measure => simp [intOf]; omega
          · have hck : chkV R.length E R l = 20 := chkV_gap HER.out (gap_some hlt hgd hmem)
            have HCK := Lib.hid hck
            rw [decide_eq_false hmem] at hidx
            clear hgd hs hpl hat hbl c2 hmem hck
            generalize idxI (ptsL l) (m : Int) = ix at *
            have hix : decide (ix < 0) = true := by rw [decide_eq_true_iff]; have := of_decide_eq_false hidx; omega
            go_wp2_with (go_at_call 47; refine HPL.out.mono ?_; rintro en w5 ⟨rfl, k5, rfl⟩)
            go_ret
            exact ⟨by rw [HCK.out]; rfl, below_drewN' HS.out.g.bel k5⟩
      · obtain rfl : m = R.length := by omega
        have hgap : gapB R.length R (ptsL l) = false := gap_none (fun j hj hr => HM.out j hj hr)
        have HGAP := Lib.hid hgap
        have HS := Lib.hid hs
        clear hgap hs HM c2
        go_upto_region 14 with fail
        clear c0
        obtain ⟨w0, rfl⟩ : ∃ w0 : World, w0 = wr := ⟨_, rfl⟩
        go_loopw [10] (fun y wr => ∃ (m : Nat), m ≤ E.length ∧ y = .int .i64 m ∧ Hid ((E.take m).any (badEdge' R (ptsL l) (walkL l [])) = false) ∧ HSt w wr (R.length : Int) exit (.slice A E.length c) (.slice Al l.length cl) (.slice Ar R.length cr) (.slice Ap (ptsL l).length cp) R l) (fun y _ => E.length - (intOf y).toNat)
        case atStart => exact ⟨0, Nat.zero_le _, rfl, Lib.hid rfl, HS.out⟩
        case round =>
          obtain ⟨m, hm, rfl, HM, hs⟩ := hrel
          obtain ⟨-, -, c2⟩ := hs.g.cells
          by_cases hlt : m < E.length
          · have hek : E[m]? = some E[m] := List.getElem?_eq_getElem hlt
            have hx := HG.out.lt _ (List.getElem_mem hlt)
            have hcy := HCL.out E[m].1 E[m].2 (List.getElem_mem hlt)
            have htk : (E.take (m + 1)).any (badEdge' R (ptsL l) (walkL l [])) = badEdge' R (ptsL l) (walkL l []) E[m] := by
              rw [List.take_succ_eq_append_getElem hlt, List.any_append, HM.out]; simp
            have htb : badEdge' R (ptsL l) (walkL l []) E[m] = true → E.any (badEdge' R (ptsL l) (walkL l [])) = true := fun h => List.any_eq_true.2 ⟨_, List.getElem_mem hlt, h⟩
            revert hek hx hcy htk htb
            generalize E[m] = x
            intro hek hx hcy htk htb
            obtain ⟨p, q⟩ := x
            obtain ⟨hp, hq⟩ := hx
            simp only at hp hq hcy
            obtain ⟨ad, cs, rfl, hab, -, hcc, hc0, hc1, -⟩ := HES.out m _ hek
            have hcr : ∀ j v, cs[j]? = some v → wr.cell? ((ad.add (m * 21)).add j) = some v := fun j v hj => (hs.g.bel.cell (by rw [block_add, block_add]; exact hab)).trans (hcc j v hj)
            have k0 := hcr 0 _ hc0
            have k1 := hcr 1 _ hc1
            rw [addr_zero0] at k0
            rw [addrOne] at k1
            have e0 : ∀ t, (wr.drewN t).cell? (ad.add (m * 21)) = some (.int .i64 (p : Int)) := fun t => k0
            have e1 : ∀ t, (wr.drewN t).cell? ⟨(ad.add (m * 21)).block, (ad.add (m * 21)).off + 1, none⟩ = some (.int .i64 (q : Int)) := fun t => k1
            have e2 : ∀ t, (wr.drewN t).cell? ⟨w.heap.size, 2, none⟩ = some (.slice (some ad) E.length c) := fun t => c2
            have hlt1 : (m : Int) < (E.length : Int) := by omega
            have HS2 := Lib.hid hs
            have HTK := Lib.hid htk
            have HTB := Lib.hid htb
            have HCY := Lib.hid hcy
            clear hcc hcr hek hab hc0 hc1 hs htk htb hcy k0 k1
            go_upto_region 16 with fail
            clear c2
            go_quiet (fail)
            have hs9 := HS2.out.step (below_drewN' (Below.refl _ _) nq)
            have HS9 := Lib.hid hs9
            clear e0 e1 e2 HS2 hs9
            revert HS9
            generalize wr.drewN nq = wb
            intro HS9
            obtain ⟨_, _, he', -, -, -, hat⟩ := HS9.out.rd.shape
            cases he'
            have hpl1 : (p : Int) < (R.length : Int) := by omega
            obtain ⟨ar, u, rfl, hbl, hcl, hru⟩ := hat p _ (List.getElem?_eq_getElem hp)
            obtain rfl : u = .bool R[p] := hru
            have hgd : R.getD p false = R[p] := by rw [List.getD_eq_getElem?_getD, List.getElem?_eq_getElem hp]; rfl
            revert hcl hgd
            generalize R[p] = rq
            intro hcl hgd
            clear hat hbl
            cases rq with
            | false =>
              have hnb : badEdge' R (ptsL l) (walkL l []) (p, q) = false := by unfold badEdge'; simp only; rw [hgd]; simp
              have HNB := Lib.hid hnb
              clear hnb hgd
              go_wp2
              go_roundw
              case rel => exact ⟨m + 1, by omega, by go_num, Lib.hid (HTK.out.trans HNB.out), HS9.out⟩
              case measure => simp [intOf]; omega
            | true =>
              obtain ⟨hs1, hins, hbad⟩ := chkV_edges HGAP.out hp hq hgd (HCY.out hgd)
              have hpq := rplace_any _ _ _ _ HS9.out.pt (q : Int)
              have hpp := fun k => rplace_any wb.heap.size (wb.drewN k) _ _ HS9.out.pt (p : Int)
              have hin : ∀ k, Calls Tryd.prog 48 #[.slice Al l.length cl, .int .i64 (p : Int)] (wb.drewN k) fun en W' => ∃ vo, en = .returned (.tuple #[vo, .bool true]) ∧ Ints W'.heap.size W' vo hs1 ∧ Below wb.heap.size wb W' := fun k => by
                have hel : Els (fun b => b < wb.heap.size) wb (.slice Al l.length cl) l := HS9.out.el
                have h1 := rinside_any hel (p : Int) (wb.drewN k) (fun _ _ => rfl) (fun _ h => h) (by have := HLEN.out; omega)
                rw [hins] at h1
                refine h1.mono ?_
                rintro en W' ⟨vo, h2, h3, h4⟩
                exact ⟨vo, h2, Ints.ofOwn h3, (below_drewN' (Below.refl _ _) k).trans h4⟩
              have HPQ := Lib.hid hpq
              have HPP := Lib.hid hpp
              have HIN := Lib.hid hin
              have HBAD := Lib.hid hbad
              have hcr : ∀ k, (wb.drewN k).cell? (ar.add p) = some (.bool true) := fun k => hcl
              clear hgd hins hpq hpp hin hbad
              generalize idxI (ptsL l) (p : Int) = ip at *
              generalize idxI (ptsL l) (q : Int) = iq at *
              by_cases hle : iq ≤ ip
              · have hd : decide (ip < iq) = false := by rw [decide_eq_false_iff_not]; omega
                have hcon := idxI_contains hs1 (q : Int)
                have HLE : Hid (decide (iq ≤ ip) = true) := Lib.hid (decide_eq_true hle)
                clear hle
                go_upto_region 19 with (first
                  | (go_at_call 47; (with_reducible refine HPQ.out.mono ?_); rintro en w5 ⟨rfl, k5, rfl⟩)
                  | (go_at_call 47; (with_reducible refine (HPP.out _).mono ?_); rintro en w6 ⟨rfl, k6, rfl⟩)
                  | (go_at_call 48; refine (HIN.out _).mono ?_; rintro en w7 ⟨vi, rfl, hvi, hb7⟩))
                have hs7 := HS9.out.step hb7
                have hpi := rplace_any _ _ _ _ hvi (q : Int)
                have HPI := Lib.hid hpi
                have HS7 := Lib.hid hs7
                clear hvi hpi hs7 hb7 hcl hcr
                cases hcb : hs1.contains (q : Int) with
                | true =>
                  rw [hcb] at hcon
                  have hnb : badEdge' R (ptsL l) (walkL l []) (p, q) = false := by rw [HBAD.out, HLE.out, hcb]; rfl
                  have HNB := Lib.hid hnb
                  clear hnb hcb
                  generalize idxI hs1 (q : Int) = iz at *
                  have hz : decide (iz < 0) = false := by rw [decide_eq_false_iff_not]; have := of_decide_eq_true hcon; omega
                  go_wp2_with (go_at_call 47; refine HPI.out.mono ?_; rintro en w8 ⟨rfl, k8, rfl⟩)
                  go_roundw
                  case rel => exact ⟨m + 1, by omega, by go_num, Lib.hid (HTK.out.trans HNB.out), HS7.out.step (below_drewN' (Below.refl _ _) k8)⟩
                  case measure => simp [intOf]; omega
                | false =>
                  rw [hcb] at hcon
                  have hck : chkV R.length E R l = 14 := chkV_edge HER.out HGAP.out (HTB.out (by rw [HBAD.out, HLE.out, hcb]; rfl))
                  have HCK := Lib.hid hck
                  clear hck hcb
                  generalize idxI hs1 (q : Int) = iz at *
                  have hz : decide (iz < 0) = true := by rw [decide_eq_true_iff]; have := of_decide_eq_false hcon; omega
                  go_wp2_with (go_at_call 47; refine HPI.out.mono ?_; rintro en w8 ⟨rfl, k8, rfl⟩)
                  go_ret
                  exact ⟨by rw [HCK.out]; rfl, below_drewN' HS7.out.g.bel k8⟩
              · have hd : decide (ip < iq) = true := by rw [decide_eq_true_iff]; omega
                have hnb : badEdge' R (ptsL l) (walkL l []) (p, q) = false := by rw [HBAD.out, decide_eq_false hle]; rfl
                have HNB := Lib.hid hnb
                clear hnb hle
                go_wp2_with (first
                  | (go_at_call 47; (with_reducible refine HPQ.out.mono ?_); rintro en w5 ⟨rfl, k5, rfl⟩)
                  | (go_at_call 47; (with_reducible refine (HPP.out _).mono ?_); rintro en w6 ⟨rfl, k6, rfl⟩))
                go_roundw
                case rel => exact ⟨m + 1, by omega, by go_num, Lib.hid (HTK.out.trans HNB.out), HS9.out.step (below_drewN' (Below.refl _ _) _)⟩
                case measure => simp [intOf]; omega
          · obtain rfl : m = E.length := by omega
            have hbd := HM.out
            rw [List.take_length] at hbd
            have hck := chkV_ok HER.out HGAP.out hbd
            have HCK := Lib.hid hck
            have hbe := hs.g.bel
            clear hck hbd hs HM
            go_wp2
            go_ret
            exact ⟨by rw [HCK.out]; rfl, hbe⟩
  · have hck : chkV R.length E R l = eachErr R.length R [] (walkL l []) := chkV_err her
    have HCK := Lib.hid hck
    have hea2 : Calls Tryd.prog 46 #[.slice Al l.length cl, .slice Ar R.length cr, .slice none 0 0] w2 fun en W' => ∃ vo, en = .returned (.tuple #[vo, .int .i64 (eachErr R.length R [] (walkL l []))]) ∧ Below w2.heap.size w2 W' := hea.mono fun en W' ⟨vo, h1, h2, h3⟩ => ⟨vo, h1, h3⟩
    clear hck hea
    revert her HCK hea2
    generalize eachErr R.length R [] (walkL l []) = er
    intro her HCK hea2
    have HEA := Lib.hid hea2
    have hne : (er == 0) = false := by simpa using her
    have hbe := hg2.bel
    clear hea2 he2 hvr hg0 hg1 hg2 hw1 hw2
    go_wp2_with (go_at_call 46; refine HEA.out.mono ?_; rintro en w3 ⟨vp, rfl, hw3⟩)
    go_ret
    exact ⟨by rw [HCK.out]; rfl, hbe.trans (hw3.mono hbe.size)⟩

set_option maxRecDepth 100000 in
set_option maxHeartbeats 1000000 in
theorem rcheckw_bad (w : World) (v lv : Value) (n exit : Int) (es : List (Int × Int)) (hv : Edges w.heap.size w v es) (hc : chk n exit es ≠ 0) :
    Calls Tryd.prog 18 #[.agg #[.int .i64 n, .int .i64 exit, v], lv] w fun en w' => en = .returned (.int .i64 (chk n exit es)) ∧ Below w.heap.size w w' := by
  have hrc := fun (W : World) (h : GV w W n exit v) => rcheck_any W.heap.size W n exit v es (h.edges hv) (Nat.le_refl _)
  have hg0 := GV.start w n exit v
  obtain ⟨A, c, rfl, hlc, -, hm, -⟩ := hv.shape
  clear hv
  revert hc hrc
  generalize chk n exit es = e
  intro hc hrc
  have hne : (e == 0) = false := by simpa using hc
  have HRC := Lib.hid hrc
  clear hrc
  go_enter Tryd.func18, Tryd.ntmps18
  go_wp2_with (go_at_call 41; refine (HRC.out _ hg0).mono ?_; rintro en w1 ⟨rfl, hw1⟩; have hg1 := hg0.step hw1)
  go_ret
  exact ⟨rfl, hg1.bel⟩
theorem bools_ext {a b : List Bool} (hl : a.length = b.length) (h : ∀ x, a.getD x false = true ↔ b.getD x false = true) : a = b := by
  refine List.ext_getElem hl fun i h1 h2 => ?_
  have := h i
  rw [List.getD_eq_getElem?_getD, List.getD_eq_getElem?_getD, List.getElem?_eq_getElem h1, List.getElem?_eq_getElem h2] at this
  simp only [Option.getD_some] at this
  cases ha : a[i] <;> cases hb : b[i] <;> simp_all

set_option maxRecDepth 100000 in
set_option maxHeartbeats 4000000 in
theorem checks_same (w : World) (v : Value) (n exit : Int) (es : List (Int × Int)) (hv : Edges w.heap.size w v es) (l : List El) (hlen : (ptsL l).length ≤ 60) :
    ∃ x : Int, (∀ (W : World) (lv : Value), GV w W n exit v → EL W lv l → Calls Tryd.prog 17 #[.agg #[.int .i64 n, .int .i64 exit, v], lv] W fun en w' => en = .returned (.int .i64 x) ∧ Below W.heap.size W w') ∧
      (∀ (W : World) (lv : Value), GV w W n exit v → EL W lv l → Calls Tryd.prog 18 #[.agg #[.int .i64 n, .int .i64 exit, v], lv] W fun en w' => en = .returned (.int .i64 x) ∧ Below W.heap.size W w') := by
  by_cases hc : chk n exit es = 0
  · obtain ⟨N, E, rfl, rfl, hg⟩ := chk_ok hc
    obtain ⟨kd, t, ht1, ht2, ht3, ht4⟩ := reach_wto hg
    have hn1 := hg.n1
    obtain ⟨o, ho1, ho2, ho3⟩ := reached_total hg.lt hn1 (-1) (Nat.lt_succ_self N)
    have ho : o = t.1 := bools_ext (ho2.trans ht3.symm) fun x => by
      rw [ho3, ht4, ← hg.nx_sE]
      exact ⟨fun h => h.mono fun _ _ => trivial, fun h => h.mono fun _ _ => by omega⟩
    subst ho
    have hreach : ∀ (W : World), GV w W (N : Int) exit v → Calls Tryd.prog 25 #[.agg #[.int .i64 (N : Int), .int .i64 exit, v], .int .i64 0] W fun en w' => ∃ vo, en = .returned (.tuple #[vo, .int .i64 0]) ∧ Bools w'.heap.size w' vo t.1 ∧ Below W.heap.size W w' := fun W h =>
      reachable_ok W.heap.size W v N exit E (h.edges hv) (Nat.le_refl _) hg 0 hg.n1 kd t ht1 ht2
    refine ⟨chkV N E t.1 l, fun W lv h he => ?_, fun W lv h he => ?_⟩
    · exact check_ok W.heap.size W v lv N exit E l (h.edges hv) (Nat.le_refl _) hg t.1 ht3 (fun w1 h1 => hreach w1 (h.step h1)) he (fun _ h => h) (by omega)
    · refine rcheckw_ok W v lv N exit E l (h.edges hv) hg he t.1 ht3 (fun u y hx hu => (ht4 y).2 (.step ((ht4 u).1 hu) (mem_sE.2 hx) trivial)) (fun W1 h1 => ?_) (by omega)
      refine (reached_any W1.heap.size W1 v N exit E (h1.edges (h.edges hv)) (Nat.le_refl _) hg.n512 hg.lt hg.len 0 hn1 (-1) (N + 1) t.1 ho1).mono ?_
      rintro en w' ⟨g, rfl, hb, hg1, hb2⟩
      refine ⟨_, rfl, ?_, hb2⟩
      have h512 := hg.n512
      have hsl := Sl.of_blk (R := RBool) Value.bool (fun _ _ => rfl) hb (c := N) (by omega) (by unfold maxLen; omega) (B := w'.heap.size) hb.lt
      rw [ht3] at hsl
      exact hsl
  · exact ⟨chk n exit es, fun W lv h he => check_bad W.heap.size W v lv n exit es (h.edges hv) (Nat.le_refl _) hc, fun W lv h he => rcheckw_bad W v lv n exit es (h.edges hv) hc⟩

set_option maxRecDepth 100000 in
set_option maxHeartbeats 4000000 in
theorem checksL_any (w : World) (v : Value) (n exit : Int) (es : List (Int × Int)) (hv : Edges w.heap.size w v es) (lv : Value) (l : List El) (h : EL w lv l) :
    Calls Tryd.prog 4 #[.agg #[.int .i64 n, .int .i64 exit, v], lv] w fun en w' => en = .returned (.bool true) ∧ Below w.heap.size w w' := by
  have hfw := fun (W : World) (h : GV w W n exit v) => few_any W.heap.size W n exit v es (h.edges hv)
  have hg0 := GV.start w n exit v
  have HF := Lib.hid hfw
  have H0 := Lib.hid h
  by_cases hp : (ptsL l).length ≤ 60
  · obtain ⟨x, hA, hB⟩ := checks_same w v n exit es hv l hp
    have HA := Lib.hid hA
    have HB := Lib.hid hB
    have hd : decide ((ptsL l).length ≤ 60) = true := decide_eq_true hp
    have HD := Lib.hid hd
    obtain ⟨A, c, rfl, hlc, -, hm, -⟩ := hv.shape
    clear hfw h hv hp hA hB hd
    cases hb : few n es with
    | false =>
      rw [hb] at HF
      clear hb
      go_enter Tryd.func4, Tryd.ntmps4
      go_wp2_with (first
        | (go_at_call 10; refine (HF.out _ hg0).mono ?_; rintro en w1 ⟨rfl, hw1⟩; have hg1 := hg0.step hw1)
        | (go_at_call 11; refine (awake_any w1).mono ?_; rintro en w2 ⟨rfl, hw2⟩; have hg2 := hg1.step hw2))
      go_ret
      exact ⟨rfl, hg2.bel⟩
    | true =>
      rw [hb] at HF
      clear hb
      go_enter Tryd.func4, Tryd.ntmps4
      go_upto_region 3 with (first
        | (go_at_call 10; refine (HF.out _ hg0).mono ?_; rintro en w1 ⟨rfl, hw1⟩; have hg1 := hg0.step hw1)
        | (go_at_call 16; refine (few_el (EL.step H0.out hg1.bel) (fun _ h => h)).mono ?_; rintro en w2 ⟨rfl, hw2⟩; rw [HD.out]; have hg2 := hg1.step hw2))
      have hgd := hg2.drew
      have hed : EL w2.drew lv l := EL.step H0.out hgd.bel
      obtain ⟨c0, c1, c2⟩ := hgd.cells
      clear hg0 hg1 hg2 hw1 hw2
      go_region_held3 (fun w' => w'.cell? ⟨w.heap.size, 0, none⟩ = some (.int .i64 n) ∧ w'.cell? ⟨w.heap.size, 1, none⟩ = some (.int .i64 exit) ∧ w'.cell? ⟨w.heap.size, 2, none⟩ = some (.slice A es.length c))
        (first | exact hg6.cells | exact hg5.cells | exact hg4.cells | exact hg3.cells | exact ⟨c0, c1, c2⟩)
        (first
          | (go_at_call 17; refine (HA.out w2.drew lv hgd hed).mono ?_; rintro en w3 ⟨rfl, hw3⟩; have hg3 := hgd.step hw3; have he3 := EL.step hed hw3)
          | (go_at_call 15; refine (of_any he3 w3 (fun _ _ => rfl) (fun _ h => h)).mono ?_; rintro en w4 ⟨vo, rfl, hvo, hw4⟩; have hg4 := hg3.step hw4; have ho4 : EL w4 vo l := hvo.mono (fun b hb => hb.2.lt))
          | (go_at_call 18; refine (HB.out w4 vo hg4 ho4).mono ?_; rintro en w5 ⟨rfl, hw5⟩; have hg5 := hg4.step hw5)
          | (go_at_call 11; refine (awake_any w5).mono ?_; rintro en w6 ⟨rfl, hw6⟩; have hg6 := hg5.step hw6))
      go_wp2
      go_ret
      exact ⟨rfl, hg6.bel⟩
  · have hd : decide ((ptsL l).length ≤ 60) = false := decide_eq_false hp
    have HD := Lib.hid hd
    obtain ⟨A, c, rfl, hlc, -, hm, -⟩ := hv.shape
    clear hfw h hv hp hd
    cases hb : few n es with
    | false =>
      rw [hb] at HF
      clear hb
      go_enter Tryd.func4, Tryd.ntmps4
      go_wp2_with (first
        | (go_at_call 10; refine (HF.out _ hg0).mono ?_; rintro en w1 ⟨rfl, hw1⟩; have hg1 := hg0.step hw1)
        | (go_at_call 11; refine (awake_any w1).mono ?_; rintro en w2 ⟨rfl, hw2⟩; have hg2 := hg1.step hw2))
      go_ret
      exact ⟨rfl, hg2.bel⟩
    | true =>
      rw [hb] at HF
      clear hb
      go_enter Tryd.func4, Tryd.ntmps4
      go_wp2_with (first
        | (go_at_call 10; refine (HF.out _ hg0).mono ?_; rintro en w1 ⟨rfl, hw1⟩; have hg1 := hg0.step hw1)
        | (go_at_call 16; refine (few_el (EL.step H0.out hg1.bel) (fun _ h => h)).mono ?_; rintro en w2 ⟨rfl, hw2⟩; rw [HD.out]; have hg2 := hg1.step hw2)
        | (go_at_call 11; refine (awake_any w2).mono ?_; rintro en w3 ⟨rfl, hw3⟩; have hg3 := hg2.step hw3))
      go_ret
      exact ⟨rfl, hg3.bel⟩
end Go.Proofs.YthaampinmelgaaaDoor

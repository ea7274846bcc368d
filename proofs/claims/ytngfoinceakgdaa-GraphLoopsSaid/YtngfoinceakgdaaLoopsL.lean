/- The law GraphLoops, walked: Natural, the plain laws, Loops, the law. -/
import Derived.Test.YtngfoinceakgdaaRefLoop
import Derived.Test.YtngfoinceakgdaaHeadsL
import Derived.Test.YtngfoinceakgdaaAwake
/-! The reference: Natural. -/
namespace Go.Proofs.Ytngfoinceakgdaa
open Go.RowKit Go.Shelf

/-- The heads of the back edges. -/
def headB (E : List (Nat × Nat)) (bs : List Nat) (p : Nat) : Bool := bs.any fun e => (E.getD e (0, 0)).2 == p
theorem headB_succ {E : List (Nat × Nat)} {bs : List Nat} {k e : Nat} (he : bs[k]? = some e) (p : Nat) : headB E (bs.take (k + 1)) p = (headB E (bs.take k) p || (E.getD e (0, 0)).2 == p) := by
  obtain ⟨hk, rfl⟩ := List.getElem?_eq_some_iff.1 he
  unfold headB
  rw [List.take_succ_eq_append_getElem hk, List.any_append]
  simp
noncomputable def natL (n : Nat) (E : List (Nat × Nat)) (bs : List Nat) (m : Nat) : List (Nat × List Nat) := ((List.range m).filter (headB E bs)).map fun p => (p, (List.range n).filter (inF n E p bs))
theorem backw_lt {D : Nat → Nat → Bool} {E : List (Nat × Nat)} {k e : Nat} (h : e ∈ backw D E k) : e < k := List.mem_range.1 (List.mem_filter.1 h).1

structure NaS (w W : World) (n exit : Int) (v : Value) (m hb : Nat) (F : Nat → Bool) : Prop where
  gv : GV w W n exit v
  i : Blk W hb 4 (boolRow m F)
  lo : w.heap.size < hb
section
variable {w W W' : World} {n exit : Int} {v : Value} {m hb : Nat} {F F' : Nat → Bool}
theorem NaS.step (h : NaS w W n exit v m hb F) (hw : Below W.heap.size W W') : NaS w W' n exit v m hb F := ⟨h.gv.step hw, h.i.below hw h.i.lt, h.lo⟩
theorem NaS.drewN (h : NaS w W n exit v m hb F) (k : Nat) : NaS w (W.drewN k) n exit v m hb F := ⟨h.gv.drewN k, h.i, h.lo⟩
theorem NaS.set (h : NaS w W n exit v m hb F) (j : Nat) (b : Bool) : NaS w (W.setCell ⟨hb, j, none⟩ (.bool b)) n exit v m hb (fun x => if x = j then b else F x) := by
  have h1 := h.lo
  refine ⟨⟨h.gv.g.far (by show w.heap.size ≠ hb; omega) _, h.gv.bel.setCell (by show w.heap.size ≤ hb; omega) _⟩, ?_, h1⟩
  have h3 := h.i.set j (.bool b)
  rw [boolRow_set] at h3
  exact h3
theorem NaS.congr (h : NaS w W n exit v m hb F) (hF : ∀ j, j < m → F j = F' j) : NaS w W n exit v m hb F' := ⟨h.gv, by rw [← boolRow_congr hF]; exact h.i, h.lo⟩
end

theorem info_rloop : (Try.prog.info? 46).map (fun i => (i.zero, i.size, i.bytes)) = some (some (.agg #[.int .i64 0, .slice none 0 0]), 2, 32) := by kernel_rfl
theorem LV.ofR {w : World} {base base' : Nat} {v : Value} {ls : List (Nat × List Nat)} {pvs : List Value} (h : w.ownsRow base 46 2 v ls.length (loopCells (ls.map Prod.fst) pvs)) (hf : Fam 3 w base' pvs (ls.map Prod.snd)) : LV w.heap.size w v ls := by
  rcases h.2 with ⟨rfl, hn⟩ | ⟨g, cap, cur, rfl, _, hh, h1, h2, h3, h4⟩
  · have : ls = [] := List.eq_nil_of_length_eq_zero hn
    subst this
    exact ⟨none, 0, rfl, by simp, by simp [maxLen], fun j x hx => by simp at hx⟩
  · refine ⟨_, cap, rfl, h1, h2, fun j x hx => ?_⟩
    have hl : pvs.length = ls.length := by have := hf.len; simpa using this
    have hj : j < ls.length := (List.getElem?_eq_some_iff.1 hx).1
    obtain ⟨u, hu⟩ : ∃ u, pvs[j]? = some u := ⟨_, List.getElem?_eq_getElem (by rw [hl]; exact hj)⟩
    have hg := loopCells_get (ls.map Prod.fst) pvs j x.1 u (by rw [List.getElem?_map, hx]; rfl) hu
    refine ⟨_, u, rfl, lt_of_block hh, ?_, ?_, Sl.of_own natV (fun _ _ => rfl) (hf.own j u x.2 hu (by rw [List.getElem?_map, hx]; rfl))⟩
    · exact h.cells (g := g) rfl _ _ hg.1
    · exact h.cells (g := g) rfl _ _ hg.2
structure NLS (w5 W : World) (vl : Value) (ls : List (Nat × List Nat)) (pvs : List Value) : Prop where
  own : W.ownsRow w5.heap.size 46 2 vl ls.length (loopCells (ls.map Prod.fst) pvs)
  fam : Fam 3 W w5.heap.size pvs (ls.map Prod.snd)
  bel : Below w5.heap.size w5 W
theorem NLS.len {w5 W : World} {vl : Value} {ls : List (Nat × List Nat)} {pvs : List Value} (h : NLS w5 W vl ls pvs) : pvs.length = ls.length := by have := h.fam.len; simpa using this
theorem NLS.below {w5 W W' : World} {vl : Value} {ls : List (Nat × List Nat)} {pvs : List Value} (h : NLS w5 W vl ls pvs) (hb : Below W.heap.size W W') : NLS w5 W' vl ls pvs :=
  ⟨own_below h.own hb, h.fam.below hb, h.bel.trans (hb.mono h.bel.size)⟩
theorem natL_succ (n : Nat) (E : List (Nat × Nat)) (bs : List Nat) (m : Nat) : natL n E bs (m + 1) = natL n E bs m ++ if headB E bs m then [(m, (List.range n).filter (inF n E m bs))] else [] := by
  unfold natL
  rw [List.range_succ, List.filter_append, List.map_append, List.filter_cons]
  congr 1
  cases headB E bs m <;> rfl
theorem natL_le (n : Nat) (E : List (Nat × Nat)) (bs : List Nat) (m : Nat) : (natL n E bs m).length ≤ m := by
  unfold natL
  rw [List.length_map]
  have := List.length_filter_le (headB E bs) (List.range m)
  simpa using this

set_option maxRecDepth 100000 in
set_option maxHeartbeats 4000000 in
theorem natural_any (B : Nat) (w : World) (v : Value) (n : Nat) (exit : Int) (E : List (Nat × Nat)) (hv : Edges B w v (castE E)) (hB : B ≤ w.heap.size) (hn : n ≤ 512) (hn1 : 0 < n) (hE : ∀ x ∈ E, x.1 < n ∧ x.2 < n) (hlE : E.length ≤ 1024) :
    Calls Try.prog 59 #[.agg #[.int .i64 (n : Int), .int .i64 exit, v]] w fun en w' => ∃ vo, en = .returned vo ∧ LV w'.heap.size w' vo (natL n E (backw (domB n E 0) E E.length) n) ∧ Below w.heap.size w w' := by
  obtain ⟨A, c, rfl, hlc, -, hm, hes⟩ := id hv.shape
  have hlen0 : (castE E).length = E.length := castE_length E
  have hba := fun (W : World) (h1 : GV w W n exit (.slice A (castE E).length c)) => backward_any B W _ n exit E (hv.below (h1.bel.mono hB)) (by have := h1.bel.size; omega) hn hn1 hE hlE
  have hbl : ∀ e ∈ backw (domB n E 0) E E.length, e < E.length := fun e he => backw_lt he
  have hlo := fun (W : World) (h1 : GV w W n exit (.slice A (castE E).length c)) (bv : Value) (h2 : Nats W.heap.size W bv (backw (domB n E 0) E E.length)) (p : Nat) (hp : p < n) => loop_any W.heap.size W _ bv n exit E _ ((hv.below (h1.bel.mono hB)).more (by have := h1.bel.size; omega)) h2 (Nat.le_refl _) hn hE hlE hbl p hp
  rw [hlen0] at hlc hm hba hlo ⊢
  revert hbl hba hlo
  generalize backw (domB n E 0) E E.length = bs
  intro hba hbl hlo
  have HBA := Lib.hid hba
  have HLO := Lib.hid hlo
  have HE := Lib.hid (Edges.nat hes)
  have HEL := Lib.hid hE
  have HBL := Lib.hid hbl
  have hg0 := GV.start w n exit (.slice A E.length c)
  have hmk := make_one (P := Try.prog) 61 4 (.bool false) 1 Try.underlying61 info_bool rfl n (by omega) (by omega)
  clear hba hlo hlen0 hv hes hE hbl
  go_enter Try.func59, Try.ntmps59
  go_upto_region 2 with (go_at_call 57; refine (HBA.out _ hg0).mono ?_; rintro en w1 ⟨bv, rfl, hbv, hw1⟩)
  have hg1 := hg0.step hw1
  clear hg0 hw1 HBA
  obtain ⟨c0, c1, c2⟩ := hg1.cells
  obtain ⟨Ab, cb, rfl, hlb, -, hmb, hcb⟩ := id hbv.shape
  have HCB := Lib.hid hcb
  clear hcb
  have hs1 := hg1.g.lt
  go_upto_region 3 with fail
  have hns : NaS w (w1.alloc (.cells (List.replicate n (.bool false)).toArray 4)) n exit (.slice A E.length c) n w1.heap.size (headB E (bs.take 0)) := by
    refine ⟨hg1.alloc _, ?_, hs1⟩
    have := Blk.new w1 4 (List.replicate n (.bool false))
    rw [show boolRow n (headB E (bs.take 0)) = List.replicate n (.bool false) from boolRow_no n]
    exact this
  have hbel := (Below.refl w1.heap.size w1).alloc (Nat.le_refl _) (.cells (List.replicate n (.bool false)).toArray 4)
  simp only [List.toArray_replicate] at hns hbel
  clear hg1 c0 c1 c2 hmk
  revert hns hbel
  generalize w1.alloc (.cells (Array.replicate n (.bool false)) 4) = w2
  generalize hhb : w1.heap.size = hb
  intro hns hbel
  go_wp2
  go_loopw [5] (fun y wr => ∃ k : Nat, k ≤ bs.length ∧ y = .int .i64 k ∧ NaS w wr n exit (.slice A E.length c) n hb (headB E (bs.take k)) ∧ Below hb w1 wr) (fun y _ => bs.length - (intOf y).toNat)
  case atStart => exact ⟨0, Nat.zero_le _, rfl, hns, hbel⟩
  case round =>
    obtain ⟨k, hk, rfl, hp, hbw⟩ := hrel
    clear hns hbel
    by_cases hlt : k < bs.length
    · have hlt1 : (k : Int) < (bs.length : Int) := by omega
      have hbk : bs[k]? = some bs[k] := List.getElem?_eq_getElem hlt
      have hel := HBL.out _ (List.getElem_mem hlt)
      have hsu := headB_succ (E := E) hbk
      revert hbk hel hsu
      generalize bs[k] = e
      intro hbk hel hsu
      obtain ⟨adb, ub, rfl, hbb, hcb, hub⟩ := HCB.out k e hbk
      cases hub
      have hek : E[e]? = some E[e] := List.getElem?_eq_getElem hel
      have hft := HEL.out _ (List.getElem_mem hel)
      rw [List.getD_eq_getElem?_getD, hek] at hsu
      revert hek hft hsu
      generalize E[e] = x
      intro hsu hek hft
      simp only [Option.getD_some] at hsu
      obtain ⟨f, t⟩ := x
      obtain ⟨ade, cs, rfl, hab, hcl, hcc, hc0, hc1, hone⟩ := HE.out e _ hek
      have g1 := (hp.gv.bel.cell (p := (ade.add (e * 21)).add 1) (by rw [block_add, block_add]; omega)).trans (hcc 1 _ hc1)
      rw [addrOne] at g1
      have g0 := (hbw.cell (p := adb.add k) (by rw [block_add]; omega)).trans hcb
      have hel1 : (e : Int) < (E.length : Int) := by omega
      have hel2 : decide ((E.length : Int) ≤ (e : Int)) = false := by rw [decide_eq_false_iff_not]; omega
      have hel3 : decide (E.length ≤ e) = false := by rw [decide_eq_false_iff_not]; omega
      have ht1 : (t : Int) < (n : Int) := by have := hft.2; omega
      have c2 := hp.gv.g.cellAt (i := 2) rfl
      have HSU := Lib.hid hsu
      have htn := hft.2
      simp only at g1 htn
      clear hcc hcl hone hc0 hc1 hsu hek hbk hcb hft
      go_upto_region 6 with fail
      have hpd := hp.drewN 1
      have hbd := below_drewN' hbw 1
      have hHeld : (wr.drewN 1).cell? ⟨w.heap.size, 2, none⟩ = some (.slice (some ade) E.length c) ∧ (wr.drewN 1).cell? (adb.add k) = some (.int .i64 (e : Int)) ∧ (wr.drewN 1).cell? ⟨(ade.add (e * 21)).block, (ade.add (e * 21)).off + 1, none⟩ = some (.int .i64 (t : Int)) := ⟨c2, g0, g1⟩
      clear hp hbw c2 g0 g1
      refine wp_region_front (S := fun w' => w'.cell? ⟨w.heap.size, 2, none⟩ = some (.slice (some ade) E.length c) ∧ w'.cell? (adb.add k) = some (.int .i64 (e : Int)) ∧ w'.cell? ⟨(ade.add (e * 21)).block, (ade.add (e * 21)).off + 1, none⟩ = some (.int .i64 (t : Int))) 0 11 (by kernel_rfl) (by kernel_rfl) (by decide) rfl (by kernel_rfl) (by kernel_rfl) (fun _ _ _ h => h) (.inl ⟨by rfl, fun w' => by rfl⟩) ?_
      simp only [Act.put, List.setIfInBounds_toArray, List.set_cons_zero, List.set_cons_succ]
      change Front _ _ _ _ _ _ _ _ _ (wr.drewN 1)
      revert hpd hHeld hbd
      generalize wr.drewN 1 = wz
      intro hpd hbd hHeld
      refine Front.take 1 (v := ?_) rfl (by decide) (by kernel_rfl) (by kernel_rfl) (fun _ _ _ h => h) rfl hHeld ?_ ?_
      case refine_2 => intro w' hSw; obtain ⟨q1, q2, q3⟩ := hSw; go_simp <;> with_reducible rfl
      simp only [Act.put, List.setIfInBounds_toArray, List.set_cons_zero, List.set_cons_succ]
      refine Front.take 2 (v := ?_) rfl (by decide) (by kernel_rfl) (by kernel_rfl) (fun _ _ _ h => h) rfl hHeld ?_ ?_
      case refine_2 => intro w' hSw; obtain ⟨q1, q2, q3⟩ := hSw; go_simp <;> with_reducible rfl
      simp only [Act.put, List.setIfInBounds_toArray, List.set_cons_zero, List.set_cons_succ]
      refine Front.take 3 (v := ?_) rfl (by decide) (by kernel_rfl) (by kernel_rfl) (fun _ _ _ h => h) rfl hHeld ?_ ?_
      case refine_2 => intro w' hSw; obtain ⟨q1, q2, q3⟩ := hSw; go_simp <;> with_reducible rfl
      simp only [Act.put, List.setIfInBounds_toArray, List.set_cons_zero, List.set_cons_succ]
      refine Front.take 4 (v := ?_) rfl (by decide) (by kernel_rfl) (by kernel_rfl) (fun _ _ _ h => h) rfl hHeld ?_ ?_
      case refine_2 => intro w' hSw; obtain ⟨q1, q2, q3⟩ := hSw; go_simp <;> with_reducible rfl
      simp only [Act.put, List.setIfInBounds_toArray, List.set_cons_zero, List.set_cons_succ]
      refine Front.take 5 (v := ?_) rfl (by decide) (by kernel_rfl) (by kernel_rfl) (fun _ _ _ h => h) rfl hHeld ?_ ?_
      case refine_2 => intro w' hSw; obtain ⟨q1, q2, q3⟩ := hSw; go_simp <;> with_reducible rfl
      simp only [Act.put, List.setIfInBounds_toArray, List.set_cons_zero, List.set_cons_succ]
      refine Front.take 6 (v := ?_) rfl (by decide) (by kernel_rfl) (by kernel_rfl) (fun _ _ _ h => h) rfl hHeld ?_ ?_
      case refine_2 => intro w' hSw; obtain ⟨q1, q2, q3⟩ := hSw; go_simp <;> with_reducible rfl
      simp only [Act.put, List.setIfInBounds_toArray, List.set_cons_zero, List.set_cons_succ]
      refine Front.take 7 (v := ?_) rfl (by decide) (by kernel_rfl) (by kernel_rfl) (fun _ _ _ h => h) rfl hHeld ?_ ?_
      case refine_2 => intro w' hSw; obtain ⟨q1, q2, q3⟩ := hSw; go_simp <;> with_reducible rfl
      simp only [Act.put, List.setIfInBounds_toArray, List.set_cons_zero, List.set_cons_succ]
      refine Front.take 8 (v := ?_) rfl (by decide) (by kernel_rfl) (by kernel_rfl) (fun _ _ _ h => h) rfl hHeld ?_ ?_
      case refine_2 => intro w' hSw; obtain ⟨q1, q2, q3⟩ := hSw; go_simp <;> with_reducible rfl
      simp only [Act.put, List.setIfInBounds_toArray, List.set_cons_zero, List.set_cons_succ]
      refine Front.take 9 (v := ?_) rfl (by decide) (by kernel_rfl) (by kernel_rfl) (fun _ _ _ h => h) rfl hHeld ?_ ?_
      case refine_2 => intro w' hSw; obtain ⟨q1, q2, q3⟩ := hSw; go_simp <;> with_reducible rfl
      simp only [Act.put, List.setIfInBounds_toArray, List.set_cons_zero, List.set_cons_succ]
      refine Front.take 10 (v := ?_) rfl (by decide) (by kernel_rfl) (by kernel_rfl) (fun _ _ _ h => h) rfl hHeld ?_ ?_
      case refine_2 => intro w' hSw; obtain ⟨q1, q2, q3⟩ := hSw; go_simp <;> with_reducible rfl
      simp only [Act.put, List.setIfInBounds_toArray, List.set_cons_zero, List.set_cons_succ]
      refine Front.done (by kernel_rfl) ?_
      simp only [List.drop_succ_cons, List.drop_zero]
      have d1 := hpd.i.cellAt (boolRow_at htn)
      have f1 := hpd.i.frozen t
      have hs := (hpd.set t true).congr (F' := headB E (bs.take (k + 1))) (fun j _ => by
        show (if j = t then true else headB E (bs.take k) j) = headB E (bs.take (k + 1)) j
        rw [HSU.out j]
        by_cases e1 : j = t
        · subst e1; simp
        · rw [if_neg e1, show (t == j) = false by simpa using fun h => e1 h.symm, Bool.or_false])
      have hbs := hbd.setCell (p := ⟨hb, t, none⟩) (by show hb ≤ hb; omega) (.bool true)
      have HS := Lib.hid hs
      clear hs hpd hHeld hbd
      go_wp2
      go_roundw
      case rel => exact ⟨k + 1, by omega, by go_num, HS.out, hbs⟩
      case measure => simp [intOf]; omega
    · obtain rfl : k = bs.length := by omega
      rw [List.take_length] at hp
      have hbv5 := (Sl.keep (w' := wr) hbv (fun q hq => hbw.cell (by rw [← hhb]; exact hq)) (fun _ _ e => e)).more (by have := hp.i.lt; rw [← hhb] at this; exact Nat.le_of_lt this)
      obtain ⟨w5, rfl⟩ : ∃ w5 : World, w5 = wr := ⟨_, rfl⟩
      have HBV := Lib.hid hbv5
      clear HE HEL HBL HCB hlt hk hbv hbv5 hbw
      go_wp2
      go_loopw [6, 7] (fun x y wr => ∃ (p : Nat) (vo : Value) (pvs : List Value), p ≤ n ∧ vo = x ∧ y = .int .i64 p ∧ NLS w5 wr vo (natL n E bs p) pvs) (fun _ y _ => n - (intOf y).toNat)
      case atStart => exact ⟨0, _, [], Nat.zero_le _, rfl, rfl, World.ownsRow_nil _ _ _ _, ⟨rfl, fun i v l h => by simp at h, fun i j u v h => by simp at h⟩, Below.refl _ _⟩
      case round =>
        obtain ⟨p, vo, pvs, hpn, rfl, rfl, hq⟩ := hrel
        have hna := hp.step hq.bel
        obtain ⟨c0, c1, c2⟩ := hna.gv.cells
        by_cases hlt : p < n
        · have hlt1 : (p : Int) < (n : Int) := by omega
          have d1 := hna.i.cellAt (boolRow_at hlt)
          have hsu := natL_succ n E bs p
          have hle := natL_le n E bs p
          revert d1 hsu
          generalize headB E bs p = b
          intro d1 hsu
          have HSU := Lib.hid hsu
          clear hsu
          cases b with
          | false =>
            have hq2 : NLS w5 wr vo (natL n E bs (p + 1)) pvs := by rw [HSU.out]; simpa using hq
            have HQ := Lib.hid hq2
            clear hq hq2 hna
            go_wp2
            go_roundw
            case rel => exact ⟨p + 1, vo, pvs, by omega, rfl, by go_num, HQ.out⟩
            case measure => simp [intOf]; omega
          | true =>
            have hbvr := (Sl.keep (w' := wr) HBV.out (fun q hq3 => hq.bel.cell hq3) (fun _ _ e => e)).more hq.bel.size
            have hloop := HLO.out wr hna.gv _ hbvr p hlt
            have HLP := Lib.hid hloop
            clear hloop hbvr
            revert HSU HLP hle
            generalize natL n E bs p = ls at hq ⊢
            generalize (List.range n).filter (inF n E p bs) = pts
            intro hle HSU HLP
            obtain ⟨il, hil, hz0, hz1, hz2⟩ := info_parts info_rloop
            have hkit : ∀ (W : World) (vp : Value), W.ownsRow wr.heap.size 3 1 vp pts.length (pts.map natV) → Below wr.heap.size wr W → ∃ Ap cp, vp = .slice Ap pts.length cp ∧ (W.alloc (.cells #[.int .i64 (p : Int), .slice Ap pts.length cp] 46)).ownsRow w5.heap.size 46 2 vo ls.length (loopCells (ls.map Prod.fst) pvs) ∧
                Fam 3 (W.alloc (.cells #[.int .i64 (p : Int), .slice Ap pts.length cp] 46)) w5.heap.size (pvs ++ [.slice Ap pts.length cp]) (ls.map Prod.snd ++ [pts]) ∧ Below w5.heap.size w5 (W.alloc (.cells #[.int .i64 (p : Int), .slice Ap pts.length cp] 46)) ∧
                Blk (W.alloc (.cells #[.int .i64 (p : Int), .slice Ap pts.length cp] 46)) W.heap.size 46 [.int .i64 (p : Int), .slice Ap pts.length cp] := fun W vp h1 h2 => by
              obtain ⟨Ap, cp, rfl⟩ := own_slice h1
              have hq6 := hq.below h2
              refine ⟨Ap, cp, rfl, hq6.own.alloc _, ?_, hq6.bel.alloc hq6.bel.size _, Blk.newAt W 46 #[.int .i64 (p : Int), .slice Ap pts.length cp] rfl⟩
              refine (hq6.fam.snoc (fam_single h1) hq.bel.size fun u hu b hb => ?_).alloc _
              obtain ⟨i, hi⟩ := List.mem_iff_getElem?.1 hu
              exact (hq.fam.lt hi hb).2
            have HK := Lib.hid hkit
            clear hkit
            go_wp2_with (first
              | (go_at_call 79; refine HLP.out.mono ?_; rintro en w6 ⟨vp, rfl, hown6, hw6⟩; obtain ⟨Ap, cp, rfl, hownA, hfsA, hbA, hnb⟩ := HK.out w6 vp hown6 hw6)
              | (at_builtin; refine wpList_append_lies _ rfl (.tmp 40) (.tmp 47) 37 rfl w5.heap.size 46 il (.agg #[.int .i64 0, .slice none 0 0]) 2 32 Try.underlying37 hil hz0 hz1 hz2 rfl (by decide) vo ls.length _ rfl hownA ⟨w6.heap.size, 0, none⟩ 1 1 [.int .i64 (p : Int), .slice Ap pts.length cp] rfl rfl (fun q u hq => by rw [add_none]; exact hnb.cellAt hq) ?c2 (by decide) ?c3 ?c4 hbA.size _ rfl ?_))
            case c2 => intro u hu; simp at hu; rcases hu with rfl | rfl <;> rfl
            case c3 => unfold maxLen; omega
            case c4 => omega
            intro g c' wz hown hgr _ _
            have hF := hfsA.grown hgr (fun b hb u hu he => by
              obtain ⟨i, hi⟩ := List.mem_iff_getElem?.1 hu
              obtain ⟨lx, _, hox⟩ := hfsA.get hi
              rcases own_types hox hownA (by decide) with h | h
              · rw [h] at he; cases he
              · exact h (he.trans hb.symm))
            have hbz := hbA.grown hgr hbA.size (fun b hb => (hownA.lt b hb).1)
            rw [← loopCells_snoc _ _ _ _ (by have := hq.len; simpa using this)] at hown
            have hlsz : NLS w5 wz (.slice (some ⟨g, 0, none⟩) (ls.length + 1) c') (ls ++ [(p, pts)]) (pvs ++ [.slice Ap pts.length cp]) := ⟨by simpa using hown, by simpa using hF, hbz⟩
            have hsu := HSU.out
            simp only [if_true] at hsu
            rw [← hsu] at hlsz
            have HLZ := Lib.hid hlsz
            clear hown hF hbz hlsz hsu
            go_wp2
            go_roundw
            case rel => exact ⟨p + 1, _, _, by omega, rfl, by go_num, HLZ.out⟩
            case measure => simp [intOf]; omega
        · obtain rfl : p = n := by omega
          have hlv := LV.ofR hq.own hq.fam
          have HL := Lib.hid hlv
          have hbe := hna.gv.bel
          clear hlv hna hq
          go_wp2
          go_ret
          exact ⟨_, rfl, HL.out, hbe⟩
end Go.Proofs.Ytngfoinceakgdaa

/-! Plain laws: the reference's back edges, loops and cycles are those of the program. No program here. -/
namespace Go.Proofs.Ytngfoinceakgdaa
open Go.RowKit Go.Shelf

theorem backw_backs (n : Nat) (E : List (Nat × Nat)) : backw (domB n E 0) E E.length = backsOf n E := by
  unfold backw backsOf
  refine List.filter_congr fun e _ => ?_
  exact eq_bP domB_iff
theorem headB_tails {E : List (Nat × Nat)} {bl : List Nat} {q : Nat} : headB E bl q = true ↔ tailsOf E bl q ≠ [] := by
  unfold headB
  rw [List.any_eq_true]
  constructor
  · rintro ⟨e, he, h⟩
    exact List.ne_nil_of_mem (mem_tails.2 ⟨e, he, by simpa using h, rfl⟩)
  · intro h
    obtain ⟨a, ha⟩ := List.exists_mem_of_ne_nil _ h
    obtain ⟨e, he, h1, -⟩ := mem_tails.1 ha
    exact ⟨e, he, by simpa using h1⟩
theorem inF_iff {n : Nat} {E : List (Nat × Nat)} {h p : Nat} : ∀ (bs : List Nat) (F : Nat → Bool), bs.foldl (inStep n E h) F p = true ↔ F p = true ∨ ((∃ a ∈ tailsOf E bs h, rB n (swapE E) h a p = true) ∧ rB n E (-1) 0 p = true)
  | [], F => by simp [tailsOf]
  | e :: bs, F => by
    rw [List.foldl_cons, inF_iff bs]
    have ht : ∀ a, a ∈ tailsOf E (e :: bs) h ↔ ((E.getD e (0, 0)).2 = h ∧ a = (E.getD e (0, 0)).1) ∨ a ∈ tailsOf E bs h := fun a => by
      rw [mem_tails, mem_tails]
      constructor
      · rintro ⟨x, hx, h1, h2⟩
        rcases List.mem_cons.1 hx with rfl | hx
        · exact .inl ⟨h1, h2.symm⟩
        · exact .inr ⟨x, hx, h1, h2⟩
      · rintro (⟨h1, h2⟩ | ⟨x, hx, h1, h2⟩)
        · exact ⟨e, List.mem_cons_self, h1, h2.symm⟩
        · exact ⟨x, List.mem_cons_of_mem _ hx, h1, h2⟩
    unfold inStep
    by_cases hh : (E.getD e (0, 0)).2 = h
    · rw [if_pos hh]
      simp only [Bool.or_eq_true, Bool.and_eq_true]
      constructor
      · rintro ((h1 | ⟨h1, h2⟩) | ⟨⟨a, ha, h1⟩, h2⟩)
        · exact .inl h1
        · exact .inr ⟨⟨_, (ht _).2 (.inl ⟨hh, rfl⟩), h1⟩, h2⟩
        · exact .inr ⟨⟨a, (ht a).2 (.inr ha), h1⟩, h2⟩
      · rintro (h1 | ⟨⟨a, ha, h1⟩, h2⟩)
        · exact .inl (.inl h1)
        · rcases (ht a).1 ha with ⟨-, rfl⟩ | ha
          · exact .inl (.inr ⟨h1, h2⟩)
          · exact .inr ⟨⟨a, ha, h1⟩, h2⟩
    · rw [if_neg hh]
      constructor
      · rintro (h1 | ⟨⟨a, ha, h1⟩, h2⟩)
        · exact .inl h1
        · exact .inr ⟨⟨a, (ht a).2 (.inr ha), h1⟩, h2⟩
      · rintro (h1 | ⟨⟨a, ha, h1⟩, h2⟩)
        · exact .inl h1
        · rcases (ht a).1 ha with ⟨h3, -⟩ | ha
          · exact absurd h3 hh
          · exact .inr ⟨⟨a, ha, h1⟩, h2⟩
theorem rB_swap {n : Nat} {exit : Int} {E : List (Nat × Nat)} (hg : GOk n exit E) {h a p : Nat} : rB n (swapE E) h a p = true ↔ Rch (rx n E) (fun x => x ≠ h) a p := by
  have hc : ∀ p q, q ∈ nx n (swapE E) p ↔ q ∈ rx n E p := fun p q => (hg.swap.mem_nx).trans (mem_swapE.trans hg.mem_rv.symm)
  unfold rB
  rw [bP_iff]
  exact ⟨fun k => (k.congr fun p q => (hc p q).1).mono fun _ h => by omega, fun k => (k.congr fun p q => (hc p q).2).mono fun _ h => by omega⟩
theorem rB_all {n : Nat} {E : List (Nat × Nat)} {a p : Nat} : rB n E (-1) a p = true ↔ Rch (nx n E) (fun _ => True) a p := by
  unfold rB
  rw [bP_iff]
  exact ⟨fun h => h.mono fun _ _ => trivial, fun h => h.mono fun _ _ => by omega⟩
theorem inF_points {n : Nat} {exit : Int} {E : List (Nat × Nat)} (hg : GOk n exit E) (bl : List Nat) (q : Nat) : (List.range n).filter (inF n E q bl) = pointsOf n E bl q := by
  unfold pointsOf
  refine List.filter_congr fun p _ => ?_
  rw [Bool.eq_iff_iff]
  unfold inF
  rw [inF_iff]
  simp only [Bool.or_eq_true, Bool.and_eq_true, bP_iff, rB_swap hg, rB_all]
theorem natL_loops {n : Nat} {exit : Int} {E : List (Nat × Nat)} (hg : GOk n exit E) (bl : List Nat) : ∀ m, natL n E bl m = loopsOf n E bl m
  | 0 => rfl
  | m + 1 => by
    rw [natL_succ, natL_loops hg bl m, inF_points hg]
    unfold loopsOf
    rw [List.range_succ, List.filterMap_append]
    congr 1
    by_cases h : tailsOf E bl m = []
    · have hb : headB E bl m = false := by
        cases hh : headB E bl m with
        | false => rfl
        | true => exact absurd h (headB_tails.1 hh)
      rw [hb]
      simp [h]
    · rw [headB_tails.2 h]
      simp [h]

section
variable {n : Nat} {exit : Int} {E : List (Nat × Nat)} (hg : GOk n exit E)
include hg
theorem mem_subE {p y : Nat} : y ∈ sub (shapeOf n E) (inL (backsOf n E)) p ↔ (p, y) ∈ E ∧ ¬ DomE n E y p := by
  rw [mem_sub]
  by_cases hp : p < n
  · rw [show (shapeOf n E).out.getD p [] = idxs Prod.fst E p from row_getD _ _ _ _ hp]
    have hb : ∀ e, inL (backsOf n E) e = false ↔ ¬ (e < E.length ∧ DomE n E (E.getD e (0, 0)).2 (E.getD e (0, 0)).1) := fun e => by
      unfold inL
      rw [← Bool.not_eq_true, List.contains_iff_mem, mem_backs]
    constructor
    · rintro ⟨e, he, hS, hy⟩
      obtain ⟨x, hx, h1⟩ := (mem_idxs _ _ _ _).1 he
      rw [tg_getD, List.getD_eq_getElem?_getD, hx] at hy
      obtain ⟨a, b⟩ := x
      simp only [Option.getD_some] at hy h1
      subst hy
      subst h1
      refine ⟨List.mem_of_getElem? hx, fun hd => (hb e).1 hS ⟨(List.getElem?_eq_some_iff.1 hx).1, ?_⟩⟩
      rw [List.getD_eq_getElem?_getD, hx]
      exact hd
    · rintro ⟨he, hd⟩
      obtain ⟨e, hx⟩ := List.mem_iff_getElem?.1 he
      refine ⟨e, (mem_idxs _ _ _ _).2 ⟨_, hx, rfl⟩, (hb e).2 fun k => hd ?_, ?_⟩
      · have := k.2
        rw [List.getD_eq_getElem?_getD, hx] at this
        exact this
      · rw [tg_getD, List.getD_eq_getElem?_getD, hx]; rfl
  · rw [show (shapeOf n E).out.getD p [] = [] by unfold shapeOf; simp only; rw [List.getD_eq_getElem?_getD, List.getElem?_eq_none (by simp; omega)]; rfl]
    constructor
    · rintro ⟨e, he, -⟩; cases he
    · rintro ⟨he, -⟩; exact absurd (hg.lt _ he).1 hp
theorem mem_forw {p y : Nat} : (p, y) ∈ forwE n E E ↔ RchE n E p ∧ y ∈ sub (shapeOf n E) (inL (backsOf n E)) p := by
  unfold forwE
  rw [List.mem_filter, Bool.and_eq_true, Bool.not_eq_true', rB_all, mem_subE hg, ← Bool.not_eq_true, domB_iff]
  constructor
  · rintro ⟨h1, h2, h3⟩; exact ⟨h2, h1, fun k => h3 ⟨k.1, k.2⟩⟩
  · rintro ⟨h1, h2, h3⟩; exact ⟨h2, h1, fun k => h3 ⟨k.1, k.2⟩⟩
theorem gok_forw : GOk n exit (forwE n E E) := ⟨hg.n1, hg.n512, hg.x0, hg.xn, Nat.le_trans (List.length_filter_le _ _) hg.len, fun x hx => hg.lt x (List.mem_filter.1 hx).1⟩
theorem sub_sub {p y : Nat} (h : y ∈ sub (shapeOf n E) (inL (backsOf n E)) p) : y ∈ nx n E p := hg.mem_nx.2 ((mem_subE hg).1 h).1
/-- What can be reached can be reached without back edges. -/
theorem reach_sub {p : Nat} (h : RchE n E p) : Rch (sub (shapeOf n E) (inL (backsOf n E))) (fun _ => True) 0 p := by
  induction h with
  | refl _ => exact .refl trivial
  | @step b c hb hc _ ih =>
    by_cases hd : DomE n E c b
    · rcases rch_split c ih with h3 | h3
      · exact absurd (h3.congr fun p q => sub_sub hg) hd.2
      · exact h3
    · exact .step ih ((mem_subE hg).2 ⟨hg.mem_nx.1 hc, hd⟩) trivial
theorem red_cyc : redB n (forwE n E E) (forwE n E E).length = true ↔ ¬ Cyc (shapeOf n E) (inL (backsOf n E)) 0 := by
  unfold redB
  rw [List.take_length, List.all_eq_true]
  constructor
  · rintro h ⟨x, y, h1, h2, h3⟩
    have hx : RchE n E x := h1.congr fun p q => sub_sub hg
    have h4 := h _ ((mem_forw hg).2 ⟨hx, h2⟩)
    rw [Bool.not_eq_true', ← Bool.not_eq_true, rB_all] at h4
    apply h4
    have hy : RchE n E y := .step hx (sub_sub hg h2) trivial
    clear h4 h2
    have key : ∀ {z : Nat}, Rch (sub (shapeOf n E) (inL (backsOf n E))) (fun _ => True) y z → Rch (nx n (forwE n E E)) (fun _ => True) y z := by
      intro z hz
      induction hz with
      | refl _ => exact .refl trivial
      | @step b c hb hc _ ih => exact .step ih ((gok_forw hg).mem_nx.2 ((mem_forw hg).2 ⟨hy.trans (hb.congr fun p q => sub_sub hg), hc⟩)) trivial
    exact key h3
  · rintro h ⟨a, b⟩ hx
    rw [Bool.not_eq_true', ← Bool.not_eq_true, rB_all]
    intro hr
    obtain ⟨h1, h2⟩ := (mem_forw hg).1 hx
    exact h ⟨a, b, reach_sub hg h1, h2, hr.congr fun p q hq => ((mem_forw hg).1 ((gok_forw hg).mem_nx.1 hq)).2⟩
end
end Go.Proofs.Ytngfoinceakgdaa

/-! The reference: Loops; what the program and the reference return, the same. -/
namespace Go.Proofs.Ytngfoinceakgdaa
open Go.RowKit Go.Shelf

section
variable (B : Nat) (w : World) (v : Value)
set_option maxRecDepth 100000
set_option maxHeartbeats 4000000
theorem rloops_bad (n exit : Int) (es : List (Int × Int)) (hv : Edges B w v es) (hB : B ≤ w.heap.size) (hc : chk n exit es ≠ 0) :
    Calls Try.prog 25 #[.agg #[.int .i64 n, .int .i64 exit, v]] w fun en w' => en = .returned (.tuple #[.slice none 0 0, .int .i64 (chk n exit es)]) ∧ Below w.heap.size w w' := by
  obtain ⟨A, c, rfl, hlc, -, hm, hes⟩ := id hv.shape
  have hcheck := fun w1 (h1 : Below w.heap.size w w1) => rcheck_any B w1 n exit _ es (hv.below (h1.mono hB)) (by have := h1.size; omega)
  have HC := Lib.hid hcheck
  clear hcheck hes hv
  go_enter Try.func25, Try.ntmps25
  go_wp2_with (go_at_call 32; refine (HC.out _ ((Below.refl _ _).alloc (Nat.le_refl _) _)).mono ?_; rintro en w1 ⟨rfl, hb1⟩)
  go_ret2
  exact ⟨rfl, ((Below.refl _ _).alloc (Nat.le_refl _) _).trans (hb1.mono (by simp))⟩
theorem rloops_ok (n : Nat) (exit : Int) (E : List (Nat × Nat)) (hv : Edges B w v (castE E)) (hB : B ≤ w.heap.size) (hg : GOk n exit E) :
    Calls Try.prog 25 #[.agg #[.int .i64 (n : Int), .int .i64 exit, v]] w fun en w' => ∃ vo, en = .returned (.tuple #[vo, .int .i64 0]) ∧ LV w'.heap.size w' vo (natL n E (backw (domB n E 0) E E.length) n) ∧ Below w.heap.size w w' := by
  obtain ⟨A, c, rfl, hlc, -, hm, hes⟩ := id hv.shape
  have hcheck := fun (W : World) (h1 : GV w W n exit (.slice A (castE E).length c)) => rcheck_any B W n exit _ _ (hv.below (h1.bel.mono hB)) (by have := h1.bel.size; omega)
  have hbw := fun (W : World) (h1 : GV w W n exit (.slice A (castE E).length c)) => natural_any B W _ n exit E (hv.below (h1.bel.mono hB)) (by have := h1.bel.size; omega) hg.n512 hg.n1 hg.lt hg.len
  rw [hg.chk] at hcheck
  have HC := Lib.hid hcheck
  have HN := Lib.hid hbw
  have hg0 := GV.start w n exit (.slice A (castE E).length c)
  clear hcheck hbw hes hv
  go_enter Try.func25, Try.ntmps25
  go_wp2_with (first
    | (go_at_call 32; refine (HC.out _ hg0).mono ?_; rintro en w1 ⟨rfl, hb1⟩; have hg1 := hg0.step hb1; obtain ⟨c0, c1, c2⟩ := hg1.cells)
    | (go_at_call 59; refine (HN.out _ hg1).mono ?_; rintro en w2 ⟨vo, rfl, hvo, hw2⟩; have hg2 := hg1.step hw2))
  go_ret2
  exact ⟨_, rfl, hvo, hg2.bel⟩
end

theorem LV.nil (w : World) : LV w.heap.size w (.slice none 0 0) [] := ⟨none, 0, rfl, Nat.le_refl _, by simp [maxLen], fun j x hx => by simp at hx⟩
theorem back_pair (n exit : Int) (es : List (Int × Int)) : ∃ (R : List Int) (e : Int),
    (∀ (B : Nat) (w : World) (v : Value), Edges B w v es → B ≤ w.heap.size → Calls Try.prog 22 #[.agg #[.int .i64 n, .int .i64 exit, v]] w fun en w' => ∃ vo, en = .returned (.tuple #[vo, .int .i64 e]) ∧ Ints w'.heap.size w' vo R ∧ Below w.heap.size w w') ∧
    (∀ (B : Nat) (w : World) (v : Value), Edges B w v es → B ≤ w.heap.size → Calls Try.prog 23 #[.agg #[.int .i64 n, .int .i64 exit, v]] w fun en w' => ∃ vo, en = .returned (.tuple #[vo, .int .i64 e]) ∧ Ints w'.heap.size w' vo R ∧ Below w.heap.size w w') := by
  by_cases hc : chk n exit es = 0
  · obtain ⟨N, E, rfl, rfl, hg⟩ := chk_ok hc
    refine ⟨(backsOf N E).map fun x : Nat => (x : Int), 0, fun B w v hv hB => ?_, fun B w v hv hB => ?_⟩
    · refine (back_sem B w v hv hB hg).mono ?_
      rintro en w' ⟨vo, he, hi, hw⟩
      exact ⟨vo, he, Nats.ints hi, hw⟩
    · refine (rback_ok B w v N exit E hv hB hg).mono ?_
      rintro en w' ⟨vo, he, hi, hw⟩
      rw [backw_backs] at hi
      exact ⟨vo, he, Nats.ints hi, hw⟩
  · exact ⟨[], chk n exit es, fun B w v hv hB => (backG_bad B w v n exit es hv hB hc).mono fun en w' h => ⟨_, h.1, Sl.nil _ _ _, h.2⟩, fun B w v hv hB => (rback_bad B w v n exit es hv hB hc).mono fun en w' h => ⟨_, h.1, Sl.nil _ _ _, h.2⟩⟩
theorem loops_pair (n exit : Int) (es : List (Int × Int)) : ∃ (L : List (Nat × List Nat)) (e : Int), L.length ≤ 512 ∧
    (∀ (B : Nat) (w : World) (v : Value), Edges B w v es → B ≤ w.heap.size → Calls Try.prog 24 #[.agg #[.int .i64 n, .int .i64 exit, v]] w fun en w' => ∃ vo, en = .returned (.tuple #[vo, .int .i64 e]) ∧ LV w'.heap.size w' vo L ∧ Below w.heap.size w w') ∧
    (∀ (B : Nat) (w : World) (v : Value), Edges B w v es → B ≤ w.heap.size → Calls Try.prog 25 #[.agg #[.int .i64 n, .int .i64 exit, v]] w fun en w' => ∃ vo, en = .returned (.tuple #[vo, .int .i64 e]) ∧ LV w'.heap.size w' vo L ∧ Below w.heap.size w w') := by
  by_cases hc : chk n exit es = 0
  · obtain ⟨N, E, rfl, rfl, hg⟩ := chk_ok hc
    refine ⟨loopsOf N E (backsOf N E) N, 0, Nat.le_trans (loops_le _ _ _) hg.n512, fun B w v hv hB => loops_sem B w v hv hB hg, fun B w v hv hB => ?_⟩
    have h := rloops_ok B w v N exit E hv hB hg
    rw [backw_backs, natL_loops hg] at h
    exact h
  · exact ⟨[], chk n exit es, by simp, fun B w v hv hB => (loopsG_bad B w v n exit es hv hB hc).mono fun en w' h => ⟨_, h.1, LV.nil _, h.2⟩, fun B w v hv hB => (rloops_bad B w v n exit es hv hB hc).mono fun en w' h => ⟨_, h.1, LV.nil _, h.2⟩⟩
theorem red_pair (n exit : Int) (es : List (Int × Int)) : ∃ (b : Bool) (e : Int),
    (∀ (B : Nat) (w : World) (v : Value), Edges B w v es → B ≤ w.heap.size → Calls Try.prog 26 #[.agg #[.int .i64 n, .int .i64 exit, v]] w fun en w' => en = .returned (.tuple #[.bool b, .int .i64 e]) ∧ Below w.heap.size w w') ∧
    (∀ (B : Nat) (w : World) (v : Value), Edges B w v es → B ≤ w.heap.size → Calls Try.prog 27 #[.agg #[.int .i64 n, .int .i64 exit, v]] w fun en w' => en = .returned (.tuple #[.bool b, .int .i64 e]) ∧ Below w.heap.size w w') := by
  by_cases hc : chk n exit es = 0
  · obtain ⟨N, E, rfl, rfl, hg⟩ := chk_ok hc
    refine ⟨redB N (forwE N E E) (forwE N E E).length, 0, fun B w v hv hB => ?_, fun B w v hv hB => rred_ok B w v N exit E hv hB hg⟩
    refine (red_sem B w v hv hB hg).mono ?_
    rintro en w' ⟨b, he, hi, hw⟩
    have hb : b = redB N (forwE N E E) (forwE N E E).length := by
      rw [Bool.eq_iff_iff, hi, red_cyc hg]
    rw [← hb]
    exact ⟨he, hw⟩
  · exact ⟨false, chk n exit es, fun B w v hv hB => reducible_bad B w v n exit es hv hB hc, fun B w v hv hB => rred_bad B w v n exit es hv hB hc⟩
end Go.Proofs.Ytngfoinceakgdaa

/-! The law GraphLoops, walked. -/
namespace Go.Proofs.Ytngfoinceakgdaa
open Go.RowKit Go.Shelf

set_option maxRecDepth 100000 in
set_option maxHeartbeats 8000000 in
theorem loopsL_any (w : World) (v : Value) (n exit : Int) (es : List (Int × Int)) (hv : Edges w.heap.size w v es) :
    Calls Try.prog 5 #[.agg #[.int .i64 n, .int .i64 exit, v]] w fun en w' => en = .returned (.bool true) ∧ Below w.heap.size w w' := by
  obtain ⟨R, e, hp1, hp2⟩ := back_pair n exit es
  obtain ⟨L, e2, hL512, hp3, hp4⟩ := loops_pair n exit es
  obtain ⟨br, e3, hp5, hp6⟩ := red_pair n exit es
  have hfw := fun (W : World) (h : GV w W n exit v) => few_any W.heap.size W n exit v es (h.edges hv)
  have h1 := fun (W : World) (h : GV w W n exit v) => hp1 W.heap.size W v (h.edges hv) (Nat.le_refl _)
  have h2 := fun (W : World) (h : GV w W n exit v) => hp2 W.heap.size W v (h.edges hv) (Nat.le_refl _)
  have h3 := fun (W : World) (h : GV w W n exit v) => hp3 W.heap.size W v (h.edges hv) (Nat.le_refl _)
  have h4 := fun (W : World) (h : GV w W n exit v) => hp4 W.heap.size W v (h.edges hv) (Nat.le_refl _)
  have h5 := fun (W : World) (h : GV w W n exit v) => hp5 W.heap.size W v (h.edges hv) (Nat.le_refl _)
  have h6 := fun (W : World) (h : GV w W n exit v) => hp6 W.heap.size W v (h.edges hv) (Nat.le_refl _)
  have hg0 := GV.start w n exit v
  have HF := Lib.hid hfw
  have H1 := Lib.hid h1
  have H2 := Lib.hid h2
  have H3 := Lib.hid h3
  have H4 := Lib.hid h4
  have H5 := Lib.hid h5
  have H6 := Lib.hid h6
  obtain ⟨A, c, rfl, hlc, -, hm, -⟩ := hv.shape
  clear hp1 hp2 hp3 hp4 hp5 hp6 hfw h1 h2 h3 h4 h5 h6 hv
  cases hb : few n es with
  | false =>
    rw [hb] at HF
    clear hb
    go_enter Try.func5, Try.ntmps5
    go_wp2_with (first
      | (go_at_call 13; refine (HF.out _ hg0).mono ?_; rintro en w1 ⟨rfl, hw1⟩; have hg1 := hg0.step hw1)
      | (go_at_call 14; refine (awake_any w1).mono ?_; rintro en w2 ⟨rfl, hw2⟩; have hg2 := hg1.step hw2))
    go_ret
    exact ⟨rfl, hg2.bel⟩
  | true =>
    rw [hb] at HF
    clear hb
    go_enter Try.func5, Try.ntmps5
    go_upto_region 9 with (first
      | (go_at_call 13; refine (HF.out _ hg0).mono ?_; rintro en w1 ⟨rfl, hw1⟩; have hg1 := hg0.step hw1; obtain ⟨c0, c1, c2⟩ := hg1.cells)
      | (go_at_call 22; refine (H1.out _ hg1).mono ?_; rintro en w2 ⟨va, rfl, hva, hw2⟩; have hg2 := hg1.step hw2; clear c0 c1 c2; obtain ⟨c0, c1, c2⟩ := hg2.cells)
      | (go_at_call 23; refine (H2.out _ hg2).mono ?_; rintro en w3 ⟨vb, rfl, hvb, hw3⟩; have hg3 := hg2.step hw3; have hva3 := (Ints.below hva hw3).more hw3.size; clear c0 c1 c2; obtain ⟨c0, c1, c2⟩ := hg3.cells)
      | (go_at_call 24; refine (H3.out _ hg3).mono ?_; rintro en w4 ⟨vl, rfl, hvl, hw4⟩; have hg4 := hg3.step hw4; have hva4 := (Ints.below hva3 hw4).more hw4.size; have hvb4 := (Ints.below hvb hw4).more hw4.size; clear c0 c1 c2; obtain ⟨c0, c1, c2⟩ := hg4.cells)
      | (go_at_call 25; refine (H4.out _ hg4).mono ?_; rintro en w5 ⟨vm, rfl, hvm, hw5⟩; have hg5 := hg4.step hw5; have hva5 := (Ints.below hva4 hw5).more hw5.size; have hvb5 := (Ints.below hvb4 hw5).more hw5.size; have hvl5 := (LV.below hvl hw5).more hw5.size; clear c0 c1 c2; obtain ⟨c0, c1, c2⟩ := hg5.cells)
      | (go_at_call 26; refine (H5.out _ hg5).mono ?_; rintro en w6 ⟨rfl, hw6⟩; have hg6 := hg5.step hw6; have hva6 := (Ints.below hva5 hw6).more hw6.size; have hvb6 := (Ints.below hvb5 hw6).more hw6.size; have hvl6 := (LV.below hvl5 hw6).more hw6.size; have hvm6 := (LV.below hvm hw6).more hw6.size; clear c0 c1 c2; obtain ⟨c0, c1, c2⟩ := hg6.cells)
      | (go_at_call 27; refine (H6.out _ hg6).mono ?_; rintro en w7 ⟨rfl, hw7⟩; have hg7 := hg6.step hw7; have hva7 := (Ints.below hva6 hw7).more hw7.size; have hvb7 := (Ints.below hvb6 hw7).more hw7.size; have hvl7 := (LV.below hvl6 hw7).more hw7.size; have hvm7 := (LV.below hvm6 hw7).more hw7.size))
    clear c0 c1 c2 hg0 hg1 hg2 hg3 hg4 hg5 hg6 hw1 hw2 hw3 hw4 hw5 hw6 hw7 hva hva3 hva4 hva5 hva6 hvb hvb4 hvb5 hvb6 hvl hvl5 hvl6 hvm hvm6 HF H1 H2 H3 H4 H5 H6
    obtain ⟨Al, cl, rfl, -, -, hcl⟩ := id hvl7
    obtain ⟨Am, cm, rfl, -, -, hcm⟩ := id hvm7
    clear hcl hcm
    go_wp2_with (first
      | (go_at_call 14; refine (awake_any w7).mono ?_; rintro en w8 ⟨rfl, hw8⟩; have hg8 := hg7.step hw8; have hva8 := (Ints.below hva7 hw8).more hw8.size; have hvb8 := (Ints.below hvb7 hw8).more hw8.size; have hvl8 := (LV.below hvl7 hw8).more hw8.size; have hvm8 := (LV.below hvm7 hw8).more hw8.size)
      | (go_at_call 17; (with_reducible refine (equalI_any w8.heap.size w8 va vb R R hva8 hvb8).mono ?_); rintro en w9 ⟨rfl, hw9⟩; have hg9 := hg8.only hw9; have hbb9 := hw9.below (Nat.le_refl _) (fun _ _ f => f); have hvl9 := (LV.below hvl8 hbb9).more hbb9.size; have hvm9 := (LV.below hvm8 hbb9).more hbb9.size))
    obtain ⟨Al', cl', hel, -, -, hcl⟩ := id hvl9
    obtain ⟨Am', cm', hem, -, -, hcm⟩ := id hvm9
    cases hel
    cases hem
    have HCL := Lib.hid hcl
    have HCM := Lib.hid hcm
    clear hcl hcm hvl7 hvl8 hvl9 hvm7 hvm8 hvm9 hva7 hva8 hvb7 hvb8 hg7 hg8 hw8 hw9 hbb9
    go_loopw [88] (fun y wr => ∃ j : Nat, j ≤ L.length ∧ y = .int .i64 j ∧ Below w9.heap.size w9 wr) (fun y _ => L.length - (intOf y).toNat)
    case atStart => exact ⟨0, Nat.zero_le _, rfl, Below.refl _ _⟩
    case round =>
      obtain ⟨j, hjL, rfl, hb0⟩ := hrel
      by_cases hjl : j < L.length
      · have hjl1 : (j : Int) < (L.length : Int) := by omega
        have hLj : L[j]? = some L[j] := List.getElem?_eq_getElem hjl
        revert hLj
        generalize L[j] = lp
        intro hLj
        obtain ⟨q, pts⟩ := lp
        obtain ⟨adl, ul, rfl, hbl, hl0, hl1, hnp⟩ := HCL.out j _ hLj
        obtain ⟨adm, um, rfl, hbm, hm0, hm1, hmp⟩ := HCM.out j _ hLj
        obtain ⟨Dp, cp, rfl, -, -, hmxp, -⟩ := Sl.shape hnp
        obtain ⟨Dm, cpm, rfl, -, -, hmxm, -⟩ := Sl.shape hmp
        simp only at hl0 hl1 hnp hm0 hm1 hmp
        have d0 := (hb0.cell (p := adl.add (j * 2)) (by rw [block_add]; exact hbl)).trans hl0
        have d1 := (hb0.cell (p := adl.add (j * 2 + 1)) (by rw [block_add]; exact hbl)).trans hl1
        have hcr : ∀ (i : Nat) (u : Value), [Value.int .i64 (q : Int), .slice Dp pts.length cp][i]? = some u → wr.cell? ((adl.add (j * 2)).add i) = some u := fun i u hi => by
          match i, hi with
          | 0, hi => cases hi; rw [addrZero]; exact d0
          | 1, hi => cases hi; rw [add_add']; exact d1
        have g0 := (hb0.cell (p := adm.add (j * 2)) (by rw [block_add]; exact hbm)).trans hm0
        have g1 := (hb0.cell (p := adm.add (j * 2 + 1)) (by rw [block_add]; exact hbm)).trans hm1
        rw [← add_add', addrOne] at g1
        have hbl2 := Blk.new wr 45 [Value.int .i64 (q : Int), .slice Dp pts.length cp]
        have hba := hb0.alloc hb0.size (.cells [Value.int .i64 (q : Int), .slice Dp pts.length cp].toArray 45)
        have g0' : (wr.alloc (.cells [Value.int .i64 (q : Int), .slice Dp pts.length cp].toArray 45)).cell? (adm.add (j * 2)) = some (.int .i64 (q : Int)) := by simp [World.cell?_alloc_some, g0]
        have g1' : (wr.alloc (.cells [Value.int .i64 (q : Int), .slice Dp pts.length cp].toArray 45)).cell? ⟨(adm.add (j * 2)).block, (adm.add (j * 2)).off + 1, none⟩ = some (.slice Dm pts.length cpm) := by simp [World.cell?_alloc_some, g1]
        have HC := Lib.hid hcr
        clear hLj hl0 hl1 d0 d1 hcr hm0 hm1 g0 g1
        go_wp2_with (first
          | ((with_reducible show wpList _ _ _ (⟨some 92, .load 45 (.tmp 91), _, _, _, _⟩ :: _) _ _); refine wpList_load_list rfl _ _ rfl (adl.add (j * 2)) rfl [Value.int .i64 (q : Int), .slice Dp pts.length cp] _ HC.out Try.underlying45 rfl info_loop2 ?_)
          | ((with_reducible show wpList _ _ _ (⟨none, .store 45 (.tmp 16) (.tmp 92), _, _, _, _⟩ :: _) _ _); refine wpList_store_new rfl _ _ _ rfl _ _ [Value.int .i64 (q : Int), .slice Dp pts.length cp] rfl rfl info_loop2 rfl (by intro u hu; simp at hu; rcases hu with rfl | rfl <;> rfl) ?_))
        have e0 := hbl2.cellAt (i := 0) rfl
        have e1 := hbl2.cellAt (i := 1) rfl
        have hpt := (Nats.below hnp hba).more hba.size
        have hpm := (Nats.below hmp hba).more hba.size
        clear hbl2 hnp hmp hb0 hbl hbm HC
        simp only [List.toArray] at hba e0 e1 hpt hpm g0' g1'
        revert hba e0 e1 hpt hpm g0' g1'
        generalize wr.alloc (.cells #[Value.int .i64 (q : Int), .slice Dp pts.length cp] 45) = wa
        generalize wr.heap.size = eb
        intro hba g0 g1 e0 e1 hpt hpm
        have heq := equalI_any wa.heap.size wa.drew (.slice Dp pts.length cp) (.slice Dm pts.length cpm) _ _ (Nats.ints hpt) (Nats.ints hpm)
        rw [decide_eq_true rfl] at heq
        have HEQ := Lib.hid heq
        have hq1 : ((q : Int) != (q : Int)) = false := by simp
        have hq2 : (q != q) = false := by simp
        clear heq hpt hpm
        go_upto_region 14 with fail
        go_region_held3 (fun w' => w'.cell? (adm.add (j * 2)) = some (.int .i64 (q : Int)) ∧ w'.cell? ⟨(adm.add (j * 2)).block, (adm.add (j * 2)).off + 1, none⟩ = some (.slice Dm pts.length cpm) ∧ w'.cell? ⟨eb, 0, none⟩ = some (.int .i64 (q : Int)) ∧ w'.cell? ⟨eb, 1, none⟩ = some (.slice Dp pts.length cp))
          (first | exact ⟨ho2.cellAt g0, ho2.cellAt g1, ho2.cellAt e0, ho2.cellAt e1⟩ | exact ⟨g0, g1, e0, e1⟩)
          ((go_at_call 17; refine HEQ.out.mono ?_; rintro en w9 ⟨rfl, ho2⟩))
        have hbw9 := hba.drew.trans (ho2.below hba.drew.size (fun _ _ f => f))
        go_wp2
        go_roundw
        case rel => exact ⟨j + 1, by omega, by go_num, hbw9⟩
        case measure => simp [intOf]; omega
      · obtain rfl : j = L.length := by omega
        have hbe := hg9.bel.trans (hb0.mono hg9.bel.size)
        go_wp2
        go_ret
        exact ⟨rfl, hbe⟩
end Go.Proofs.Ytngfoinceakgdaa

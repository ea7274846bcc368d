/- Go's library: slices.Insert of one element ahead of a row of the call's own, the elements of several cells. -/
import Derived.Test.YthaampinmelgaaaGreatDoorEls
import Derived.Test.YthaampinmelgaaaGreatDoorProg
import Derived.StillTailTactics
import Derived.Deep.RegionLaw
import Derived.Lib.AppendZerosOnto
import Derived.Lib.Overlaps
import Derived.Laws.CopyRow
import Derived.Laws.CopyOwn
import Derived.Deep.AppendLies
namespace Go.Proofs.YthaampinmelgaaaGreatDoor
open Go.RowKit

section
variable {P : Program}
/-- 'copy' of k elements of sz cells each, into a block that is known whole. -/
theorem run_copyN (w : World) (dT sT ty elem : TypeId) (sz k g o dLen dCap : Nat) (a : Addr) (sLen sCap : Nat) (cur : List Value) (t : TypeId) (cs : List Value)
    (hu : P.underlying dT = some (.slice elem)) (hs : (P.info? elem).map (·.size) = some sz) (hg : w.heap[g]? = some (.cells cur.toArray t (0, 0))) (hk : Nat.min sLen dLen = k) (hn : cs.length = k * sz)
    (hsrc : ∀ j v, cs[j]? = some v → w.cell? (a.add j) = some v) (hfit : o + cs.length ≤ cur.length) (h1 : ∀ v ∈ cs, v.oneCell' = true) :
    (Builtin.copy_ #[dT, sT] ty #[.slice (some ⟨g, o, none⟩) dLen dCap, .slice (some a) sLen sCap]).run P w =
      .ok (goInt k) (w.setRow g (splice cur o cs).toArray) := by
  have hl := run_loadCells_list (P := P) w a cs hsrc
  have hst := run_storeCells_at P g o t cs 0 cur.toArray w hg (by simpa using hfit) h1
  cases hq : P.info? elem with
  | none => simp [hq] at hs
  | some i =>
    have hi : i.size = sz := by simpa [hq] using hs
    simp [Builtin.copy_, run_underlying hu, Builtin.lenOf, Builtin.firstCells, sizeOf, typeInfo, hq, hi, hk, ← hn, hl, hst, splice]
theorem only_setRow (w : World) (g : Nat) (cs : Array Value) : Only (fun b => b = g) w (w.setRow g cs) :=
  ⟨rfl, rfl, rfl, by simp [World.setRow], fun k _ hs => setRow_other w g k cs (fun e => hs e)⟩
theorem wpList_copyN {w : World} {ops : Array Oper} {rest : List Oper} {o : Oper} {a : Act} {Q : Exit → Act → World → Prop} (hgd : o.guard = none) (d s : Operand) (dT sT : TypeId)
    (ho : o.op = .call { callee := .builtin .copy, args := #[d, s], argTypes := #[dT, sT] }) (elem : TypeId) (sz : Nat) (hu : P.underlying dT = some (.slice elem)) (hs : (P.info? elem).map (·.size) = some sz)
    (dp sp : Option Addr) (dLen dCap sLen sCap : Nat) (hd : a.eval d = .slice dp dLen dCap) (hx : a.eval s = .slice sp sLen sCap) (k g off : Nat) (ad : Addr) (cur : List Value) (t : TypeId) (cs : List Value)
    (hdp : dp = some ⟨g, off, none⟩) (hsp : sp = some ad) (hg : Blk w g t cur) (hk : Nat.min sLen dLen = k) (hn : cs.length = k * sz)
    (hsrc : ∀ j v, cs[j]? = some v → w.cell? (ad.add j) = some v) (hfit : off + cs.length ≤ cur.length) (h1 : ∀ v ∈ cs, v.oneCell' = true)
    (h : ∀ w', Blk w' g t (splice cur off cs) → Only (fun b => b = g) w w' → wpList P ops Q rest (a.put o.dst (goInt k)) w') : wpList P ops Q (o :: rest) a w := by
  subst hdp
  subst hsp
  refine wpList_plain hgd fun K hK => ?_
  have hrun := run_copyN (P := P) w dT sT o.type elem sz k g off dLen dCap ad sLen sCap cur t cs hu hs hg hk hn hsrc hfit h1
  unfold Oper.wp
  simp [execOp, ho, resolve, invoke, builtin, hd, hx, hrun, Result.andThen]
  exact hK _ _ (h _ (setRow_heap w g _ _ t _ hg) (only_setRow w g _))
theorem step_copyN {w : World} {ops : Array Oper} {o : Oper} {a : Act} {K : Act → World → Prop} {Q : Exit → Act → World → Prop} {E : Prop} (hgd : o.guard = none) (d s : Operand) (dT sT : TypeId)
    (ho : o.op = .call { callee := .builtin .copy, args := #[d, s], argTypes := #[dT, sT] }) (elem : TypeId) (sz : Nat) (hu : P.underlying dT = some (.slice elem)) (hs : (P.info? elem).map (·.size) = some sz)
    (dp sp : Option Addr) (dLen dCap sLen sCap : Nat) (hd : a.eval d = .slice dp dLen dCap) (hx : a.eval s = .slice sp sLen sCap) (k g off : Nat) (ad : Addr) (cur : List Value) (t : TypeId) (cs : List Value)
    (hdp : dp = some ⟨g, off, none⟩) (hsp : sp = some ad) (hg : Blk w g t cur) (hk : Nat.min sLen dLen = k) (hn : cs.length = k * sz)
    (hsrc : ∀ j v, cs[j]? = some v → w.cell? (ad.add j) = some v) (hfit : off + cs.length ≤ cur.length) (h1 : ∀ v ∈ cs, v.oneCell' = true)
    (h : ∀ w', Blk w' g t (splice cur off cs) → Only (fun b => b = g) w w' → K (a.put o.dst (goInt k)) w') : if Region.wanted o (yielded ops a.tmps) = true then Oper.wp P o a w K Q else E := by
  have hw : Region.wanted o (yielded ops a.tmps) = true := by simp [Region.wanted, hgd]
  rw [if_pos hw]
  subst hdp
  subst hsp
  have hrun := run_copyN (P := P) w dT sT o.type elem sz k g off dLen dCap ad sLen sCap cur t cs hu hs hg hk hn hsrc hfit h1
  unfold Oper.wp
  simp [execOp, ho, resolve, invoke, builtin, hd, hx, hrun, Result.andThen]
  exact h _ (setRow_heap w g _ _ t _ hg) (only_setRow w g _)
end
theorem info_el : (Tryz.prog.info? 36).map (fun i => (i.zero, i.size, i.bytes)) = some (some (.agg #[.int .i64 0, .bool false, .slice none 0 0]), 3, 40) := by kernel_rfl
theorem size_el : (Tryz.prog.info? 36).map (·.size) = some 3 := by kernel_rfl

set_option maxRecDepth 100000 in
set_option maxHeartbeats 4000000 in
theorem insert_any (base : Nat) (w : World) (v : Value) (n vb : Nat) (cs xs : List Value) (hown : w.ownsRow base 36 3 v n cs) (hvb : Blk w vb 36 xs) (hx3 : xs.length = 3) (hne : v.ownBlock ≠ some vb)
    (h1c : ∀ u ∈ cs, u.oneCell' = true) (h1x : ∀ u ∈ xs, u.oneCell' = true) (hb : base ≤ w.heap.size) (hbytes : (n + 1) * 40 ≤ 140737488355328) :
    Calls Tryz.prog 22 #[v, .int .i64 0, .slice (some ⟨vb, 0, none⟩) 1 1] w fun en w' => ∃ g cap, en = .returned (.slice (some ⟨g, 0, none⟩) (n + 1) cap) ∧
      w'.ownsRow base 36 3 (.slice (some ⟨g, 0, none⟩) (n + 1) cap) (n + 1) (xs ++ cs) ∧ w.grownBy w' v.ownBlock ∧ (v.ownBlock = some g ∨ w.heap.size ≤ g) := by
  obtain ⟨il, hil, hz0, hz1, hz2⟩ := info_parts info_el
  by_cases hn0 : n = 0
  · subst hn0
    obtain ⟨hl, ho⟩ := id hown
    have hc0 : cs = [] := List.eq_nil_of_length_eq_zero (by simpa using hl)
    subst hc0
    have hxs : ∀ j u, xs[j]? = some u → w.cell? (Addr.add ⟨vb, 0, none⟩ j) = some u := fun j u hj => by rw [add_none]; exact hvb.cellAt hj
    have HXS := Lib.hid hxs
    have HONE := Lib.hid h1x
    have HX3 := Lib.hid hx3
    clear hxs h1x hx3 hvb h1c hl
    rcases ho with ⟨rfl, -⟩ | ⟨g, cap, cur, rfl, -, -, -, hcap, -, -⟩
    · clear hne
      go_enter Tryz.func22, Tryz.ntmps22
      go_wp2_with (at_builtin; refine wpList_append_lies _ rfl (.tmp 23) (.tmp 24) 27 rfl base 36 il (.agg #[.int .i64 0, .bool false, .slice none 0 0]) 3 40 Tryz.underlying27 hil hz0 hz1 hz2 rfl (by decide) _ 0 [] rfl hown ⟨vb, 0, none⟩ 1 1 xs rfl (by rw [HX3.out]) HXS.out HONE.out (by decide) ?c3 ?c4 hb w.heap.size rfl ?_)
      case c3 => unfold maxLen; omega
      case c4 => omega
      intro g c' w' h1 h2 h3 _
      have H1 := Lib.hid h1
      have H2 := Lib.hid h2
      have H3 := Lib.hid h3
      clear h1 h2 h3
      go_wp2
      go_ret
      refine ⟨g, c', rfl, by simpa using H1.out, H2.out, ?_⟩
      rcases H3.out with h | h
      · exact .inl h
      · exact .inr (by omega)
    · by_cases hcz : cap = 0
      all_goals
        go_enter Tryz.func22, Tryz.ntmps22
        go_wp2_with (at_builtin; refine wpList_append_lies _ rfl (.tmp 23) (.tmp 24) 27 rfl base 36 il (.agg #[.int .i64 0, .bool false, .slice none 0 0]) 3 40 Tryz.underlying27 hil hz0 hz1 hz2 rfl (by decide) _ 0 [] rfl hown ⟨vb, 0, none⟩ 1 1 xs rfl (by rw [HX3.out]) HXS.out HONE.out (by decide) (by unfold maxLen; omega) (by omega) hb w.heap.size rfl ?_)
        intro g c' w' h1 h2 h3 _
        have H1 := Lib.hid h1
        have H2 := Lib.hid h2
        have H3 := Lib.hid h3
        clear h1 h2 h3
        go_wp2
        go_ret
        refine ⟨g, c', rfl, by simpa using H1.out, H2.out, ?_⟩
        rcases H3.out with h | h
        · exact .inl h
        · exact .inr (by omega)
  · obtain ⟨hl, ⟨rfl, hz⟩ | ⟨g, cap, cur, rfl, hbg, hh, hnc, hcm, hcs, htk⟩⟩ := id hown
    · exact absurd hz hn0
    have hglt := lt_of_block hh
    have hgvb : vb ≠ g := fun e => hne (by rw [e]; rfl)
    have hblk : Blk w g 36 cur.toList := by unfold Blk; simpa using hh
    have hcl : cur.toList.length = cap * 3 := by simpa using hcs
    have hcap : ¬ (cap = 0) := by omega
    have hcap0 : (0 : Int) ≤ (cap : Int) := by omega
    unfold maxLen at hcm
    have hsrc : ∀ (W : World), Blk W g 36 cur.toList → ∀ j u, cs[j]? = some u → W.cell? (Addr.add ⟨g, 0, none⟩ j) = some u := fun W hW j u hj => by
      rw [add_none]
      refine hW.cellAt ?_
      rw [← htk] at hj
      rw [List.getElem?_take] at hj
      split at hj
      · exact hj
      · cases hj
    have hw1 : IntKind.i64.wrap 1 = 1 := rfl
    have hw2 : Int.toNat 1 = 1 := rfl
    have hw3 : (0 : Int) ≤ (n : Int) + 1 := by omega
    have hw4 : (1 : Int) ≤ (n : Int) + 1 := by omega
    have hnz : ((n : Int) == 0) = false := by rw [beq_eq_false_iff_ne]; omega
    have hnz2 : ((0 : Int) == (n : Int)) = false := by rw [beq_eq_false_iff_ne]; omega
    have hnz3 : decide ((0 : Int) = (n : Int)) = false := by rw [decide_eq_false_iff_not]; omega
    have hnz4 : ¬ ((0 : Int) = (n : Int)) := by omega
    by_cases hroom : n + 1 ≤ cap
    · have hov : ∀ lb cb, (callFunc 39 #[.slice (some ⟨vb, 0, none⟩) 1 1, .slice (some ⟨g, 3, none⟩) lb cb]).run Tryz.prog w = .ok (.value (.bool false)) w := fun lb cb => by
        rw [run_callFunc_extern Tryz.func39 (by kernel_rfl) (by kernel_rfl) (by kernel_rfl) (e := Extern.SlicesOverlaps.overlaps #[27, 27] #[4]) (by kernel_rfl),
          Lib.run_overlaps_apart w 27 4 36 Tryz.underlying27 3 (fun w => by kernel_rfl) ⟨vb, 0, none⟩ ⟨g, 3, none⟩ 1 1 lb cb hgvb 36 36 xs.length cur.size
            (by unfold World.shape?; unfold Blk at hvb; rw [hvb]; simp) (by unfold World.shape?; rw [hh]) (by rw [hcs]; omega) (hvb.frozen 0) (hvb.frozen _)]
        rfl
      have hg1 : ¬ ((cap : Int) < (n : Int) + 1) := by omega
      have hg2 : decide ((cap : Int) < (n : Int) + 1) = false := by rw [decide_eq_false_iff_not]; omega
      have hg3 : ¬ (cap = 1) := by omega
      have HOV := Lib.hid hov
      have HB := Lib.hid hblk
      have HVB := Lib.hid hvb
      have HS := Lib.hid hsrc
      have H1C := Lib.hid h1c
      have H1X := Lib.hid h1x
      have HX3 := Lib.hid hx3
      have HL := Lib.hid hl
      have HCL := Lib.hid hcl
      clear hov hblk hvb hsrc h1c h1x hx3 hl hcl hcs htk hh hown hz0 hz1 hz2 hil
      go_enter Tryz.func22, Tryz.ntmps22
      go_wp2_with (simp only [HOV.out])
      go_region_law (refine step_copyN rfl (.tmp 73) (.tmp 76) 27 27 rfl 36 3 Tryz.underlying27 size_el (some ⟨g, 3, none⟩) (some ⟨g, 0, none⟩) n (cap - 1) (n + 1) cap (by simp [Act.eval, Act.put]) (by simp [Act.eval, Act.put]) n g 3 ⟨g, 0, none⟩ cur.toList 36 cs rfl rfl HB.out (by simp only [Nat.min_def]; split <;> omega) HL.out (HS.out _ HB.out) (by rw [HL.out, HCL.out]; omega) H1C.out ?_; intro w4 hb4 ho4)
      have HB4 := Lib.hid hb4
      have HO4 := Lib.hid ho4
      have HV4 := Lib.hid (HVB.out.same ((ho4.block vb HVB.out.lt (fun e => hgvb e))))
      clear hb4 ho4
      go_wp2_with ((with_reducible show wpList _ _ _ (⟨some 82, _, _, _, _, _⟩ :: _) _ _); refine wpList_copyN rfl (.tmp 80) (.tmp 81) 27 27 rfl 36 3 Tryz.underlying27 size_el _ _ _ _ _ _ rfl rfl 1 g 0 ⟨vb, 0, none⟩ (splice cur.toList 3 cs) 36 xs rfl rfl HB4.out ?k1 (by rw [HX3.out]) ?k2 ?k3 H1X.out ?_)
      case k1 => simp only [Nat.min_def]; split <;> omega
      case k2 => intro j u hj; rw [add_none]; exact HV4.out.cellAt hj
      case k3 => rw [HX3.out, length_splice _ _ _ (by rw [HL.out, HCL.out]; omega), HCL.out]; omega
      intro w5 hb5 ho5
      have HB5 := Lib.hid hb5
      have HO5 := Lib.hid ho5
      clear hb5 ho5
      go_wp2
      go_ret
      have ho := HO4.out.trans HO5.out (fun _ _ h => h)
      refine ⟨g, cap, rfl, ⟨by rw [List.length_append, HX3.out, HL.out]; omega, .inr ⟨g, cap, (splice (splice cur.toList 3 cs) 0 xs).toArray, rfl, hbg, HB5.out, hroom, by unfold maxLen; omega, ?_, ?_⟩⟩, ⟨ho.os, ho.tape, ho.output, ho.size, fun k hk hs => ho.block k hk (fun e => hs (by rw [e]; rfl))⟩, .inl rfl⟩
      · have h4 := length_splice cur.toList 3 cs (by rw [HL.out, HCL.out]; omega)
        have h5 := length_splice (splice cur.toList 3 cs) 0 xs (by rw [h4, HX3.out, HCL.out]; omega)
        simp only [List.size_toArray, h5, h4, HCL.out]
      · unfold splice
        simp only [List.take_zero, List.nil_append, Nat.zero_add, HX3.out]
        rw [List.drop_append_of_le_length (by rw [List.length_take, HCL.out]; omega)]
        rw [show (cur.toList.take 3).drop 3 = [] by simp, List.nil_append, ← List.append_assoc]
        exact List.take_left' (by rw [List.length_append, HX3.out, HL.out]; omega)
    · obtain rfl : cap = n := by omega
      have hold : (Builtin.firstCells il.size 0 (.slice (some ⟨g, 0, none⟩) 0 cap)).run Tryz.prog w.drew = .ok ([] : List Value).toArray w.drew := run_firstCells_some w.drew il.size 0 ⟨g, 0, none⟩ 0 cap [] (by simp) (fun j v hj => by simp at hj)
      have hrz : ∀ ty, (Builtin.append_ #[27, 3] ty #[.slice (some ⟨g, 0, none⟩) 0 cap, .int .i64 ((cap : Int) + 1)]).run Tryz.prog w =
          .ok (.slice (some ⟨w.heap.size, 0, none⟩) (cap + 1) (grownCap w (cap + 1) cap 36)) (w.drew.alloc (.cells (Builtin.zeroCells (Value.agg #[.int .i64 0, .bool false, .slice none 0 0]).cells (cap + 1) ++ Builtin.zeroCells (Value.agg #[.int .i64 0, .bool false, .slice none 0 0]).cells (grownCap w (cap + 1) cap 36 - (cap + 1))) 36)) := fun ty => by
        have h := Lib.run_append_grow_zeros w 27 3 ty 36 il _ .i64 .i64 Tryz.underlying27 Tryz.underlying3 hil hz0 (some ⟨g, 0, none⟩) 0 cap [] hold (cap + 1) (by omega) (by rw [hz1]; decide) (by omega) (by omega) (by rw [hz2]; omega) (by rw [hz2, Nat.zero_add]; exact growslice_fits (by omega) (by omega))
        simp only [Nat.zero_add, Array.empty_append] at h
        rw [show ((cap + 1 : Nat) : Int) = (cap : Int) + 1 by omega] at h
        exact h
      obtain ⟨G, hG⟩ : ∃ G, G = grownCap w (cap + 1) cap 36 := ⟨_, rfl⟩
      obtain ⟨ROW, hROW⟩ : ∃ ROW : Array Value, ROW = Builtin.zeroCells (Value.agg #[.int .i64 0, .bool false, .slice none 0 0]).cells (cap + 1) ++ Builtin.zeroCells (Value.agg #[.int .i64 0, .bool false, .slice none 0 0]).cells (G - (cap + 1)) := ⟨_, rfl⟩
      rw [← hG] at hrz
      rw [← hROW] at hrz
      have hGn : cap + 1 ≤ G := by rw [hG]; exact grownCap_ge w _ _ _
      have hG63 : G ≤ maxLen := by rw [hG]; exact grownCap_le_maxLen w (cap + 1) cap 36 (by unfold maxLen; omega)
      have hRl : ROW.size = G * 3 := by
        rw [hROW]
        simp [Builtin.zeroCells, Value.cells]
        omega
      have hN := Blk.newAt w.drew 36 ROW rfl
      have hoN : Only (fun _ => False) w (w.drew.alloc (.cells ROW 36)) := ((Only.refl _ w).drew).alloc _
      obtain ⟨W1, hW1⟩ : ∃ W1, W1 = w.drew.alloc (.cells ROW 36) := ⟨_, rfl⟩
      rw [← hW1] at hrz hN hoN
      have hvb1 : Blk W1 vb 36 xs := hvb.only hoN (fun f => f)
      have hgN : Blk W1 g 36 cur.toList := hblk.only hoN (fun f => f)
      have hrl : ROW.toList.length = G * 3 := by simpa using hRl
      have hz9 : (cap : Int) < (cap : Int) + 1 := by omega
      have hG1 : ¬ (G = 1) := by omega
      have hG0 : ¬ (G = 0) := by omega
      have hgw : g ≠ w.heap.size := by omega
      have hvw : vb ≠ w.heap.size := by have := hvb.lt; omega
      have HRZ := Lib.hid hrz
      have HN := Lib.hid hN
      have HON := Lib.hid hoN
      have HV1 := Lib.hid hvb1
      have HGN := Lib.hid hgN
      have HRL := Lib.hid hrl
      have HS := Lib.hid hsrc
      have H1C := Lib.hid h1c
      have H1X := Lib.hid h1x
      have HX3 := Lib.hid hx3
      have HL := Lib.hid hl
      have HG63 := Lib.hid hG63
      have hG64 : (G : Int) ≤ 9223372036854775807 := by unfold maxLen at hG63; omega
      clear hrz hN hoN hvb1 hgN hrl hsrc h1c h1x hx3 hl hcl hcs htk hh hown hz0 hz1 hz2 hil hW1 hROW hG hRl hold hblk hvb hroom hG63
      go_enter Tryz.func22, Tryz.ntmps22
      go_wp2_with (first
        | (at_builtin; refine Lib.wpList_append_run _ rfl _ _ _ _ rfl _ _ rfl rfl _ _ (HRZ.out _) ?_)
        | ((with_reducible show wpList _ _ _ (⟨some 45, _, _, _, _, _⟩ :: _) _ _); refine wpList_copyN rfl (.tmp 43) (.tmp 44) 27 27 rfl 36 3 Tryz.underlying27 size_el _ _ _ _ _ _ rfl rfl 1 w.heap.size 0 ⟨vb, 0, none⟩ ROW.toList 36 xs rfl rfl HN.out ?k1 (by rw [HX3.out]) ?k2 ?k3 H1X.out ?_))
      case k1 => simp only [Nat.min_def]; split <;> omega
      case k2 => intro j u hj; rw [add_none]; exact HV1.out.cellAt hj
      case k3 => rw [HX3.out, HRL.out]; omega
      intro w4 hb4 ho4
      have HB4 := Lib.hid hb4
      have HO4 := Lib.hid ho4
      have HG4 := Lib.hid (HGN.out.same ((ho4.block g HGN.out.lt (fun e => hgw e))))
      clear hb4 ho4
      go_wp2
      go_region_law (refine step_copyN rfl (.tmp 50) (.tmp 53) 27 27 rfl 36 3 Tryz.underlying27 size_el (some ⟨w.heap.size, 3, none⟩) (some ⟨g, 0, none⟩) cap (G - 1) cap cap (by simp [Act.eval, Act.put]) (by simp [Act.eval, Act.put]) cap w.heap.size 3 ⟨g, 0, none⟩ (splice ROW.toList 0 xs) 36 cs rfl rfl HB4.out (by simp only [Nat.min_def]; split <;> omega) HL.out (HS.out _ HG4.out) (by rw [length_splice _ _ _ (by rw [HX3.out, HRL.out]; omega), HL.out, HRL.out]; omega) H1C.out ?_; intro w5 hb5 ho5)
      have HB5 := Lib.hid hb5
      have HO5 := Lib.hid ho5
      clear hb5 ho5
      go_wp2
      go_ret
      have hs1 : w.heap.size < W1.heap.size := HN.out.lt
      have hs4 := HO4.out.size
      have hs5 := HO5.out.size
      have hs6 : w4.drew.heap.size = w4.heap.size := rfl
      have ho : Only (fun _ => False) w w5 := (HON.out.trans (HO4.out.drew.trans HO5.out (fun _ _ h => h)) (fun b hb e => by omega))
      have h4 := length_splice ROW.toList 0 xs (by rw [HX3.out, HRL.out]; omega)
      have h5 := length_splice (splice ROW.toList 0 xs) 3 cs (by rw [h4, HL.out, HRL.out]; omega)
      refine ⟨w.heap.size, G, rfl, ⟨by rw [List.length_append, HX3.out, HL.out]; omega, .inr ⟨w.heap.size, G, (splice (splice ROW.toList 0 xs) 3 cs).toArray, rfl, hb, HB5.out, hGn, HG63.out, ?_, ?_⟩⟩, ⟨ho.os, ho.tape, ho.output, ho.size, fun k hk hs => ho.block k hk (fun e => e)⟩, .inr (Nat.le_refl _)⟩
      · simp only [List.size_toArray, h5, h4, HRL.out]
      · unfold splice
        simp only [List.take_zero, List.nil_append, Nat.zero_add, HX3.out]
        rw [List.take_left' HX3.out, ← List.append_assoc]
        exact List.take_left' (by rw [List.length_append, HX3.out, HL.out]; omega)
end Go.Proofs.YthaampinmelgaaaGreatDoor

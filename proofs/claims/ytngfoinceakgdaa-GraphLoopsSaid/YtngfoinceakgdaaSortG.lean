/- The library's slices.SortFunc at a row of rows of the call's own, compared as lists. -/
import Derived.Test.YtngfoinceakgdaaGroup
import Derived.Test.YtngfoinceakgdaaSort
import Derived.Test.YtngfoinceakgdaaCompare
import Derived.Test.YtngfoinceakgdaaLoops
import Derived.Shelf.SlSortCmp.NoneTotal
import Derived.Test.YtngfoinceakgdaaLaid
import Derived.Ground.SlsfProg
namespace Go.Proofs.Ytngfoinceakgdaa
open Go.RowKit Go.Shelf Go.Sort


theorem swoG {m : Nat} (f : Fin m → List Nat) : SWO (ltOf fun i j => compareM (f i) (f j)) where
  irrefl x := by unfold ltOf; simp [compareM_lt_irrefl]
  trans x y z h1 h2 := by unfold ltOf at *; simp at *; exact compareM_trans _ _ _ h1 h2
  ntrans x y z h1 h2 := by
    unfold ltOf at *
    simp only [decide_eq_false_iff_not] at *
    intro h3
    by_cases h4 : compareM (f y) (f x) < 0
    · exact h2 (compareM_trans _ _ _ h4 h3)
    · have := compareM_eq _ _ h1 h4
      rw [this] at h3
      exact h2 h3

section
variable {α : Type} [Inhabited α]
theorem heap_sortedG {w : World} {g n : Nat} {os : Array Obj} {cur : Array Value} {e : TypeId} {fr : Nat × Nat} (enc : α → Value) (d : Array α) (hb : w.heap[g]? = some (.cells cur e fr)) :
    (sortWorld enc w g 0 n d os).heap[g]? = some (.cells (putCells enc 0 d cur) e fr) := by
  have hg : g < w.heap.size := (Array.getElem?_eq_some_iff.1 hb).1
  unfold sortWorld
  rw [heap_grow_old _ _ (by simpa using hg)]
  simp [putRow, mapBlock, Sort.ahead, Array.getElem?_modify, hb, onCells]
theorem grownBy_sortedG {w : World} {g n : Nat} {os : Array Obj} (enc : α → Value) (d : Array α) : w.grownBy (sortWorld enc w g 0 n d os) (some g) := by
  refine ⟨rfl, rfl, rfl, by simp [sortWorld], fun k hk hne => ?_⟩
  unfold sortWorld
  rw [heap_grow_old _ _ (by simpa using hk)]
  have : g ≠ k := fun e => hne (by rw [e])
  simp [putRow, mapBlock, Sort.ahead, Array.getElem?_modify, this]
theorem take_putCellsG (enc : α → Value) (cur : Array Value) (ts : List α) (h : ts.length ≤ cur.size) : (putCells enc 0 ts.toArray cur).toList.take ts.length = ts.map enc := by
  apply List.ext_getElem?
  intro j
  by_cases hj : j < ts.length
  · rw [List.getElem?_take_of_lt hj, Array.getElem?_toList]
    simp [putCells, hj, show j < cur.size by omega]
  · rw [List.getElem?_take_eq_none (by omega), List.getElem?_eq_none (by simp; omega)]
end

theorem toArray_get! {α : Type} [Inhabited α] (l : List α) (j : Nat) (h : j < l.length) : l.toArray[j]! = l[j] := by
  rw [getElem!_pos _ j (by simpa using h)]; simp

theorem nats_fam {w : World} {base : Nat} {R : List Value} {L : List (List Nat)} (h : Fam 3 w base R L) {i : Nat} {v : Value} {l : List Nat} (hv : R[i]? = some v) (hl : L[i]? = some l) : Nats w.heap.size w v l :=
  Sl.of_own natV (fun _ _ => rfl) (h.own i v l hv hl)

theorem sortG_own (w : World) (base base' : Nat) (v : Value) (gs : List (List Nat)) (pvs : List Value) (hown : w.ownsRow base 27 1 v gs.length pvs) (hfam : Fam 3 w base' pvs gs) (hnd : gs.Nodup) (hpos : 0 < gs.length) (hlen : gs.length ≤ 100000) :
    Calls Try.prog 70 #[v, .func (.func 71) #[] #[]] w fun en w' => en = .returned (.tuple #[]) ∧ ∃ pvs', w'.ownsRow base 27 1 v gs.length pvs' ∧ Fam 3 w' base' pvs' (sortG gs) ∧ w.grownBy w' v.ownBlock := by
  have hown0 := hown
  rcases hown.2 with ⟨rfl, h0⟩ | ⟨g, cap, cur, rfl, hb, hh, h1, h2, h3, h4⟩
  · omega
  have hpl : pvs.length = gs.length := hfam.len
  haveI : Inhabited (Fin gs.length) := ⟨⟨0, hpos⟩⟩
  obtain ⟨enc, henc⟩ : ∃ enc : Fin gs.length → Value, enc = fun i => pvs[i.val]'(by rw [hpl]; exact i.isLt) := ⟨_, rfl⟩
  obtain ⟨f, hf⟩ : ∃ f : Fin gs.length → List Nat, f = fun i => gs[i.val] := ⟨_, rfl⟩
  have hencI : ∀ i : Fin gs.length, pvs[i.val]? = some (enc i) := fun i => by rw [henc]; exact List.getElem?_eq_getElem _
  have hfI : ∀ i : Fin gs.length, gs[i.val]? = some (f i) := fun i => by rw [hf]; exact List.getElem?_eq_getElem _
  have hfr : (List.finRange gs.length).map f = gs := by
    apply List.ext_getElem?
    intro i
    by_cases hi : i < gs.length
    · rw [List.getElem?_map, List.getElem?_eq_getElem (by simpa using hi)]
      simp [hf, hi]
    · rw [List.getElem?_eq_none (by simp; omega), List.getElem?_eq_none (by omega)]
  have hpr : (List.finRange gs.length).map enc = pvs := by
    apply List.ext_getElem?
    intro i
    by_cases hi : i < gs.length
    · rw [List.getElem?_map, List.getElem?_eq_getElem (by simpa using hi)]
      simp [henc, hi, hpl]
    · rw [List.getElem?_eq_none (by simp; omega), List.getElem?_eq_none (by omega)]
  have h1c : OneCell enc := fun i => by
    obtain ⟨A, c, hs⟩ := own_slice (hfam.own _ _ _ (hencI i) (hfI i))
    rw [hs]; rfl
  have hH : Holds enc w g 0 (List.finRange gs.length).toArray := by
    intro j hj
    have hj' : j < gs.length := by simpa using hj
    rw [Nat.zero_add, toArray_get! _ _ (by simpa using hj')]
    refine ⟨?_, by simp [World.frozen?, hh]⟩
    have := hown0.cells (g := g) rfl j (enc ((List.finRange gs.length)[j]'(by simpa using hj'))) (by have := hencI ⟨j, hj'⟩; simpa using this)
    rwa [add_none] at this
  have hcmp : CmpLays1 Try.prog 71 #[] enc (fun i j => compareM (f i) (f j)) g 0 (List.finRange gs.length).toArray.size w := by
    refine CmpReads.lays (fun m os dk hdk x y => ?_)
    have hgr : w.grownBy (sortWorld enc w g 0 m dk os) (some g) := grownBy_sortedG enc dk
    have hF : Fam 3 (sortWorld enc w g 0 m dk os) base' pvs gs := hfam.grown hgr (fun b hbb u hu hub => by
      cases hbb
      obtain ⟨i, hi⟩ := List.mem_iff_getElem?.1 hu
      obtain ⟨l, _, ho⟩ := hfam.get hi
      rcases own_types ho hown0 (by decide) with h | h
      · rw [h] at hub; cases hub
      · exact h hub)
    refine (compare_any _ (sortWorld enc w g 0 m dk os) (enc x) (enc y) (f x) (f y) (nats_fam hF (hencI x) (hfI x)) (nats_fam hF (hencI y) (hfI y))).mono ?_
    rintro en w' ⟨rfl, rfl⟩
    exact ⟨rfl, 0, rfl⟩
  have eg : ∀ args w, (callFunc 71 args).run Try.prog w = .ok (.enter 71 args) w := enters_of Try.func71 (by kernel_rfl) rfl
  have hT : ∀ x y, (ltOf fun i j => compareM (f i) (f j)) x y = false → (ltOf fun i j => compareM (f i) (f j)) y x = false → x = y := fun x y hx hy => by
    unfold ltOf at hx hy
    have := compareM_eq (f x) (f y) (by simpa using hx) (by simpa using hy)
    rw [hf] at this
    exact Fin.ext ((List.getElem_inj hnd).1 this)
  have hc := Any.slices_SortFunc_total Try.lsf enc h1c (fun i j => compareM (f i) (f j)) (swoG f) 71 #[] g 0 cap (List.finRange gs.length).toArray w eg hcmp hH (lt_of_block hh) (by simp; omega) hT
  change Calls Try.prog 70 _ _ _ at hc
  rw [show (List.finRange gs.length).toArray.size = gs.length by simp] at hc
  refine hc.mono ?_
  rintro en w' ⟨rfl, q, os, rfl⟩
  obtain ⟨ts, hts⟩ : ∃ ts, ts = ((List.finRange gs.length).toArray.toList.mergeSort fun x y => !(ltOf fun i j => compareM (f i) (f j)) y x) := ⟨_, rfl⟩
  rw [← hts]
  have hperm : ts.Perm (List.finRange gs.length) := by rw [hts]; exact List.mergeSort_perm _ _
  have htl : ts.length = gs.length := by rw [hperm.length_eq]; simp
  have hnt : ts.Nodup := hperm.nodup_iff.2 (List.nodup_finRange _)
  have hsg : ts.map f = sortG gs := by
    rw [hts]
    unfold sortG
    rw [List.map_mergeSort (s := fun a b => !decide (compareM b a < 0)), hfr]
    intro a _ b _
    rfl
  have hgr : w.grownBy (sortWorld enc w g 0 q ts.toArray os) (some g) := grownBy_sortedG enc _
  have hF : Fam 3 (sortWorld enc w g 0 q ts.toArray os) base' pvs gs := hfam.grown hgr (fun b hbb u hu hub => by
      cases hbb
      obtain ⟨i, hi⟩ := List.mem_iff_getElem?.1 hu
      obtain ⟨l, _, ho⟩ := hfam.get hi
      rcases own_types ho hown0 (by decide) with h | h
      · rw [h] at hub; cases hub
      · exact h hub)
  refine ⟨rfl, ts.map enc, ⟨by simp [htl], .inr ⟨g, cap, _, rfl, hb, heap_sortedG _ _ hh, h1, h2, by simp [putCells, h3], ?_⟩⟩, ?_, hgr⟩
  · have h := take_putCellsG enc cur ts (by omega)
    rw [Nat.mul_one]
    exact (congrArg (fun q => List.take q (putCells enc 0 ts.toArray cur).toList) htl.symm).trans h
  · rw [← hsg]
    refine ⟨by simp, fun i u l hu hl => ?_, fun i j u x hu hx hne => ?_⟩
    · rw [List.getElem?_map] at hu hl
      obtain ⟨a, ha, rfl⟩ := Option.map_eq_some_iff.1 hu
      rw [ha] at hl
      obtain rfl : f a = l := by simpa using hl
      exact hF.own _ _ _ (hencI a) (hfI a)
    · rw [List.getElem?_map] at hu hx
      obtain ⟨a, ha, rfl⟩ := Option.map_eq_some_iff.1 hu
      obtain ⟨c, hc', rfl⟩ := Option.map_eq_some_iff.1 hx
      refine hF.apart a.val c.val _ _ (hencI a) (hencI c) (fun hac => hne ?_)
      obtain rfl : a = c := Fin.ext hac
      obtain ⟨hi1, hi2⟩ := List.getElem?_eq_some_iff.1 ha
      obtain ⟨hj1, hj2⟩ := List.getElem?_eq_some_iff.1 hc'
      exact (List.getElem_inj hnt).1 (hi2.trans hj2.symm)

#print axioms sortG_own

end Go.Proofs.Ytngfoinceakgdaa

/- A region whose last operations may come in several orders: what stands ahead of them under a condition on the world, the rest order by order. -/
import Derived.StillTail
import Derived.OrdersHeld
import Derived.Deep.RegionHeld3
namespace Go.Proofs.YthaampinmelgaaaGreatDoor.F2
open Go

section
variable {P : Program} {ops : Array Oper} {Q : Exit → Act → World → Prop} {md : Region.Mode} {S : World → Prop}

def frontB (md : Region.Mode) (ops : Array Oper) (sk n : Nat) : Bool :=
  Region.noSelect ops && decide (n < ops.size) && decide (0 < n) && ((List.range ops.size).all fun t => decide (t < n) || (List.range t).any fun j => decide (n - 1 ≤ j) && Region.waitsFor md ops t j) &&
    ((List.range (n - 1)).all fun i => i == sk || (List.range n).any fun j => decide (i < j) && Region.waitsFor md ops j i)

/-- Whatever order is picked, for f operations, all of the front; S behind each; L at the end. -/
def wpFront (P : Program) (md : Region.Mode) (ops : Array Oper) (Q : Exit → Act → World → Prop) (S : World → Prop) (n : Nat) (L : Array Bool → Act → World → Prop) : Nat → Array Bool → Act → World → Prop
  | 0, l, a, w => L l a w
  | f + 1, l, a, w => Region.ready md ops l ≠ [] ∧ ∀ i ∈ Region.ready md ops l, i < n ∧ wpOp P ops Q i (fun a' w' => S w' ∧ wpFront P md ops Q S n L f (l.setIfInBounds i true) a' w') a w

theorem wpAny_of_front {n g : Nat} {L : Array Bool → Act → World → Prop} (hL : ∀ l a w, L l a w → wpAny P md ops Q g l a w) :
    ∀ (f : Nat) (l : Array Bool) (a : Act) (w : World), wpFront P md ops Q S n L f l a w → wpAny P md ops Q (f + g) l a w
  | 0, l, a, w, h => by rw [Nat.zero_add]; exact hL _ _ _ h
  | f + 1, l, a, w, h => by
    rw [show f + 1 + g = (f + g) + 1 by omega]
    exact ⟨fun h0 => absurd h0 h.1, fun i hi => wpOp_mono (fun a' w' h' => wpAny_of_front hL f _ a' w' h'.2) (h.2 i hi).2⟩

theorem late_waits {sk n : Nat} {l : Array Bool} (hB : frontB md ops sk n = true) (inv : HeadInv md ops n l) (hsk : l.getD sk false = true) (hskn : sk < n - 1) :
    ∀ (i : Nat), i < n → l.getD i true = false → ∀ t, n ≤ t → t ∉ Region.ready md ops l := by
  simp only [frontB, Bool.and_eq_true, decide_eq_true_eq] at hB
  obtain ⟨⟨⟨⟨-, hn⟩, hn0⟩, hc⟩, hs⟩ := hB
  have last : ∀ (d i : Nat), n - 1 - i = d → i < n → l.getD i true = false → l.getD (n - 1) true = false := by
    intro d
    induction d using Nat.strongRecOn with
    | _ d ih =>
      intro i hd hi hun
      by_cases hin : i = n - 1
      · subst hin; exact hun
      · have h1 := List.all_eq_true.1 hs i (List.mem_range.2 (by omega))
        simp only [Bool.or_eq_true, beq_iff_eq] at h1
        rcases h1 with h1 | h1
        · subst h1; rw [getD_both hun] at hsk; cases hsk
        obtain ⟨j, hj, hj2⟩ := List.any_eq_true.1 h1
        simp only [Bool.and_eq_true, decide_eq_true_eq] at hj2
        obtain ⟨oj, hoj, e, he, hb, hon⟩ := Region.waitsFor_spec hj2.2
        have hjn := List.mem_range.1 hj
        cases hl : l.getD j false with
        | true =>
          have h2 := inv.closed j oj hoj hl e he hb
          rw [hon, getD_both hun] at h2
          cases h2
        | false => exact ih (n - 1 - j) (by omega) j rfl hjn (getD_in (by rw [inv.size]; omega) hl)
  intro i hi hun t ht hr
  have hun1 := last _ i rfl hi hun
  obtain ⟨_, ot, hot, hall⟩ := mem_ready.1 hr
  have htlt : t < ops.size := (Array.getElem?_eq_some_iff.1 hot).1
  have h1 := List.all_eq_true.1 hc t (List.mem_range.2 htlt)
  simp only [Bool.or_eq_true, decide_eq_true_eq] at h1
  rcases h1 with h1 | h1
  · omega
  obtain ⟨j, hj, hj2⟩ := List.any_eq_true.1 h1
  simp only [Bool.and_eq_true, decide_eq_true_eq] at hj2
  obtain ⟨oj, hoj, e, he, hb, hon⟩ := Region.waitsFor_spec hj2.2
  obtain rfl : oj = ot := Option.some.inj (hoj.symm.trans hot)
  have h2 := hall e he hb
  have hjt := List.mem_range.1 hj
  by_cases hjn : j = n - 1
  · rw [hon, hjn, getD_both hun1] at h2; cases h2
  · rw [hon, getD_both (inv.tail j (by omega) (by omega))] at h2; cases h2

theorem wpFront_first {sk n i : Nat} {oi : Oper} {v : Value} {L : Array Bool → Act → World → Prop} (hi : ops[i]? = some oi) (hB : frontB md ops sk n = true) (hskn : sk < n - 1) (hin : i < n)
    (hQ : ∀ c a w, Q (.panic c) (a.put oi.dst v) w → Q (.panic c) a w)
    (hdone : ∀ l a w, L l a w → ∀ j ∈ Region.ready md ops l, n ≤ j) :
    ∀ (f : Nat) (l : Array Bool) (a : Act) (w : World), HeadInv md ops n l → l.getD sk false = true →
      (∀ j oj, ops[j]? = some oj → j ≠ i → l.getD j true = false → (∀ e ∈ oj.after, Region.binds md e = true → e.on ≠ i) → oi.apart ops oj = true) →
      i ∈ Region.ready md ops l → YieldsIf P ops S oi v a → S w →
      wpFront P md ops Q S n L f (l.setIfInBounds i true) (a.put oi.dst v) w → wpFront P md ops Q S n L (f + 1) l a w := by
  have hsel : ∀ (j : Nat) (o : Oper) cs b, ops[j]? = some o → o.op ≠ .select cs b := by
    simp only [frontB, Bool.and_eq_true] at hB
    exact Region.noSelect_spec hB.1.1.1.1
  intro f
  induction f with
  | zero =>
    intro l a w inv hsk _ hr hy hS H
    have hun := (mem_ready.1 hr).1
    refine ⟨fun h => (by rw [h] at hr; cases hr), fun j hj => ?_⟩
    have hjn : j < n := by
      rcases Nat.lt_or_ge j n with h | h
      · exact h
      · exact absurd hj (late_waits hB inv hsk hskn i hin hun j h)
    refine ⟨hjn, ?_⟩
    by_cases hji : j = i
    · subst hji; exact hy.wpOp hi hS ⟨hS, H⟩
    · have := hdone _ _ _ H j (ready_mono hj hji)
      omega
  | succ f ih =>
    intro l a w inv hsk hfree hr hy hS H
    have hun := (mem_ready.1 hr).1
    refine ⟨fun h => (by rw [h] at hr; cases hr), fun j hj => ?_⟩
    by_cases hji : j = i
    · subst hji; exact ⟨hin, hy.wpOp hi hS ⟨hS, H⟩⟩
    · obtain ⟨hjn, h1⟩ := H.2 j (ready_mono hj hji)
      refine ⟨hjn, ?_⟩
      obtain ⟨hjun, oj, hoj, hall⟩ := mem_ready.1 hj
      have hnot : ∀ e ∈ oj.after, Region.binds md e = true → e.on ≠ i := fun e he hb heq => by
        have h1 := hall e he hb
        rw [heq, getD_both hun] at h1
        cases h1
      have h2 := wpOp_putIf hoj (hfree j oj hoj hji hjun hnot) (fun cs b => hsel i oi cs b hi) (fun cs b => hsel j oj cs b hoj) hQ hy h1
      have hfree' : ∀ k ok, ops[k]? = some ok → k ≠ i → (l.setIfInBounds j true).getD k true = false →
          (∀ e ∈ ok.after, Region.binds md e = true → e.on ≠ i) → oi.apart ops ok = true := fun k ok hk hki hun hno => by
        refine hfree k ok hk hki ?_ hno
        by_cases hjk : j = k
        · subst hjk; exact hjun
        · rw [getD_set_ne true hjk] at hun; exact hun
      refine wpOp_mono (fun a' w' h3 => ⟨h3.2.1, ih (l.setIfInBounds j true) a' w' (inv.set hj hjn) (getD_set_true hsk) hfree' (ready_mono hr (Ne.symm hji)) h3.1 h3.2.1 ?_⟩) h2
      rw [Array.setIfInBounds_comm _ _ hji]
      exact h3.2.2

/-- What is asked at the end of the front: whatever order the rest comes in. -/
def Tail (P : Program) (ops : List Oper) (Q : Exit → Act → World → Prop) (n : Nat) (l : Array Bool) (a : Act) (w : World) : Prop :=
  (∀ j ∈ Region.ready .any ops.toArray l, n ≤ j) ∧ wpAny P .any ops.toArray Q (ops.length - n) l a w

/-- The front, with its invariant. -/
def Front (P : Program) (ops : List Oper) (Q : Exit → Act → World → Prop) (S : World → Prop) (sk n f : Nat) (l : Array Bool) (a : Act) (w : World) : Prop :=
  frontB .any ops.toArray sk n = true → sk < n - 1 → HeadInv .any ops.toArray n l → l.getD sk false = true → wpFront P .any ops.toArray Q S n (Tail P ops Q n) f l a w

theorem Front.take {l : List Oper} {sk n f : Nat} (i : Nat) {oi : Oper} {v : Value} {s : Array Bool} {a : Act} {w : World} (hi : l[i]? = some oi) (hin : i < n)
    (hf : Region.free .any l.toArray s i = true) (hr : (Region.ready .any l.toArray s).contains i = true)
    (hQ : ∀ c a w, Q (.panic c) (a.put oi.dst v) w → Q (.panic c) a w) (hg : oi.guard = none) (hS : S w) (hy : ∀ w, S w → (execOp a.eval oi).run P w = .ok (.value v) w)
    (h : Front P l Q S sk n f (s.setIfInBounds i true) (a.put oi.dst v) w) : Front P l Q S sk n (f + 1) s a w := fun hB hskn inv hsk => by
  have hr' : i ∈ Region.ready .any l.toArray s := by simpa using hr
  have hi' : l.toArray[i]? = some oi := by simpa using hi
  exact wpFront_first hi' hB hskn hin hQ (fun l' a' w' hL => hL.1) f s a w inv hsk (Region.free_spec hi' hf) hr' (.inl ⟨by unfold Region.wanted; rw [hg], hy⟩) hS (h hB hskn (inv.set hr' hin) (getD_set_true hsk))

/-- One operation that comes up, carried out. -/
def FrontStep (P : Program) (l : List Oper) (Q : Exit → Act → World → Prop) (S : World → Prop) (sk n f : Nat) (s : Array Bool) (a : Act) (w : World) (i : Nat) : Prop :=
  wpOp P l.toArray Q i (fun a' w' => S w' ∧ Front P l Q S sk n f (s.setIfInBounds i true) a' w') a w

theorem FrontStep.of {l : List Oper} {sk n f i : Nat} {s : Array Bool} {a : Act} {w : World} {o : Oper} (hi : l[i]? = some o)
    (h : ∀ K : Act → World → Prop, (∀ a' w', S w' → Front P l Q S sk n f (s.setIfInBounds i true) a' w' → K a' w') → if Region.wanted o (yielded l.toArray a.tmps) = true then Oper.wp P o a w K Q else K (a.put o.dst undef) w) :
    FrontStep P l Q S sk n f s a w i := by
  unfold FrontStep wpOp
  have hi' : l.toArray[i]? = some o := by simpa using hi
  simp only [hi']
  have := h (fun a' w' => S w' ∧ Front P l Q S sk n f (s.setIfInBounds i true) a' w') (fun a' w' h1 h2 => ⟨h1, h2⟩)
  split
  · rename_i hw; rw [if_pos hw] at this; exact .inl this
  · rename_i hw; rw [if_neg hw] at this; exact this

theorem Front.one {l : List Oper} {sk n f i : Nat} {s : Array Bool} {a : Act} {w : World} (hr : Region.ready .any l.toArray s = [i]) (hlt : i < n)
    (h : FrontStep P l Q S sk n f s a w i) : Front P l Q S sk n (f + 1) s a w := fun hB hskn inv hsk => by
  have hm : ∀ j ∈ Region.ready .any l.toArray s, j = i := by rw [hr]; simp
  refine ⟨by rw [hr]; simp, fun j hj => ?_⟩
  obtain rfl := hm j hj
  exact ⟨hlt, wpOp_mono (fun a' w' h' => ⟨h'.1, h'.2 hB hskn (inv.set hj hlt) (getD_set_true hsk)⟩) h⟩

theorem Front.two {l : List Oper} {sk n f i j : Nat} {s : Array Bool} {a : Act} {w : World} (hr : Region.ready .any l.toArray s = [i, j]) (hi : i < n) (hj : j < n)
    (h1 : FrontStep P l Q S sk n f s a w i) (h2 : FrontStep P l Q S sk n f s a w j) : Front P l Q S sk n (f + 1) s a w := fun hB hskn inv hsk => by
  have hm : ∀ k ∈ Region.ready .any l.toArray s, k = i ∨ k = j := by rw [hr]; simp
  refine ⟨by rw [hr]; simp, fun k hk => ?_⟩
  rcases hm k hk with rfl | rfl
  · exact ⟨hi, wpOp_mono (fun a' w' h' => ⟨h'.1, h'.2 hB hskn (inv.set hk hi) (getD_set_true hsk)⟩) h1⟩
  · exact ⟨hj, wpOp_mono (fun a' w' h' => ⟨h'.1, h'.2 hB hskn (inv.set hk hj) (getD_set_true hsk)⟩) h2⟩

theorem Front.done {l : List Oper} {sk n : Nat} {s : Array Bool} {a : Act} {w : World} (hs : ((Region.ready .any l.toArray s).all fun j => decide (n ≤ j)) = true) (h : wpAny P .any l.toArray Q (l.length - n) s a w) : Front P l Q S sk n 0 s a w :=
  fun _ _ _ _ => ⟨fun j hj => by simpa using List.all_eq_true.1 hs j hj, h⟩
/-- One operation of the rest that comes up. -/
theorem any_one {l : List Oper} {g i : Nat} {o : Oper} {s : Array Bool} {a : Act} {w : World} (hr : Region.ready .any l.toArray s = [i]) (hi : l[i]? = some o)
    (h : ∀ K : Act → World → Prop, (∀ a' w', wpAny P .any l.toArray Q g (s.setIfInBounds i true) a' w' → K a' w') → if Region.wanted o (yielded l.toArray a.tmps) = true then Oper.wp P o a w K Q else K (a.put o.dst undef) w) : wpAny P .any l.toArray Q (g + 1) s a w := by
  refine ⟨fun h0 => (by rw [hr] at h0; cases h0), fun j hj => ?_⟩
  rw [hr] at hj
  obtain rfl : j = i := by simpa using hj
  unfold wpOp
  have hi' : l.toArray[j]? = some o := by simpa using hi
  simp only [hi']
  have := h (fun a' w' => wpAny P .any l.toArray Q g (s.setIfInBounds j true) a' w') (fun a' w' h1 => h1)
  split at this
  · rename_i hw; rw [if_pos hw]; exact .inl this
  · rename_i hw; rw [if_neg hw]; exact this
theorem any_two {l : List Oper} {g i j : Nat} {s : Array Bool} {a : Act} {w : World} (hr : Region.ready .any l.toArray s = [i, j])
    (h1 : wpOp P l.toArray Q i (wpAny P .any l.toArray Q g (s.setIfInBounds i true)) a w) (h2 : wpOp P l.toArray Q j (wpAny P .any l.toArray Q g (s.setIfInBounds j true)) a w) : wpAny P .any l.toArray Q (g + 1) s a w := by
  refine ⟨fun h0 => (by rw [hr] at h0; cases h0), fun k hk => ?_⟩
  rw [hr] at hk
  simp only [List.mem_cons, List.not_mem_nil, or_false] at hk
  rcases hk with rfl | rfl
  · exact h1
  · exact h2
theorem op_of {l : List Oper} {i : Nat} {o : Oper} {a : Act} {w : World} {L : Act → World → Prop} (hi : l[i]? = some o)
    (h : ∀ K : Act → World → Prop, (∀ a' w', L a' w' → K a' w') → if Region.wanted o (yielded l.toArray a.tmps) = true then Oper.wp P o a w K Q else K (a.put o.dst undef) w) : wpOp P l.toArray Q i L a w := by
  unfold wpOp
  have hi' : l.toArray[i]? = some o := by simpa using hi
  simp only [hi']
  have := h L (fun a' w' h1 => h1)
  split at this
  · rename_i hw; rw [if_pos hw]; exact .inl this
  · rename_i hw; rw [if_neg hw]; exact this

/-- The beginning: an operation that looks at no memory is taken ahead of all. -/
theorem wp_region_front {id : Nat} {a : Act} {w : World} {l : List Oper} (sk n : Nat) {oi : Oper} {v : Value} (hm : P.follows .mixedOrders = true) (hB : frontB .any l.toArray sk n = true) (hskn : sk < n - 1)
    (hi : l[sk]? = some oi) (hf : Region.free .any l.toArray (Array.replicate l.toArray.size false) sk = true) (hr : (Region.ready .any l.toArray (Array.replicate l.toArray.size false)).contains sk = true)
    (hQ : ∀ c a w, Q (.panic c) (a.put oi.dst v) w → Q (.panic c) a w) (hy : Yields P l.toArray oi v a)
    (h : Front P l Q S sk n (n - 1) ((Array.replicate l.toArray.size false).setIfInBounds sk true) (a.put oi.dst v) w.drew) : (Code.region id l.toArray true).wp P Q a w := by
  have hr' : sk ∈ Region.ready .any l.toArray (Array.replicate l.toArray.size false) := by simpa using hr
  have hi' : l.toArray[sk]? = some oi := by simpa using hi
  have hB' := hB
  simp only [frontB, Bool.and_eq_true, decide_eq_true_eq] at hB'
  have hnl : n < l.length := by simpa using hB'.1.1.1.2
  have hskn' : sk < n := by omega
  have inv0 : HeadInv .any l.toArray n (Array.replicate l.toArray.size false) :=
    ⟨by simp, fun j oj _ hl => (by rw [getD_replicate_false] at hl; cases hl), fun t _ ht => getD_in (by simpa using ht) (getD_replicate_false _ _)⟩
  have hsk : ((Array.replicate l.toArray.size false).setIfInBounds sk true).getD sk false = true := by
    simp [Array.getD_eq_getD_getElem?, show sk < l.length by omega]
  have H := h hB hskn (inv0.set hr' hskn') hsk
  refine wp_region_any hm ?_
  have key := wpAny_take hi' hB'.1.1.1.1 hf hr hQ hy (wpAny_of_front (md := .any) (P := P) (Q := Q) (S := S) (n := n) (g := l.length - n) (L := Tail P l Q n) (fun s a' w' hL => hL.2) (n - 1) _ _ _ H)
  rw [show n - 1 + (l.length - n) + 1 = l.toArray.size by simp; omega] at key
  exact key

end
end Go.Proofs.YthaampinmelgaaaGreatDoor.F2

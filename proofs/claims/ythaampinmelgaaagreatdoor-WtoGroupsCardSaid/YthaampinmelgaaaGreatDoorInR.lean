/- A region in the body of a range over a function, walked as everywhere: what is shown of every order outside a round holds in a round (no defer statements). Nothing here speaks of a program. -/
import Derived.Test.YthaampinmelgaaaGreatDoorFront
import Derived.Test.YthaampinmelgaaaGreatDoorRange
namespace Go.Proofs.YthaampinmelgaaaGreatDoor
open Go

/-- The operation is no defer statement. -/
def noDefer (o : Oper) : Bool := match o.op with
  | .defer _ => false
  | _ => true
theorem noDefer_ne {o : Oper} (h : noDefer o = true) : ∀ c, o.op ≠ .defer c := fun c hc => by
  unfold noDefer at h
  rw [hc] at h
  cases h
/-- The operation calls no row of the model's own. -/
theorem calls_round {n r : Nat} {P : Program} {f : FuncId} {args : Array Value} {w : World} {R : Ending → World → Prop} (h : Calls P f args w R) : CallsIn (Fence.wide.inRound r) n P f args w R :=
  CallsIn.inRound r (callsIn_wide.2 h)
section
variable {P : Program} {n r : Nat} {ops : Array Oper} {md : Region.Mode}
theorem rows_round {row : String} {args : Array Value} {w : World} {R : Value → World → Prop} (h : Rows P row args w R) : RowsIn (Fence.wide.inRound r) n P row args w R := fun c cs _ => by
  obtain ⟨v, w', hR, hs⟩ := h c cs
  exact ⟨v, w', hR, stepsIn_wide.2 hs⟩
theorem oper_round {o : Oper} {a : Act} {w : World} {K : Act → World → Prop} {Q : Exit → Act → World → Prop} (hd : noDefer o = true) (h : o.wp P a w K Q) : o.wpIn (Fence.wide.inRound r) n P a w K Q := by
  unfold Oper.wpIn
  refine ⟨fun _ _ => trivial, ?_⟩
  rw [Oper.semAt_eq _ _ _ (noDefer_ne hd)]
  unfold Oper.wp at h
  generalize (execOp a.eval o).run P w = x at *
  cases x with
  | ok y w' =>
    cases y <;> simp only [Oper.upon] at h <;> simp only [Oper.uponIn]
    all_goals first
      | exact h
      | exact ⟨fun h => (by cases h), calls_round h⟩
      | exact ⟨fun h => (by cases h), rows_round h⟩
      | exact h.elim
  | halt y w' =>
    cases y <;> simp only [Oper.upon] at h <;> simp only [Oper.uponIn]
    all_goals first
      | exact h
      | exact h.elim
theorem op_round {i : Nat} {a : Act} {w : World} {K K' : Act → World → Prop} {Q : Exit → Act → World → Prop} (hd : ∀ o, ops[i]? = some o → noDefer o = true) (hQ : ¬ LetsOut Q) (hK : ∀ a w, K a w → K' a w) (h : wpOp P ops Q i K a w) : wpOpIn (Fence.wide.inRound r) n P ops Q i K' a w := by
  unfold wpOp at h
  unfold wpOpIn
  cases ho : ops[i]? with
  | none => rw [ho] at h; exact hK _ _ h
  | some o =>
    rw [ho] at h
    simp only at h ⊢
    split
    · rename_i hw
      rw [if_pos hw] at h
      rcases h with h | h
      · exact oper_round (hd o ho) (Oper.wp_mono hK h)
      · exact absurd h.2 hQ
    · rename_i hw
      rw [if_neg hw] at h
      exact ⟨fun _ _ => trivial, hK _ _ h⟩
theorem any_round {Q : Exit → Act → World → Prop} (hd : ∀ (i : Nat) o, ops[i]? = some o → noDefer o = true) (hQ : ¬ LetsOut Q) : ∀ (f : Nat) (l : Array Bool) (a : Act) (w : World), wpAny P md ops Q f l a w → wpAnyIn (Fence.wide.inRound r) n P md ops Q f l a w
  | 0, _, _, _, h => h
  | f + 1, _, _, _, h => ⟨h.1, fun i hi => op_round (hd i) hQ (fun a' w' h' => any_round hd hQ f _ a' w' h') (h.2 i hi)⟩

/-- The beginning, in a round: an operation that looks at no memory is taken ahead of all. -/
theorem wpIn_region_front {id : Nat} {a : Act} {w : World} {l : List Oper} {Q : Exit → Act → World → Prop} {S : World → Prop} (sk m : Nat) {oi : Oper} {v : Value} (hd : l.all noDefer = true) (hLQ : ¬ LetsOut Q) (hm : P.follows .mixedOrders = true) (hB : frontB .any l.toArray sk m = true) (hskn : sk < m)
    (hi : l[sk]? = some oi) (hf : Region.free .any l.toArray (Array.replicate l.toArray.size false) sk = true) (hr : (Region.ready .any l.toArray (Array.replicate l.toArray.size false)).contains sk = true)
    (hQ : ∀ c a w, Q (.panic c) (a.put oi.dst v) w → Q (.panic c) a w) (hy : Yields P l.toArray oi v a)
    (h : Front P l Q S sk m (m - 1) ((Array.replicate l.toArray.size false).setIfInBounds sk true) (a.put oi.dst v) w.drew) : (Code.region id l.toArray true).wpIn (Fence.wide.inRound r) n P Q a w := by
  have hr' : sk ∈ Region.ready .any l.toArray (Array.replicate l.toArray.size false) := by simpa using hr
  have hi' : l.toArray[sk]? = some oi := by simpa using hi
  have hB' := hB
  simp only [frontB, Bool.and_eq_true, decide_eq_true_eq] at hB'
  have hnl : m < l.length := by simpa using hB'.1.1.2
  have inv0 : HeadInv .any l.toArray m (Array.replicate l.toArray.size false) :=
    ⟨by simp, fun j oj _ hl => (by rw [getD_replicate_false] at hl; cases hl), fun t _ ht => getD_in (by simpa using ht) (getD_replicate_false _ _)⟩
  have hsk : ((Array.replicate l.toArray.size false).setIfInBounds sk true).getD sk false = true := by
    simp [Array.getD_eq_getD_getElem?, show sk < l.length by omega]
  have H := h hB (inv0.set hr' hskn) hsk
  refine wpIn_region_any hm (any_round (fun i o ho => ?_) hLQ _ _ _ _ ?_)
  · exact List.all_eq_true.1 hd o (List.mem_of_getElem? (i := i) (by simpa using ho))
  have key := wpAny_take hi' hB'.1.1.1 hf hr hQ hy (wpAny_of_front (md := .any) (P := P) (Q := Q) (S := S) (n := m) (g := l.length - m) (L := Tail P l Q m) (fun s a' w' hL => by
    have := wpAny_of_seq (md := .any) (Q' := Q) (l.drop m) m s a' w' (fun j => by simp [List.getElem?_drop]) (by simpa using hL.1) hL.2
    simpa using this) (m - 1) _ _ _ H)
  rw [show m - 1 + (l.length - m) + 1 = l.toArray.size by simp; omega] at key
  exact key
end
end Go.Proofs.YthaampinmelgaaaGreatDoor

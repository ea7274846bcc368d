/- Package wto and its reference: elements, and the plain models of both. No program here. -/
import Derived.Test.YthaampinmelgaaaGreatDoorPlain2
namespace Go.Proofs.YthaampinmelgaaaGreatDoor

/-- A point, or a component with its head, and the elements behind it. -/
inductive El where
  | mk (p : Int) (c : Bool) (body : List El)
def El.p : El → Int | .mk p _ _ => p
def El.c : El → Bool | .mk _ c _ => c
def El.body : El → List El | .mk _ _ b => b
theorem El.eta (x : El) : El.mk x.p x.c x.body = x := by cases x; rfl

def InI64 (x : Int) : Prop := -9223372036854775808 ≤ x ∧ x ≤ 9223372036854775807

def idxI (l : List Int) (x : Int) : Int := match l.findIdx? (fun y => x == y) with
  | some i => (i : Int)
  | none => -1

theorem findIdx_none_of {l : List Int} {x : Int} (h : ∀ m, m < l.length → getI l m ≠ x) : idxI l x = -1 := by
  have : l.findIdx? (fun y => x == y) = none := by
    rw [List.findIdx?_eq_none_iff]
    intro y hy
    obtain ⟨m, hm, rfl⟩ := List.mem_iff_getElem.1 hy
    have h1 := h m hm
    unfold getI at h1
    rw [List.getD_eq_getElem?_getD, List.getElem?_eq_getElem hm] at h1
    simp at h1 ⊢
    exact fun e => h1 e.symm
  unfold idxI
  rw [this]
theorem findIdx_some_of {l : List Int} {x : Int} {k : Nat} (hk : k < l.length) (h : ∀ m, m < k → getI l m ≠ x) (hx : getI l k = x) : idxI l x = (k : Int) := by
  have hg : ∀ m (hm : m < l.length), getI l m = l[m] := fun m hm => by unfold getI; rw [List.getD_eq_getElem?_getD, List.getElem?_eq_getElem hm]; rfl
  have : l.findIdx? (fun y => x == y) = some k := by
    rw [List.findIdx?_eq_some_iff_getElem]
    refine ⟨hk, by rw [← hg k hk, hx]; simp, fun j hj => ?_⟩
    have h1 := h j hj
    rw [hg j (by omega)] at h1
    simp
    exact fun e => h1 e.symm
  unfold idxI
  rw [this]

theorem idxI_contains (l : List Int) (x : Int) : decide (0 ≤ idxI l x) = l.contains x := by
  by_cases h : x ∈ l
  · obtain ⟨i, hi⟩ : ∃ i, l.findIdx? (fun y => x == y) = some i := by
      rw [← Option.isSome_iff_exists, List.findIdx?_isSome]
      simpa using h
    unfold idxI
    rw [hi]
    simp [h]
  · have : l.findIdx? (fun y => x == y) = none := by
      rw [List.findIdx?_eq_none_iff]
      intro y hy
      simp
      rintro rfl
      exact h hy
    unfold idxI
    rw [this]
    simp [h]

/-! The plain model. No program here. -/
/-- The state of the visits: the numbers, the stack, the number given last. -/
structure VSt where
  nums : List Int
  stack : List Nat
  next : Nat
abbrev VRes := VSt × List El × Int
def maxI : Int := 9223372036854775807
def tgt (E : List (Nat × Nat)) (k : Nat) : Nat := (E.getD k (0, 0)).2
/-- One edge in the loop of a visit. -/
def stepV (f : VSt → List El → Nat → Option VRes) (E : List (Nat × Nat)) (a : VSt × List El × Int × Bool) (k : Nat) : Option (VSt × List El × Int × Bool) :=
  if getI a.1.nums (tgt E k) = 0 then (f a.1 a.2.1 (tgt E k)).map fun r => (r.1, r.2.1, if r.2.2 ≤ a.2.2.1 then r.2.2 else a.2.2.1, decide (r.2.2 ≤ a.2.2.1) || a.2.2.2)
  else some (a.1, a.2.1, if getI a.1.nums (tgt E k) ≤ a.2.2.1 then getI a.1.nums (tgt E k) else a.2.2.1, decide (getI a.1.nums (tgt E k) ≤ a.2.2.1) || a.2.2.2)
/-- One edge in the loop of a component. -/
def compS (f : VSt → List El → Nat → Option VRes) (E : List (Nat × Nat)) (a : VSt × List El) (k : Nat) : Option (VSt × List El) :=
  if getI a.1.nums (tgt E k) = 0 then (f a.1 a.2 (tgt E k)).map fun r => (r.1, r.2.1) else some a
def consL (x : El) (l : List El) : Option (List El) := if l.length < 1000000 ∧ x.body.length < 1000000 then some (x :: l) else none
theorem consL_map {x : El} {l : List El} {f : List El → VRes} {r : VRes} (h : (consL x l).map f = some r) : l.length < 1000000 ∧ x.body.length < 1000000 ∧ f (x :: l) = r := by
  unfold consL at h
  split at h
  · rename_i hc
    exact ⟨hc.1, hc.2, Option.some.inj h⟩
  · cases h
theorem zeroAll_succ (nums : List Int) (l : List Nat) (j x : Nat) (h : l[j]? = some x) : (l.take (j + 1)).foldl (fun a p => a.set p 0) nums = ((l.take j).foldl (fun a p => a.set p 0) nums).set x 0 := by
  obtain ⟨hj, rfl⟩ := List.getElem?_eq_some_iff.1 h
  rw [List.take_succ_eq_append_getElem hj, List.foldl_append]
  rfl
def castN (l : List Nat) : List Int := l.map fun x : Nat => (x : Int)
def zeroAll (nums : List Int) (l : List Nat) : List Int := l.foldl (fun a p => a.set p 0) nums
/-- Behind the loop of a visit. -/
def leaveV (f : VSt → List El → Nat → Option VRes) (E : List (Nat × Nat)) (v : Nat) (a : VSt × List El × Int × Bool) : Option VRes :=
  if a.2.2.1 ≠ getI a.1.nums v then some (a.1, a.2.1, a.2.2.1)
  else if idxI (castN a.1.stack) (v : Int) < 0 then none
  else if a.2.2.2 = false then (consL (El.mk (v : Int) false []) a.2.1).map fun l' => (⟨a.1.nums.set v maxI, a.1.stack.take (idxI (castN a.1.stack) (v : Int)).toNat, a.1.next⟩, l', a.2.2.1)
  else (foldO (compS f E) (idxs Prod.fst E v) (⟨zeroAll (a.1.nums.set v maxI) (a.1.stack.drop ((idxI (castN a.1.stack) (v : Int)).toNat + 1)), a.1.stack.take (idxI (castN a.1.stack) (v : Int)).toNat, a.1.next⟩, [])).bind fun t =>
    (consL (El.mk (v : Int) true t.2) a.2.1).map fun l' => (t.1, l', a.2.2.1)
def visitV (E : List (Nat × Nat)) : Nat → VSt → List El → Nat → Option VRes
  | 0, _, _, _ => none
  | k + 1, s, l, v => if s.stack.length < 1000000 ∧ s.next < 1000000000000000 then
      (foldO (stepV (visitV E k) E) (idxs Prod.fst E v) (⟨s.nums.set v ((s.next : Int) + 1), s.stack ++ [v], s.next + 1⟩, l, (s.next : Int) + 1, false)).bind (leaveV (visitV E k) E v)
    else none

/-! The plain model. No program here. -/
def doneR : Int := 524288
structure RSt where
  nums : List Int
  next : Nat
  stack : List Nat
  list : List El
abbrev RRes := RSt × Int
def src (E : List (Nat × Nat)) (k : Nat) : Nat := (E.getD k (0, 0)).1
def stepR (f : RSt → Nat → Option RRes) (E : List (Nat × Nat)) (v : Nat) (a : RSt × Int × Bool) (i : Nat) : Option (RSt × Int × Bool) :=
  if src E i ≠ v then some a
  else if getI a.1.nums (tgt E i) = 0 then (f a.1 (tgt E i)).map fun r => (r.1, if r.2 ≤ a.2.1 then r.2 else a.2.1, decide (r.2 ≤ a.2.1) || a.2.2)
  else some (a.1, if getI a.1.nums (tgt E i) ≤ a.2.1 then getI a.1.nums (tgt E i) else a.2.1, decide (getI a.1.nums (tgt E i) ≤ a.2.1) || a.2.2)
def insR (f : RSt → Nat → Option RRes) (E : List (Nat × Nat)) (v : Nat) (s : RSt) (i : Nat) : Option RSt :=
  if src E i = v ∧ getI s.nums (tgt E i) = 0 then (f s (tgt E i)).map (·.1) else some s
/-- The stack, its top first, is emptied down to v. -/
def popR (v : Nat) : List Int → List Nat → List Int × List Nat
  | nums, [] => (nums, [])
  | nums, x :: rs => if x = v then (nums, rs) else popR v (nums.set x 0) rs
def consR (x : El) (s : RSt) (h : Int) : Option RRes := if s.list.length < 1000000 ∧ x.body.length < 1000000 then some (⟨s.nums, s.next, s.stack, x :: s.list⟩, h) else none
def leaveR (f : RSt → Nat → Option RRes) (E : List (Nat × Nat)) (v : Nat) (a : RSt × Int × Bool) : Option RRes :=
  if a.2.1 ≠ getI a.1.nums v then some (a.1, a.2.1)
  else if a.2.2 = false then consR (El.mk (v : Int) false []) ⟨(popR v (a.1.nums.set v doneR) a.1.stack.reverse).1, a.1.next, (popR v (a.1.nums.set v doneR) a.1.stack.reverse).2.reverse, a.1.list⟩ a.2.1
  else (foldO (insR f E v) (List.range E.length) ⟨(popR v (a.1.nums.set v doneR) a.1.stack.reverse).1, a.1.next, (popR v (a.1.nums.set v doneR) a.1.stack.reverse).2.reverse, []⟩).bind fun t =>
    consR (El.mk (v : Int) true t.list) ⟨t.nums, t.next, (popR v (a.1.nums.set v doneR) a.1.stack.reverse).2.reverse, a.1.list⟩ a.2.1
def enterR (E : List (Nat × Nat)) : Nat → RSt → Nat → Option RRes
  | 0, _, _ => none
  | k + 1, s, v => if s.stack.length < 1000000 ∧ s.next < 1000000000000000 then
      (foldO (stepR (enterR E k) E v) (List.range E.length) (⟨s.nums.set v ((s.next : Int) + 1), s.next + 1, s.stack ++ [v], s.list⟩, (s.next : Int) + 1, false)).bind (leaveR (enterR E k) E v)
    else none

end Go.Proofs.YthaampinmelgaaaGreatDoor

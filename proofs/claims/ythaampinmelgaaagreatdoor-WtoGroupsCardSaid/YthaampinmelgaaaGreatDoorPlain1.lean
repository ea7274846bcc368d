/- Plain functions that the walks of package graph come to. No program here. -/
/-! Plain: the edges at each point, as they are collected one edge after the other. -/
namespace Go.Proofs.YthaampinmelgaaaGreatDoor

def idxs (f : Nat × Nat → Nat) (E : List (Nat × Nat)) (p : Nat) : List Nat := (List.range E.length).filter fun k => f (E.getD k (0, 0)) == p
def rowsAt (n : Nat) (T : List (Nat × Nat)) : List (List Nat) := T.map Prod.fst :: T.map Prod.snd :: ((List.range n).map (idxs Prod.fst T) ++ (List.range n).map (idxs Prod.snd T))

theorem idxs_nil (f : Nat × Nat → Nat) (p : Nat) : idxs f [] p = [] := rfl
theorem idxs_snoc (f : Nat × Nat → Nat) (T : List (Nat × Nat)) (x : Nat × Nat) (p : Nat) : idxs f (T ++ [x]) p = idxs f T p ++ (if f x = p then [T.length] else []) := by
  unfold idxs
  rw [List.length_append, List.length_singleton, List.range_succ, List.filter_append]
  congr 1
  · refine List.filter_congr fun k hk => ?_
    have hk' := List.mem_range.1 hk
    simp [List.getElem?_append_left hk']
  · by_cases h : f x = p <;> simp [h]
theorem idxs_length (f : Nat × Nat → Nat) (T : List (Nat × Nat)) (p : Nat) : (idxs f T p).length ≤ T.length := by
  unfold idxs
  exact Nat.le_trans (List.length_filter_le _ _) (by simp)
theorem map_idxs_snoc (f : Nat × Nat → Nat) (n : Nat) (T : List (Nat × Nat)) (x : Nat × Nat) : (List.range n).map (idxs f (T ++ [x])) = ((List.range n).map (idxs f T)).set (f x) (idxs f T (f x) ++ [T.length]) := by
  apply List.ext_getElem
  · simp
  · intro i h1 h2
    simp only [List.getElem_map, List.getElem_range, List.getElem_set, idxs_snoc]
    by_cases h : f x = i
    · subst h; simp
    · simp [h]
theorem rowsAt_nil (n : Nat) : rowsAt n [] = List.replicate (n + n + 2) [] := by
  have h : ∀ f, (List.range n).map (idxs f []) = List.replicate n [] := fun f => by
    apply List.ext_getElem
    · simp
    · intro i h1 h2; simp [idxs_nil]
  unfold rowsAt
  rw [h, h, List.replicate_append_replicate]
  rfl
theorem rowsAt_snoc (n : Nat) (T : List (Nat × Nat)) (x : Nat × Nat) (hf : x.1 < n) :
    rowsAt n (T ++ [x]) = ((((rowsAt n T).set 0 (T.map Prod.fst ++ [x.1])).set 1 (T.map Prod.snd ++ [x.2])).set (x.1 + 2) (idxs Prod.fst T x.1 ++ [T.length])).set (n + x.2 + 2) (idxs Prod.snd T x.2 ++ [T.length]) := by
  unfold rowsAt
  simp only [List.set_cons_zero, List.set_cons_succ, List.map_append, List.map_cons, List.map_nil, map_idxs_snoc]
  rw [List.set_append_left _ _ (by simpa using hf), List.set_append_right _ _ (by simp)]
  simp
theorem rowsAt_get0 (n : Nat) (T : List (Nat × Nat)) : (rowsAt n T)[0]? = some (T.map Prod.fst) := rfl
theorem rowsAt_get1 (n : Nat) (T : List (Nat × Nat)) : (rowsAt n T)[1]? = some (T.map Prod.snd) := rfl
theorem rowsAt_getF (n : Nat) (T : List (Nat × Nat)) (p : Nat) (hp : p < n) : (rowsAt n T)[p + 2]? = some (idxs Prod.fst T p) := by
  simp [rowsAt, List.getElem?_append_left, hp]
theorem rowsAt_getT (n : Nat) (T : List (Nat × Nat)) (p : Nat) (hp : p < n) : (rowsAt n T)[n + p + 2]? = some (idxs Prod.snd T p) := by
  simp [rowsAt, hp]

end Go.Proofs.YthaampinmelgaaaGreatDoor

/-! Plain functions that the walks of package graph come to: a search by depth. No program here. -/
namespace Go.Proofs.YthaampinmelgaaaGreatDoor

def foldO {σ α : Type} (f : σ → α → Option σ) : List α → σ → Option σ
  | [], s => some s
  | x :: xs, s => (f s x).bind (foldO f xs)

theorem foldO_append {σ α : Type} (f : σ → α → Option σ) : ∀ (xs ys : List α) (s : σ), foldO f (xs ++ ys) s = (foldO f xs s).bind (foldO f ys)
  | [], _, _ => rfl
  | x :: xs, ys, s => by
    simp only [List.cons_append, foldO]
    cases f s x with
    | none => rfl
    | some t => simp only [Option.bind_some]; exact foldO_append f xs ys t

theorem foldO_snoc {σ α : Type} (f : σ → α → Option σ) (xs : List α) (x : α) (s t : σ) (h : foldO f xs s = some t) : foldO f (xs ++ [x]) s = f t x := by
  rw [foldO_append, h]
  simp only [Option.bind_some, foldO]
  cases f t x <;> rfl

/-- If the whole list comes to something, so does each first part, and the step behind it. -/
theorem foldO_part {σ α : Type} (f : σ → α → Option σ) (xs : List α) (x : α) (ys : List α) (s t : σ) (h : foldO f (xs ++ x :: ys) s = some t) :
    ∃ u v, foldO f xs s = some u ∧ f u x = some v ∧ foldO f ys v = some t := by
  rw [foldO_append] at h
  cases hx : foldO f xs s with
  | none => rw [hx] at h; cases h
  | some u =>
    rw [hx] at h
    simp only [Option.bind_some, foldO] at h
    cases hv : f u x with
    | none => rw [hv] at h; cases h
    | some v => rw [hv] at h; exact ⟨u, v, rfl, hv, h⟩

/-- The visit of a point: what has been seen, and the points in postorder. -/
def dfsV (succ : Nat → List Nat) (wo : Int) : Nat → List Bool × List Nat → Nat → Option (List Bool × List Nat)
  | 0, _, _ => none
  | k + 1, s, p =>
    if (p : Int) = wo then some s
    else if s.1.getD p false = true then some s
    else (foldO (dfsV succ wo k) (succ p) (s.1.set p true, s.2)).map fun t => (t.1, t.2 ++ [p])

theorem foldO_keeps {σ α : Type} {f : σ → α → Option σ} {I : σ → Prop} (hf : ∀ s x t, I s → f s x = some t → I t) : ∀ (xs : List α) (s t : σ), I s → foldO f xs s = some t → I t
  | [], s, t, hs, h => by cases h; exact hs
  | x :: xs, s, t, hs, h => by
    simp only [foldO] at h
    cases hx : f s x with
    | none => rw [hx] at h; cases h
    | some u => rw [hx] at h; exact foldO_keeps hf xs u t (hf s x u hs hx) h

theorem dfsV_length {succ : Nat → List Nat} {wo : Int} : ∀ (k : Nat) (s : List Bool × List Nat) (p : Nat) (t : List Bool × List Nat), dfsV succ wo k s p = some t → t.1.length = s.1.length
  | 0, _, _, _, h => by simp [dfsV] at h
  | k + 1, s, p, t, h => by
    simp only [dfsV] at h
    split at h
    · cases h; rfl
    · split at h
      · cases h; rfl
      · cases hf : foldO (dfsV succ wo k) (succ p) (s.1.set p true, s.2) with
        | none => rw [hf] at h; cases h
        | some u =>
          rw [hf] at h
          cases h
          have := foldO_keeps (I := fun u => u.1.length = s.1.length) (fun a x b ha hb => (dfsV_length k a x b hb).trans ha) _ _ _ (by simp) hf
          simpa using this

theorem dfsV_more {succ : Nat → List Nat} {wo : Int} : ∀ (k : Nat) (s : List Bool × List Nat) (p : Nat) (t : List Bool × List Nat), dfsV succ wo k s p = some t → s.2.length ≤ t.2.length
  | 0, _, _, _, h => by simp [dfsV] at h
  | k + 1, s, p, t, h => by
    simp only [dfsV] at h
    split at h
    · cases h; exact Nat.le_refl _
    · split at h
      · cases h; exact Nat.le_refl _
      · cases hf : foldO (dfsV succ wo k) (succ p) (s.1.set p true, s.2) with
        | none => rw [hf] at h; cases h
        | some u =>
          rw [hf] at h
          cases h
          have := foldO_keeps (I := fun u => s.2.length ≤ u.2.length) (fun a x b ha hb => Nat.le_trans ha (dfsV_more k a x b hb)) _ _ _ (Nat.le_refl _) hf
          simp only [List.length_append, List.length_singleton]
          omega

theorem dfsF_more {succ : Nat → List Nat} {wo : Int} (k : Nat) (xs : List Nat) (s t : List Bool × List Nat) (h : foldO (dfsV succ wo k) xs s = some t) : s.2.length ≤ t.2.length :=
  foldO_keeps (I := fun u => s.2.length ≤ u.2.length) (fun a x b ha hb => Nat.le_trans ha (dfsV_more k a x b hb)) _ _ _ (Nat.le_refl _) h

theorem dfsF_length {succ : Nat → List Nat} {wo : Int} (k : Nat) (xs : List Nat) (s t : List Bool × List Nat) (h : foldO (dfsV succ wo k) xs s = some t) : t.1.length = s.1.length :=
  foldO_keeps (I := fun u => u.1.length = s.1.length) (fun a x b ha hb => (dfsV_length k a x b hb).trans ha) _ _ _ rfl h

end Go.Proofs.YthaampinmelgaaaGreatDoor

/-! Plain functions that the walks of package graph come to: shapes of graphs, dominators, loops, groups, numbers of components. No program here. -/
namespace Go.Proofs.YthaampinmelgaaaGreatDoor

/-- A graph without commands, with the numbers of the edges at each point. -/
structure Shp where
  n : Nat
  entry : Nat
  sr : List Nat
  tg : List Nat
  out : List (List Nat)
  inn : List (List Nat)
def Shp.next (s : Shp) (p : Nat) : List Nat := (s.out.getD p []).map fun e => s.tg.getD e 0
def Shp.rev (s : Shp) (entry : Nat) : Shp := ⟨s.n, entry, s.tg, s.sr, s.inn, s.out⟩
def shapeOf (n : Nat) (E : List (Nat × Nat)) : Shp := ⟨n, 0, E.map Prod.fst, E.map Prod.snd, (List.range n).map (idxs Prod.fst E), (List.range n).map (idxs Prod.snd E)⟩
def castE (E : List (Nat × Nat)) : List (Int × Int) := E.map fun x => ((x.1 : Int), (x.2 : Int))
/-- A well-formed graph. -/
structure GOk (n : Nat) (exit : Int) (E : List (Nat × Nat)) : Prop where
  n1 : 1 ≤ n
  n512 : n ≤ 512
  x0 : 0 ≤ exit
  xn : exit < n
  len : E.length ≤ 1024
  lt : ∀ x ∈ E, x.1 < n ∧ x.2 < n
theorem castE_length (E : List (Nat × Nat)) : (castE E).length = E.length := by simp [castE]
def getI (l : List Int) (p : Nat) : Int := l.getD p (-1)
/-- The two fingers that walk up: the point at which they meet. -/
def meetF (pl ab : List Int) : Nat → Nat → Nat → Option Nat
  | 0, _, _ => none
  | k + 1, p, q =>
    if p = q then some p
    else if getI pl p < getI pl q then (if 0 ≤ getI ab p then meetF pl ab k (getI ab p).toNat q else none)
    else (if 0 ≤ getI ab q then meetF pl ab k p (getI ab q).toNat else none)
/-- One edge that comes in, at the search for the nearest point above. -/
def bestStep (pl ab : List Int) (k : Nat) (best : Int) (q : Nat) : Option Int :=
  if getI pl q < 0 ∨ getI ab q < 0 then some best
  else if best < 0 then some q
  else Option.map (fun r : Nat => (r : Int)) (meetF pl ab k best.toNat q)
def Shp.preds (s : Shp) (p : Nat) : List Nat := (s.inn.getD p []).map fun e => s.sr.getD e 0
def domStep (s : Shp) (pl : List Int) (k : Nat) (st : List Int × Bool) (p : Nat) : Option (List Int × Bool) :=
  (foldO (bestStep pl st.1 k) (s.preds p) (-1)).map fun b => if b = getI st.1 p then st else (st.1.set p b, true)
def domSweep (s : Shp) (pl : List Int) (k : Nat) (ord : List Nat) (ab : List Int) : Option (List Int × Bool) := foldO (domStep s pl k) ord.dropLast.reverse (ab, false)
def domLoop (s : Shp) (pl : List Int) (k : Nat) (ord : List Nat) : Nat → List Int → Option (List Int)
  | 0, _ => none
  | j + 1, ab => (domSweep s pl k ord ab).bind fun st => if st.2 then domLoop s pl k ord j st.1 else some st.1
/-- The place of each point in the order. -/
def placesOf (n : Nat) (ord : List Nat) : List Int := ord.zipIdx.foldl (fun pl x => pl.set x.1 (x.2 : Int)) (List.replicate n (-1))
def domF (s : Shp) (k j : Nat) (ord : List Nat) : Option (List Int) :=
  (domLoop s (placesOf s.n ord) k ord j ((List.replicate s.n (-1)).set s.entry (s.entry : Int))).map fun ab => ab.set s.entry (-1)
/-- What is asked of the edges that come in. -/
structure Shp.OkIn (s : Shp) : Prop where
  hi : s.inn.length = s.n
  hfr : ∀ es ∈ s.inn, ∀ x ∈ es, x < s.sr.length
  hfn : ∀ x ∈ s.sr, x < s.n
  hent : s.entry < s.n
  hlen : ∀ es ∈ s.inn, es.length ≤ 100000
theorem Shp.OkIn.preds_lt {s : Shp} (h : s.OkIn) {p : Nat} : ∀ q ∈ s.preds p, q < s.n := by
  intro q hq
  obtain ⟨e, he, rfl⟩ := List.mem_map.1 hq
  by_cases hp : p < s.inn.length
  · rw [List.getD_eq_getElem?_getD, List.getElem?_eq_getElem hp] at he
    have h1 := h.hfr _ (List.getElem_mem hp) _ he
    rw [List.getD_eq_getElem?_getD, List.getElem?_eq_getElem h1]
    exact h.hfn _ (List.getElem_mem h1)
  · rw [List.getD_eq_getElem?_getD, List.getElem?_eq_none (by omega)] at he
    cases he
theorem zipIdx_take_succ {α : Type} (l : List α) (k : Nat) (h : k < l.length) : (l.take (k + 1)).zipIdx = (l.take k).zipIdx ++ [(l[k], k)] := by
  rw [List.take_succ_eq_append_getElem h, List.zipIdx_append]
  simp [Nat.min_eq_left (Nat.le_of_lt h)]
theorem placesOf_succ (n : Nat) (ord : List Nat) (k : Nat) (h : k < ord.length) : placesOf n (ord.take (k + 1)) = (placesOf n (ord.take k)).set ord[k] (k : Int) := by
  unfold placesOf
  rw [zipIdx_take_succ _ _ h, List.foldl_append]
  rfl
theorem placesOf_length (n : Nat) (ord : List Nat) : (placesOf n ord).length = n := by
  unfold placesOf
  generalize ord.zipIdx = l
  suffices ∀ (l : List (Nat × Nat)) (a : List Int), (l.foldl (fun pl x => pl.set x.1 (x.2 : Int)) a).length = a.length by rw [this]; simp
  intro l
  induction l with
  | nil => intro a; rfl
  | cons x xs ih => intro a; rw [List.foldl_cons, ih]; simp
theorem getI_set (al : List Int) (p : Nat) (b : Int) (x : Nat) : getI (al.set p b) x = if p = x ∧ p < al.length then b else getI al x := by
  unfold getI
  rw [List.getD_eq_getElem?_getD, List.getD_eq_getElem?_getD, List.getElem?_set]
  by_cases h : p = x
  · subst h
    by_cases h2 : p < al.length
    · simp [h2]
    · simp [h2]
  · simp [h]
theorem rev_get (ord : List Nat) (m : Nat) (h : m < ord.dropLast.reverse.length) : ∃ (hi : ord.length - 2 - m < ord.length), ord.dropLast.reverse[m] = ord[ord.length - 2 - m] := by
  have hl : ord.dropLast.reverse.length = ord.length - 1 := by simp
  refine ⟨by omega, ?_⟩
  rw [List.getElem_reverse, List.getElem_dropLast]
  congr 1
  simp
  omega
theorem foldO_at {σ α : Type} (f : σ → α → Option σ) (l : List α) (m : Nat) (hm : m < l.length) (s u t : σ) (h : foldO f l s = some t) (hu : foldO f (l.take m) s = some u) : ∃ v, f u l[m] = some v ∧ foldO f (l.take (m + 1)) s = some v := by
  have hcut : l = l.take m ++ l[m] :: l.drop (m + 1) := by rw [← List.drop_eq_getElem_cons hm, List.take_append_drop]
  rw [hcut] at h
  obtain ⟨u', v, h1, h2, -⟩ := foldO_part _ _ _ _ _ _ h
  obtain rfl : u' = u := by rw [hu] at h1; exact (Option.some.inj h1).symm
  refine ⟨v, h2, ?_⟩
  rw [List.take_succ_eq_append_getElem hm, foldO_snoc _ _ _ _ _ hu]
  exact h2
/-- Does the way up from a point come to t? -/
def hitsF (ab : List Int) : Nat → Int → Nat → Option Bool
  | 0, _, _ => none
  | k + 1, p, t => if p < 0 then some false else if p = (t : Int) then some true else hitsF ab k (getI ab p.toNat) t
def backStep (s : Shp) (ab : List Int) (seen : List Bool) (k : Nat) (out : List Nat) (e : Nat) : Option (List Nat) :=
  if seen.getD (s.sr.getD e 0) false = false then some out
  else Option.map (fun b : Bool => if b then out ++ [e] else out) (hitsF ab k (s.sr.getD e 0 : Nat) (s.tg.getD e 0))
def backF (s : Shp) (ab : List Int) (seen : List Bool) (k : Nat) : Option (List Nat) := foldO (backStep s ab seen k) (List.range s.sr.length) []
theorem foldO_range {σ : Type} (f : σ → Nat → Option σ) (n m : Nat) (hm : m < n) (s u t : σ) (h : foldO f (List.range n) s = some t) (hu : foldO f (List.range m) s = some u) : ∃ v, f u m = some v ∧ foldO f (List.range (m + 1)) s = some v := by
  have h1 : (List.range n).take m = List.range m := by rw [List.take_range, Nat.min_eq_left (by omega)]
  have h2 : (List.range n).take (m + 1) = List.range (m + 1) := by rw [List.take_range, Nat.min_eq_left (by omega)]
  have := foldO_at f (List.range n) m (by simpa using hm) s u t h (by rw [h1]; exact hu)
  rw [h2] at this
  simpa using this
theorem foldO_inv {σ α : Type} {f : σ → α → Option σ} {I : σ → Prop} : ∀ (xs : List α) (s t : σ), (∀ s x t, x ∈ xs → I s → f s x = some t → I t) → I s → foldO f xs s = some t → I t
  | [], s, t, _, hs, h => by cases h; exact hs
  | x :: xs, s, t, hf, hs, h => by
    simp only [foldO] at h
    cases hx : f s x with
    | none => rw [hx] at h; cases h
    | some u => rw [hx] at h; exact foldO_inv xs u t (fun s y t hy => hf s y t (List.mem_cons_of_mem _ hy)) (hf s x u List.mem_cons_self hs hx) h
theorem backF_length {s : Shp} {ab : List Int} {seen : List Bool} {k : Nat} : ∀ (m : Nat) (out : List Nat), foldO (backStep s ab seen k) (List.range m) [] = some out → out.length ≤ m := by
  intro m
  induction m with
  | zero => intro out h; cases h; simp
  | succ m ih =>
    intro out h
    rw [List.range_succ, foldO_append] at h
    cases hx : foldO (backStep s ab seen k) (List.range m) [] with
    | none => rw [hx] at h; cases h
    | some u =>
      rw [hx] at h
      have hu := ih u hx
      simp only [Option.bind_some, foldO] at h
      cases hy : backStep s ab seen k u m with
      | none => rw [hy] at h; cases h
      | some v =>
        rw [hy] at h
        obtain rfl : v = out := by simpa using h
        unfold backStep at hy
        split at hy
        · cases hy; omega
        · obtain ⟨b, _, rfl⟩ := Option.map_eq_some_iff.1 hy
          cases b <;> simp <;> omega
structure Shp.OkTo (s : Shp) : Prop where
  hlen : s.sr.length = s.tg.length
  hmax : s.sr.length ≤ 100000
/-- The tails of the back edges at each head. -/
def tailStep (s : Shp) (T : List (List Nat)) (e : Nat) : List (List Nat) := T.set (s.tg.getD e 0) (T.getD (s.tg.getD e 0) [] ++ [s.sr.getD e 0])
def tailsF (s : Shp) (bl : List Nat) : List (List Nat) := bl.foldl (tailStep s) (List.replicate s.n [])
def inLoop (n head : Nat) (inside reached : List Bool) : List Nat := (List.range n).filter fun p => p == head || (inside.getD p false && reached.getD p false)
def loopStep (s : Shp) (reached : List Bool) (k : Nat) (out : List (Nat × List Nat)) (x : List Nat × Nat) : Option (List (Nat × List Nat)) :=
  if x.1 = [] then some out
  else Option.map (fun t : List Bool × List Nat => out ++ [(x.2, inLoop s.n x.2 t.1 reached)]) (foldO (dfsV (s.rev s.entry).next (x.2 : Int) k) x.1 (List.replicate s.n false, []))
def loopsF (s : Shp) (reached : List Bool) (bl : List Nat) (k : Nat) : Option (List (Nat × List Nat)) := foldO (loopStep s reached k) (tailsF s bl).zipIdx []
theorem tailsF_length (s : Shp) (bl : List Nat) : (tailsF s bl).length = s.n := by
  unfold tailsF
  suffices ∀ (l : List Nat) (T : List (List Nat)), (l.foldl (tailStep s) T).length = T.length by rw [this]; simp
  intro l
  induction l with
  | nil => intro T; rfl
  | cons x xs ih => intro T; rw [List.foldl_cons, ih]; simp [tailStep]
theorem tailsF_succ (s : Shp) (bl : List Nat) (m : Nat) (h : m < bl.length) : tailsF s (bl.take (m + 1)) = tailStep s (tailsF s (bl.take m)) bl[m] := by
  unfold tailsF
  rw [List.take_succ_eq_append_getElem h, List.foldl_append]; rfl
theorem tailsF_row (s : Shp) (bl : List Nat) : ∀ (i : Nat) (l : List Nat), (tailsF s bl)[i]? = some l → l.length ≤ bl.length := by
  unfold tailsF
  suffices ∀ (es : List Nat) (T : List (List Nat)) (c : Nat), (∀ (i : Nat) (l : List Nat), T[i]? = some l → l.length ≤ c) → ∀ (i : Nat) (l : List Nat), (es.foldl (tailStep s) T)[i]? = some l → l.length ≤ c + es.length by
    intro i l h
    have := this bl (List.replicate s.n []) 0 (fun i l h => by rw [List.getElem?_replicate] at h; split at h <;> cases h; simp) i l h
    omega
  intro es
  induction es with
  | nil => intro T c h i l hl; exact Nat.le_trans (h i l hl) (by simp)
  | cons x xs ih =>
    intro T c h i l hl
    rw [List.foldl_cons] at hl
    have := ih (tailStep s T x) (c + 1) (fun i l hl => by
      unfold tailStep at hl
      rw [List.getElem?_set] at hl
      by_cases h1 : s.tg.getD x 0 = i
      · rw [if_pos h1] at hl
        by_cases h2 : s.tg.getD x 0 < T.length
        · rw [if_pos h2] at hl
          cases hl
          have := h _ _ (List.getElem?_eq_getElem h2)
          rw [List.length_append, show T.getD (s.tg.getD x 0) [] = T[s.tg.getD x 0] from (List.getD_eq_getElem?_getD ..).trans (by rw [List.getElem?_eq_getElem h2]; rfl), List.length_singleton]
          omega
        · rw [if_neg h2] at hl; cases hl
      · rw [if_neg h1] at hl
        have := h _ _ hl; omega) i l hl
    simp; omega
/-- The search for a cycle: 0 not seen, 1 begun, 2 done. -/
def acyL (s : Shp) (S : Nat → Bool) (f : List Nat → Nat → Option (List Nat × Bool)) : List Nat → List Nat → Option (List Nat × Bool)
  | [], st => some (st, true)
  | e :: es, st => if S e then acyL s S f es st else (f st (s.tg.getD e 0)).bind fun r => if r.2 then acyL s S f es r.1 else some (r.1, false)
def acyF (s : Shp) (S : Nat → Bool) : Nat → List Nat → Nat → Option (List Nat × Bool)
  | 0, _, _ => none
  | k + 1, st, p =>
    if st.getD p 0 ≠ 0 then some (st, st.getD p 0 == 2)
    else (acyL s S (acyF s S k) (s.out.getD p []) (st.set p 1)).map fun r => if r.2 then (r.1.set p 2, true) else (r.1, false)
theorem acyL_length {s : Shp} {S : Nat → Bool} {f : List Nat → Nat → Option (List Nat × Bool)} (hf : ∀ st p r, f st p = some r → r.1.length = st.length) : ∀ (es st : List Nat) (r : List Nat × Bool), acyL s S f es st = some r → r.1.length = st.length
  | [], st, r, h => by cases h; rfl
  | e :: es, st, r, h => by
    simp only [acyL] at h
    split at h
    · exact acyL_length hf es st r h
    · cases hx : f st (s.tg.getD e 0) with
      | none => rw [hx] at h; cases h
      | some u =>
        rw [hx] at h
        simp only [Option.bind_some] at h
        split at h
        · exact (acyL_length hf es _ r h).trans (hf _ _ _ hx)
        · cases h; exact hf _ _ u hx
theorem acyF_length {s : Shp} {S : Nat → Bool} : ∀ (k : Nat) (st : List Nat) (p : Nat) (r : List Nat × Bool), acyF s S k st p = some r → r.1.length = st.length
  | 0, _, _, _, h => by simp [acyF] at h
  | k + 1, st, p, r, h => by
    simp only [acyF] at h
    split at h
    · cases h; rfl
    · obtain ⟨u, hu, rfl⟩ := Option.map_eq_some_iff.1 h
      have := acyL_length (fun st p r h => acyF_length k st p r h) _ _ _ hu
      split <;> simpa using this
/-- Is a number in the list? -/
def inL (l : List Nat) (i : Nat) : Bool := l.contains i
/-- The visit of a point for a group: what has been taken, and the points in preorder. -/
def grpV (succ : Nat → List Nat) : Nat → List Bool × List Nat → Nat → Option (List Bool × List Nat)
  | 0, _, _ => none
  | k + 1, s, p => if s.1.getD p false = true then some s else foldO (grpV succ k) (succ p) (s.1.set p true, s.2 ++ [p])
theorem grpV_more {succ : Nat → List Nat} : ∀ (k : Nat) (s : List Bool × List Nat) (p : Nat) (t : List Bool × List Nat), grpV succ k s p = some t → s.2.length ≤ t.2.length
  | 0, _, _, _, h => by simp [grpV] at h
  | k + 1, s, p, t, h => by
    simp only [grpV] at h
    split at h
    · cases h; exact Nat.le_refl _
    · have := foldO_keeps (I := fun u => s.2.length ≤ u.2.length) (fun a x b ha hb => Nat.le_trans ha (grpV_more k a x b hb)) _ _ _ (by simp) h
      exact this
theorem grpF_more {succ : Nat → List Nat} (k : Nat) (xs : List Nat) (s t : List Bool × List Nat) (h : foldO (grpV succ k) xs s = some t) : s.2.length ≤ t.2.length :=
  foldO_keeps (I := fun u => s.2.length ≤ u.2.length) (fun a x b ha hb => Nat.le_trans ha (grpV_more k a x b hb)) _ _ _ (Nat.le_refl _) h
def sortN (l : List Nat) : List Nat := l.mergeSort fun x y => decide (x ≤ y)
/-- One point of the order, taken from the end: a new group, or none. -/
def grpStep (succ : Nat → List Nat) (k : Nat) (st : List Bool × List (List Nat)) (p : Nat) : Option (List Bool × List (List Nat)) :=
  if st.1.getD p false = true then some st else Option.map (fun t : List Bool × List Nat => (t.1, st.2 ++ [sortN t.2])) (grpV succ k (st.1, []) p)
def grpsF (succ : Nat → List Nat) (k n : Nat) (ord : List Nat) : Option (List Bool × List (List Nat)) := foldO (grpStep succ k) ord.reverse (List.replicate n false, [])
theorem sortN_length (l : List Nat) : (sortN l).length = l.length := List.length_mergeSort l
def compareM : List Nat → List Nat → Int
  | [], [] => 0
  | [], _ :: _ => -1
  | _ :: _, [] => 1
  | x :: xs, y :: ys => if x < y then -1 else if y < x then 1 else compareM xs ys
/-- The groups in the order of their lists. -/
def sortG (gs : List (List Nat)) : List (List Nat) := gs.mergeSort fun a b => !decide (compareM b a < 0)
theorem compareM_lt_irrefl : ∀ xs : List Nat, compareM xs xs = 0
  | [] => rfl
  | x :: xs => by simp only [compareM, Nat.lt_irrefl, if_false]; exact compareM_lt_irrefl xs
theorem compareM_eq : ∀ xs ys : List Nat, ¬ compareM xs ys < 0 → ¬ compareM ys xs < 0 → xs = ys
  | [], [], _, _ => rfl
  | [], _ :: _, h, _ => by simp [compareM] at h
  | _ :: _, [], _, h => by simp [compareM] at h
  | x :: xs, y :: ys, h1, h2 => by
    simp only [compareM] at h1 h2
    by_cases hxy : x < y
    · rw [if_pos hxy] at h1; simp at h1
    · by_cases hyx : y < x
      · rw [if_pos hyx] at h2; simp at h2
      · obtain rfl : x = y := by omega
        simp only [Nat.lt_irrefl, if_false] at h1 h2
        rw [compareM_eq xs ys h1 h2]
theorem compareM_trans : ∀ xs ys zs : List Nat, compareM xs ys < 0 → compareM ys zs < 0 → compareM xs zs < 0
  | [], _, [], h1, h2 => by
    rename_i ys
    cases ys <;> simp [compareM] at h1 h2
  | [], _, _ :: _, _, _ => by simp [compareM]
  | _ :: _, [], _, h1, _ => by simp [compareM] at h1
  | _ :: _, _ :: _, [], _, h2 => by simp [compareM] at h2
  | x :: xs, y :: ys, z :: zs, h1, h2 => by
    simp only [compareM] at h1 h2 ⊢
    by_cases a1 : x < y
    · by_cases a2 : y < z
      · rw [if_pos (by omega)]; decide
      · rw [if_neg a2] at h2
        by_cases a3 : z < y
        · rw [if_pos a3] at h2; simp at h2
        · rw [if_pos (by omega)]; decide
    · rw [if_neg a1] at h1
      by_cases a2 : y < x
      · rw [if_pos a2] at h1; simp at h1
      · rw [if_neg a2] at h1
        obtain rfl : x = y := by omega
        by_cases a3 : x < z
        · rw [if_pos a3]; decide
        · rw [if_neg a3] at h2 ⊢
          by_cases a4 : z < x
          · rw [if_pos a4] at h2; simp at h2
          · rw [if_neg a4] at h2 ⊢
            exact compareM_trans xs ys zs h1 h2
theorem sortG_length (gs : List (List Nat)) : (sortG gs).length = gs.length := List.length_mergeSort gs
/-- The number of the group of each point. -/
def ofF (n : Nat) (gs : List (List Nat)) : List Nat := gs.zipIdx.foldl (fun o x => x.1.foldl (fun o p => o.set p x.2) o) (List.replicate n 0)
/-- Does an edge lead from the group to a point of another group without a number? -/
def blockedF (s : Shp) (ofs : List Nat) (num : List Int) (k : Nat) (g : List Nat) : Bool := g.any fun p => (s.next p).any fun q => decide (ofs.getD q 0 ≠ k) && decide (getI num q < 0)
def freeF (s : Shp) (ofs : List Nat) (gs : List (List Nat)) (num : List Int) (k : Nat) : Bool := decide (getI num ((gs.getD k []).getD 0 0) < 0) && !blockedF s ofs num k (gs.getD k [])
def pickF (s : Shp) (ofs : List Nat) (gs : List (List Nat)) (num : List Int) : Option Nat := (List.range gs.length).find? (freeF s ofs gs num)
def setAll (num : List Int) (g : List Nat) (c : Nat) : List Int := g.foldl (fun m p => m.set p (c : Int)) num
def roundF (s : Shp) (ofs : List Nat) (gs : List (List Nat)) (num : List Int) (c : Nat) : List Int :=
  match pickF s ofs gs num with
  | none => num
  | some k => setAll num (gs.getD k []) c
def compF (s : Shp) (gs : List (List Nat)) : List Int := (List.range gs.length).foldl (roundF s (ofF s.n gs) gs) (List.replicate s.n (-1))
theorem idxs_lt (f : Nat × Nat → Nat) (E : List (Nat × Nat)) (p : Nat) : ∀ x ∈ idxs f E p, x < E.length := fun _ hx => List.mem_range.1 (List.mem_filter.1 hx).1
theorem GOk.okIn {n : Nat} {exit : Int} {E : List (Nat × Nat)} (h : GOk n exit E) : (shapeOf n E).OkIn := by
  have h5 := h.len
  refine ⟨by simp [shapeOf], fun es hes x hx => ?_, fun x hx => ?_, h.n1, fun es hes => ?_⟩
  · obtain ⟨p, _, rfl⟩ := List.mem_map.1 hes
    have := idxs_lt _ _ _ x hx
    simpa [shapeOf] using this
  · obtain ⟨y, hy, rfl⟩ := List.mem_map.1 hx
    exact (h.lt y hy).1
  · obtain ⟨p, _, rfl⟩ := List.mem_map.1 hes
    have := idxs_length Prod.snd E p
    omega
theorem GOk.okInRev {n : Nat} {exit : Int} {E : List (Nat × Nat)} (h : GOk n exit E) {x : Nat} (hx : x < n) : ((shapeOf n E).rev x).OkIn := by
  have h5 := h.len
  refine ⟨by simp [shapeOf, Shp.rev], fun es hes y hy => ?_, fun y hy => ?_, hx, fun es hes => ?_⟩
  · obtain ⟨p, _, rfl⟩ := List.mem_map.1 hes
    have := idxs_lt _ _ _ y hy
    simpa [shapeOf, Shp.rev] using this
  · obtain ⟨z, hz, rfl⟩ := List.mem_map.1 hy
    exact (h.lt z hz).2
  · obtain ⟨p, _, rfl⟩ := List.mem_map.1 hes
    have := idxs_length Prod.fst E p
    omega
theorem GOk.okTo {n : Nat} {exit : Int} {E : List (Nat × Nat)} (h : GOk n exit E) : (shapeOf n E).OkTo := ⟨by simp [shapeOf], by have := h.len; simp [shapeOf]; omega⟩

end Go.Proofs.YthaampinmelgaaaGreatDoor

/- Plain laws: the sweeps of the search for dominators come to an end, at the tree of the dominators. No program here. -/
import Derived.Test.YtngfoinceakgdaaDomT
namespace Go.Proofs.Ytngfoinceakgdaa

theorem nodup_inj {l : List Nat} (hn : l.Nodup) {i j : Nat} (hi : i < l.length) (hj : j < l.length) (h : l[i] = l[j]) : i = j :=
  (List.getElem?_inj hi hn).1 (by rw [List.getElem?_eq_getElem hi, List.getElem?_eq_getElem hj, h])

/-- The places are the order's. -/
theorem placesOf_at (n : Nat) (ord : List Nat) (hn : ord.Nodup) (hlt : ∀ x ∈ ord, x < n) : ∀ k, k ≤ ord.length →
    (∀ (i : Nat) (_ : i < k) (h : i < ord.length), getI (placesOf n (ord.take k)) ord[i] = (i : Int)) ∧ ∀ x, x ∉ ord.take k → getI (placesOf n (ord.take k)) x = -1
  | 0, _ => ⟨fun i hi => by omega, fun x _ => by
      unfold placesOf getI
      rw [List.take_zero, List.zipIdx_nil, List.foldl_nil, List.getD_eq_getElem?_getD, List.getElem?_replicate]
      split <;> rfl⟩
  | k + 1, h => by
    obtain ⟨h1, h2⟩ := placesOf_at n ord hn hlt k (by omega)
    have hk : k < ord.length := by omega
    rw [placesOf_succ n ord k hk]
    have hl := placesOf_length n (ord.take k)
    refine ⟨fun i hi hio => ?_, fun x hx => ?_⟩
    · rw [getI_set]
      by_cases e : i = k
      · subst e
        rw [if_pos ⟨rfl, by rw [hl]; exact hlt _ (List.getElem_mem _)⟩]
      · rw [if_neg (fun e2 => e (nodup_inj hn hio hk e2.1.symm))]
        exact h1 i (by omega) hio
    · rw [List.take_succ_eq_append_getElem hk, List.mem_append, not_or] at hx
      rw [getI_set, if_neg (fun e2 => hx.2 (by simp [e2.1]))]
      exact h2 x hx.1

theorem place_get {n : Nat} {ord : List Nat} (hn : ord.Nodup) (hlt : ∀ x ∈ ord, x < n) {i : Nat} (h : i < ord.length) : getI (placesOf n ord) ord[i] = (i : Int) := by
  have := (placesOf_at n ord hn hlt ord.length (Nat.le_refl _)).1 i h h
  rwa [List.take_length] at this
theorem place_no {n : Nat} {ord : List Nat} (hn : ord.Nodup) (hlt : ∀ x ∈ ord, x < n) {x : Nat} (h : x ∉ ord) : getI (placesOf n ord) x = -1 := by
  have := (placesOf_at n ord hn hlt ord.length (Nat.le_refl _)).2 x (by rwa [List.take_length])
  rwa [List.take_length] at this
theorem place_mem {n : Nat} {ord : List Nat} (hn : ord.Nodup) (hlt : ∀ x ∈ ord, x < n) {x : Nat} : 0 ≤ getI (placesOf n ord) x ↔ x ∈ ord := by
  constructor
  · intro h
    by_cases hx : x ∈ ord
    · exact hx
    · rw [place_no hn hlt hx] at h; omega
  · intro h
    obtain ⟨i, hi, rfl⟩ := List.mem_iff_getElem.1 h
    rw [place_get hn hlt hi]; omega
theorem place_lt {n : Nat} {ord : List Nat} (hn : ord.Nodup) (hlt : ∀ x ∈ ord, x < n) (x : Nat) (h0 : 0 < ord.length) : getI (placesOf n ord) x ≤ (ord.length : Int) - 1 := by
  by_cases hx : x ∈ ord
  · obtain ⟨i, hi, rfl⟩ := List.mem_iff_getElem.1 hx
    rw [place_get hn hlt hi]; omega
  · rw [place_no hn hlt hx]; omega
theorem place_inj {n : Nat} {ord : List Nat} (hn : ord.Nodup) (hlt : ∀ x ∈ ord, x < n) {p q : Nat} (h0 : 0 ≤ getI (placesOf n ord) p) (h : getI (placesOf n ord) p = getI (placesOf n ord) q) : p = q := by
  have hq : q ∈ ord := (place_mem hn hlt).1 (h ▸ h0)
  have hp := (place_mem hn hlt).1 h0
  obtain ⟨i, hi, rfl⟩ := List.mem_iff_getElem.1 hp
  obtain ⟨j, hj, rfl⟩ := List.mem_iff_getElem.1 hq
  rw [place_get hn hlt hi, place_get hn hlt hj] at h
  have : i = j := by omega
  subst this
  rfl

section
variable {succ preds : Nat → List Nat} {ent : Nat} {pl ab : List Int}

/-- The two fingers meet at the nearest point above both. -/
theorem meet_spec (g : DG succ preds (getI pl) ent) (t : Tree (getI pl) (getI ab) ent) : ∀ (k p q : Nat), 0 ≤ getI ab p → 0 ≤ getI ab q → (getI pl ent - getI pl p) + (getI pl ent - getI pl q) < (k : Int) →
    ∃ m, meetF pl ab k p q = some m ∧ 0 ≤ getI ab m ∧ Anc (getI ab) p m ∧ Anc (getI ab) q m ∧ ∀ d, Anc (getI ab) p d → Anc (getI ab) q d → Anc (getI ab) m d
  | 0, p, q, hp, hq, hk => by have := g.max p; have := g.max q; omega
  | k + 1, p, q, hp, hq, hk => by
    unfold meetF
    by_cases hpq : p = q
    · subst hpq
      rw [if_pos rfl]
      exact ⟨p, rfl, hp, .refl _, .refl _, fun d h _ => h⟩
    · rw [if_neg hpq]
      by_cases hlt : getI pl p < getI pl q
      · rw [if_pos hlt, if_pos hp]
        have hpe : p ≠ ent := by rintro rfl; have := g.max q; omega
        obtain ⟨p', e, h1, h2⟩ := t.up p hp hpe
        have e' : (getI ab p).toNat = p' := by omega
        rw [e']
        obtain ⟨m, hm, hm0, ha, hb, hc⟩ := meet_spec g t k p' q h2 hq (by omega)
        refine ⟨m, hm, hm0, .up e ha, hb, fun d hd1 hd2 => hc d ?_ hd2⟩
        cases hd1 with
        | refl => have := (t.anc_le hd2 hq).1; omega
        | up e2 h => have e3 := Int.ofNat.inj (e2.symm.trans e); subst e3; exact h
      · rw [if_neg hlt, if_pos hq]
        have hql : getI pl q < getI pl p := by
          rcases Int.lt_trichotomy (getI pl p) (getI pl q) with h | h | h
          · exact absurd h hlt
          · exact absurd (g.inj p q (t.pos p hp) h) hpq
          · exact h
        have hqe : q ≠ ent := by rintro rfl; have := g.max p; omega
        obtain ⟨q', e, h1, h2⟩ := t.up q hq hqe
        have e' : (getI ab q).toNat = q' := by omega
        rw [e']
        obtain ⟨m, hm, hm0, ha, hb, hc⟩ := meet_spec g t k p q' hp h2 (by omega)
        refine ⟨m, hm, hm0, ha, .up e hb, fun d hd1 hd2 => hc d hd1 ?_⟩
        cases hd2 with
        | refl => have := (t.anc_le hd1 hp).1; omega
        | up e2 h => have e3 := Int.ofNat.inj (e2.symm.trans e); subst e3; exact h

theorem best_fold (g : DG succ preds (getI pl) ent) (t : Tree (getI pl) (getI ab) ent) {k : Nat} (hk : 2 * getI pl ent + 2 < (k : Int)) : ∀ (qs : List Nat) (b : Int) (S : Nat → Prop), BS (getI ab) S b →
    ∃ b', foldO (bestStep pl ab k) qs b = some b' ∧ BS (getI ab) (fun q => S q ∨ (q ∈ qs ∧ 0 ≤ getI ab q)) b'
  | [], b, S, h => ⟨b, rfl, h.congr fun q => by simp⟩
  | x :: xs, b, S, h => by
    have hstep : ∃ b1, bestStep pl ab k b x = some b1 ∧ BS (getI ab) (fun q => S q ∨ (q = x ∧ 0 ≤ getI ab q)) b1 := by
      unfold bestStep
      by_cases h1 : getI pl x < 0 ∨ getI ab x < 0
      · rw [if_pos h1]
        have hx : getI ab x < 0 := by
          rcases h1 with h1 | h1
          · rcases Int.lt_or_le (getI ab x) 0 with h2 | h2
            · exact h2
            · have := t.pos x h2; omega
          · exact h1
        refine ⟨b, rfl, h.congr fun q => ⟨.inl, ?_⟩⟩
        rintro (h2 | ⟨rfl, h2⟩)
        · exact h2
        · omega
      · rw [if_neg h1]
        have hx : 0 ≤ getI ab x := by omega
        rcases h with ⟨rfl, hno⟩ | ⟨m, rfl, hm0, hex, hall, hlow⟩
        · rw [if_pos (by omega)]
          refine ⟨(x : Int), rfl, .inr ⟨x, rfl, hx, ⟨x, .inr ⟨rfl, hx⟩⟩, ?_, fun d hd => hd x (.inr ⟨rfl, hx⟩)⟩⟩
          rintro q (h2 | ⟨rfl, h2⟩)
          · exact absurd h2 (hno q)
          · exact .refl _
        · rw [if_neg (by omega)]
          have hpm := t.pos m hm0
          have hpx := t.pos x hx
          obtain ⟨r, hr, hr0, ha, hb, hc⟩ := meet_spec g t k m x hm0 hx (by omega)
          rw [Int.toNat_natCast, hr]
          refine ⟨(r : Int), rfl, .inr ⟨r, rfl, hr0, ⟨x, .inr ⟨rfl, hx⟩⟩, ?_, fun d hd => hc d (hlow d fun q hq => hd q (.inl hq)) (hd x (.inr ⟨rfl, hx⟩))⟩⟩
          rintro q (h2 | ⟨rfl, h2⟩)
          · exact (hall q h2).trans ha
          · exact hb
    obtain ⟨b1, hb1, hs1⟩ := hstep
    obtain ⟨b', hb', hs'⟩ := best_fold g t hk xs b1 _ hs1
    refine ⟨b', by simp only [foldO, hb1, Option.bind_some]; exact hb', hs'.congr fun q => ?_⟩
    simp only [List.mem_cons]
    constructor
    · rintro ((h1 | ⟨rfl, h1⟩) | ⟨h1, h2⟩)
      · exact .inl h1
      · exact .inr ⟨.inl rfl, h1⟩
      · exact .inr ⟨.inr h1, h2⟩
    · rintro (h1 | ⟨rfl | h1, h2⟩)
      · exact .inl (.inl h1)
      · exact .inl (.inr ⟨rfl, h2⟩)
      · exact .inr ⟨h1, h2⟩

theorem best_spec (g : DG succ preds (getI pl) ent) (t : Tree (getI pl) (getI ab) ent) {k : Nat} (hk : 2 * getI pl ent + 2 < (k : Int)) (qs : List Nat) :
    ∃ b, foldO (bestStep pl ab k) qs (-1) = some b ∧ BS (getI ab) (fun q => q ∈ qs ∧ 0 ≤ getI ab q) b := by
  obtain ⟨b, h, hs⟩ := best_fold g t hk qs (-1) (fun _ => False) (.inl ⟨rfl, fun _ h => h⟩)
  exact ⟨b, h, hs.congr fun q => by simp⟩
end

theorem sum_le {f h : Nat → Nat} : ∀ (l : List Nat), (∀ x ∈ l, f x ≤ h x) → (l.map f).sum ≤ (l.map h).sum
  | [], _ => Nat.le_refl _
  | x :: xs, hl => by
    have := sum_le xs fun y hy => hl y (List.mem_cons_of_mem _ hy)
    have := hl x List.mem_cons_self
    simp only [List.map_cons, List.sum_cons]
    omega
theorem sum_lt {f h : Nat → Nat} : ∀ (l : List Nat), (∀ x ∈ l, f x ≤ h x) → (∃ x ∈ l, f x < h x) → (l.map f).sum < (l.map h).sum
  | [], _, ⟨_, hx, _⟩ => by cases hx
  | x :: xs, hl, ⟨y, hy, hlt⟩ => by
    have h1 := sum_le xs fun y hy => hl y (List.mem_cons_of_mem _ hy)
    have h2 := hl x List.mem_cons_self
    simp only [List.map_cons, List.sum_cons]
    rcases List.mem_cons.1 hy with rfl | hy
    · omega
    · have := sum_lt xs (fun y hy => hl y (List.mem_cons_of_mem _ hy)) ⟨y, hy, hlt⟩
      omega
theorem sum_const_le {f : Nat → Nat} {c : Nat} : ∀ (l : List Nat), (∀ x ∈ l, f x ≤ c) → (l.map f).sum ≤ l.length * c
  | [], _ => by simp
  | x :: xs, hl => by
    have h1 := sum_const_le xs fun y hy => hl y (List.mem_cons_of_mem _ hy)
    have h2 := hl x List.mem_cons_self
    simp only [List.map_cons, List.sum_cons, List.length_cons, Nat.succ_mul]
    omega

/-- How far the tree has come. -/
def muX (pl : List Int) (A : Nat → Int) (x : Nat) : Nat := if 0 ≤ A x then (getI pl (A x).toNat + 2).toNat else 0
def mu (pl : List Int) (n : Nat) (A : Nat → Int) : Nat := ((List.range n).map (muX pl A)).sum

theorem getI_upd {ab : List Int} {w : Nat} {b : Int} (hw : w < ab.length) : getI (ab.set w b) = updA (getI ab) w b := by
  funext x
  rw [getI_set]
  unfold updA
  by_cases h : w = x
  · subst h; rw [if_pos ⟨rfl, hw⟩, if_pos rfl]
  · rw [if_neg (fun e => h e.1), if_neg (fun e => h e.symm)]

theorem upd_self {A : Nat → Int} {w : Nat} {b : Int} (h : b = A w) : updA A w b = A := by
  funext x
  unfold updA
  split
  · rename_i e; rw [h, e]
  · rfl

section
variable {s : Shp} {ord : List Nat} {k : Nat}

theorem mu_step {succ preds : Nat → List Nat} {P : Nat → Int} {ent : Nat} {pl : List Int} (hP : P = getI pl) {n : Nat} {A : Nat → Int} {w m : Nat} (hw : w < n) (hwm : P w < P m) (hw0 : 0 ≤ P w) (t : Tree P A ent) (g : DG succ preds P ent) (hne : (m : Int) ≠ A w) (ham : ∀ a : Nat, A w = (a : Int) → Anc A a m) (hwe : w ≠ ent) :
    mu pl n A < mu pl n (updA A w (m : Int)) := by
  subst hP
  have hmw : muX pl A w < muX pl (updA A w (m : Int)) w := by
    have e1 : muX pl (updA A w (m : Int)) w = (getI pl m + 2).toNat := by
      unfold muX
      rw [updA_same, if_pos (by omega), Int.toNat_natCast]
    rw [e1]
    unfold muX
    split
    · rename_i h0
      obtain ⟨a, ha, h1, h2⟩ := t.up w h0 hwe
      rw [ha, Int.toNat_natCast]
      have hne' : a ≠ m := by rintro rfl; exact hne ha.symm
      have := t.anc_lt g (ham a ha) h2 hne'
      omega
    · omega
  refine sum_lt _ (fun x _ => ?_) ⟨w, by simpa using hw, hmw⟩
  by_cases h : x = w
  · subst h; omega
  · unfold muX
    rw [updA_ne _ h]
    exact Nat.le_refl _

/-- One sweep over the first m places, from above. -/
theorem sweep_spec (pl : List Int) (hpl : pl = placesOf s.n ord) (hn : ord.Nodup) (hlt : ∀ x ∈ ord, x < s.n) {succ : Nat → List Nat} {ent : Nat} (g : DG succ s.preds (getI pl) ent) (hent : getI pl ent = (ord.length : Int) - 1) (hk : 2 * ord.length < k) :
    ∀ (m : Nat), m + 1 ≤ ord.length → ∀ (ab : List Int) (fl : Bool), ab.length = s.n → DInv succ s.preds (getI pl) ent ((m : Int) - 1) (getI ab) →
      ∃ ab' fl', foldO (domStep s pl k) (ord.take m).reverse (ab, fl) = some (ab', fl') ∧ ab'.length = s.n ∧ DInv succ s.preds (getI pl) ent (-1) (getI ab') ∧
        (fl' = false → fl = false ∧ ab' = ab ∧ ∀ i, i < m → ∀ w, ord[i]? = some w → BS (getI ab) (fun q => q ∈ s.preds w ∧ 0 ≤ getI ab q) (getI ab w)) ∧
        mu pl s.n (getI ab) ≤ mu pl s.n (getI ab') ∧ (fl' = true → fl = true ∨ mu pl s.n (getI ab) < mu pl s.n (getI ab'))
  | 0, _, ab, fl, hl, h => ⟨ab, fl, rfl, hl, h, fun e => ⟨e, rfl, fun i hi => by omega⟩, Nat.le_refl _, fun e => .inl e⟩
  | m + 1, hm, ab, fl, hl, h => by
    have hmo : m < ord.length := by omega
    have hpw : getI pl ord[m] = (m : Int) := by rw [hpl]; exact place_get hn hlt hmo
    have hwn : ord[m] < s.n := hlt _ (List.getElem_mem hmo)
    have hwe : ord[m] ≠ ent := by intro e; rw [e, hent] at hpw; omega
    rw [List.take_succ_eq_append_getElem hmo, List.reverse_append, List.reverse_cons, List.reverse_nil, List.nil_append, List.cons_append, List.nil_append]
    obtain ⟨b, hb, hbs⟩ := best_spec g h.tree (k := k) (by omega) (s.preds ord[m])
    obtain ⟨hi, mm, rfl, hwm, ham⟩ := h.step g (w := ord[m]) (by omega) (by omega) hwe hbs
    rw [show ((m + 1 : Nat) : Int) - 1 - 1 = (m : Int) - 1 by omega] at hi
    by_cases hsame : (mm : Int) = getI ab ord[m]
    · have hstep : domStep s pl k (ab, fl) ord[m] = some (ab, fl) := by
        unfold domStep
        simp only
        rw [hb]
        simp [hsame]
      rw [upd_self hsame] at hi
      obtain ⟨ab', fl', h1, h2, h3, h4, h5, h6⟩ := sweep_spec pl hpl hn hlt g hent hk m (by omega) ab fl hl hi
      refine ⟨ab', fl', by simp only [foldO, hstep, Option.bind_some]; exact h1, h2, h3, fun e => ?_, h5, h6⟩
      obtain ⟨a1, a2, a3⟩ := h4 e
      refine ⟨a1, a2, fun i hi w hw => ?_⟩
      rcases Nat.lt_or_ge i m with h7 | h7
      · exact a3 i h7 w hw
      · have : i = m := by omega
        subst this
        rw [List.getElem?_eq_getElem hmo] at hw
        cases hw
        rw [← hsame]
        exact hbs
    · have hstep : domStep s pl k (ab, fl) ord[m] = some (ab.set ord[m] (mm : Int), true) := by
        unfold domStep
        simp only
        rw [hb]
        simp [hsame]
      have hupd := getI_upd (ab := ab) (w := ord[m]) (b := (mm : Int)) (by omega)
      rw [← hupd] at hi
      obtain ⟨ab', fl', h1, h2, h3, h4, h5, h6⟩ := sweep_spec pl hpl hn hlt g hent hk m (by omega) (ab.set ord[m] (mm : Int)) true (by simpa using hl) hi
      have hmu := mu_step rfl hwn hwm (by omega) h.tree g hsame ham hwe
      rw [← hupd] at hmu
      refine ⟨ab', fl', by simp only [foldO, hstep, Option.bind_some]; exact h1, h2, h3, fun e => ?_, by omega, fun _ => .inr (by omega)⟩
      have := (h4 e).1
      cases this

theorem DInv.again {succ preds : Nat → List Nat} {P A : Nat → Int} {ent : Nat} (h : DInv succ preds P ent (-1) A) {c : Int} (hc : -1 ≤ c) : DInv succ preds P ent c A :=
  ⟨h.tree, fun p hp => h.q1 p (by omega), .inl fun p hp => h.q1 p (by omega), h.m, fun p h1 h2 a h3 _ f hf hl => h.f p h1 h2 a h3 (.inl (by have := h.tree.pos p h1; omega)) f hf hl, h.path, h.dom⟩

theorem mu_le (pl : List Int) (n N : Nat) (A : Nat → Int) (hP : ∀ x, getI pl x ≤ (N : Int) - 1) : mu pl n A ≤ n * (N + 1) := by
  have := sum_const_le (f := muX pl A) (c := N + 1) (List.range n) (fun x _ => by
    unfold muX
    split
    · have := hP (A x).toNat; omega
    · omega)
  rwa [List.length_range] at this

/-- The sweeps come to an end: at a tree that none of them turns. -/
theorem loop_spec (pl : List Int) (hpl : pl = placesOf s.n ord) (hn : ord.Nodup) (hlt : ∀ x ∈ ord, x < s.n) {succ : Nat → List Nat} {ent : Nat} (g : DG succ s.preds (getI pl) ent) (hent : getI pl ent = (ord.length : Int) - 1) (hk : 2 * ord.length < k) (h0 : 0 < ord.length) :
    ∀ (j : Nat) (ab : List Int), ab.length = s.n → DInv succ s.preds (getI pl) ent ((ord.length : Int) - 2) (getI ab) → s.n * (ord.length + 1) < j + mu pl s.n (getI ab) →
      ∃ res, domLoop s pl k ord j ab = some res ∧ res.length = s.n ∧ DInv succ s.preds (getI pl) ent (-1) (getI res) ∧ ∀ w, w ∈ ord → w ≠ ent → BS (getI res) (fun q => q ∈ s.preds w ∧ 0 ≤ getI res q) (getI res w)
  | 0, ab, _, _, hj => by
    have := mu_le pl s.n ord.length (getI ab) (fun x => by have := g.max x; omega)
    omega
  | j + 1, ab, hl, h, hj => by
    obtain ⟨m, hm⟩ : ∃ m, ord.length = m + 1 := ⟨ord.length - 1, by omega⟩
    obtain ⟨ab', fl', h1, h2, h3, h4, h5, h6⟩ := sweep_spec pl hpl hn hlt g hent hk m (by omega) ab false hl (by rw [hm] at h; rwa [show ((m + 1 : Nat) : Int) - 2 = (m : Int) - 1 by omega] at h)
    have hsw : domSweep s pl k ord ab = some (ab', fl') := by
      unfold domSweep
      rw [List.dropLast_eq_take, hm, Nat.add_sub_cancel]
      exact h1
    unfold domLoop
    rw [hsw, Option.bind_some]
    cases fl' with
    | true =>
      simp only [if_true]
      have := h6 rfl
      exact loop_spec pl hpl hn hlt g hent hk h0 j ab' h2 (h3.again (by omega)) (by simp at this; omega)
    | false =>
      obtain ⟨-, rfl, hfix⟩ := h4 rfl
      refine ⟨ab', by simp, h2, h3, fun w hw hwe => ?_⟩
      obtain ⟨i, hi, rfl⟩ := List.mem_iff_getElem.1 hw
      have him : i < m := by
        rcases Nat.lt_or_ge i m with h7 | h7
        · exact h7
        · have h8 : getI pl ord[i] = (i : Int) := by rw [hpl]; exact place_get hn hlt hi
          exact absurd (g.inj _ _ (by omega) (by omega)) hwe
      exact hfix i him _ (List.getElem?_eq_getElem hi)
end

/-- Each point but the entry has one above it that is behind it in the order. -/
def TreeP (succ : Nat → List Nat) (roots new : List Nat) : Prop := ∀ (i x : Nat), new[i]? = some x → x ∈ roots ∨ ∃ j f : Nat, i < j ∧ new[j]? = some f ∧ x ∈ succ f

theorem TreeP.append {succ : Nat → List Nat} {r1 r2 n1 n2 : List Nat} (h1 : TreeP succ r1 n1) (h2 : TreeP succ r2 n2) : TreeP succ (r1 ++ r2) (n1 ++ n2) := by
  intro i x hx
  rw [List.getElem?_append] at hx
  split at hx
  · rcases h1 i x hx with h | ⟨j, f, hj, hf, hs⟩
    · exact .inl (List.mem_append_left _ h)
    · exact .inr ⟨j, f, hj, by rw [List.getElem?_append_left (List.getElem?_eq_some_iff.1 hf).1]; exact hf, hs⟩
  · rcases h2 _ x hx with h | ⟨j, f, hj, hf, hs⟩
    · exact .inl (List.mem_append_right _ h)
    · exact .inr ⟨n1.length + j, f, by omega, by rw [List.getElem?_append_right (by omega), Nat.add_sub_cancel_left]; exact hf, hs⟩

theorem foldO_tree {succ : Nat → List Nat} {f : List Bool × List Nat → Nat → Option (List Bool × List Nat)} (hf : ∀ s x t, f s x = some t → ∃ new, t.2 = s.2 ++ new ∧ TreeP succ [x] new) :
    ∀ (xs : List Nat) (s t : List Bool × List Nat), foldO f xs s = some t → ∃ new, t.2 = s.2 ++ new ∧ TreeP succ xs new
  | [], s, t, h => by cases h; exact ⟨[], by simp, fun i x hx => by simp at hx⟩
  | x :: xs, s, t, h => by
    simp only [foldO] at h
    cases hq : f s x with
    | none => rw [hq] at h; cases h
    | some u =>
      rw [hq] at h
      obtain ⟨a, ha, hta⟩ := hf s x u hq
      obtain ⟨b, hb, htb⟩ := foldO_tree hf xs u t h
      exact ⟨a ++ b, by rw [hb, ha, List.append_assoc], hta.append htb⟩

theorem dfsV_tree {succ : Nat → List Nat} {wo : Int} : ∀ (k : Nat) (s : List Bool × List Nat) (p : Nat) (t : List Bool × List Nat), dfsV succ wo k s p = some t → ∃ new, t.2 = s.2 ++ new ∧ TreeP succ [p] new
  | 0, _, _, _, h => by simp [dfsV] at h
  | k + 1, s, p, t, h => by
    simp only [dfsV] at h
    split at h
    · cases h; exact ⟨[], by simp, fun i x hx => by simp at hx⟩
    · split at h
      · cases h; exact ⟨[], by simp, fun i x hx => by simp at hx⟩
      · obtain ⟨u, hu, rfl⟩ := Option.map_eq_some_iff.1 h
        obtain ⟨a, ha, hta⟩ := foldO_tree (fun s x t h => dfsV_tree k s x t h) _ _ _ hu
        refine ⟨a ++ [p], by simp only; rw [ha, List.append_assoc], fun i x hx => ?_⟩
        rw [List.getElem?_append] at hx
        split at hx
        · rename_i hi
          rcases hta i x hx with h1 | ⟨j, f, hj, hf, hs⟩
          · exact .inr ⟨a.length, p, hi, by simp, h1⟩
          · exact .inr ⟨j, f, hj, by rw [List.getElem?_append_left (List.getElem?_eq_some_iff.1 hf).1]; exact hf, hs⟩
        · have hx' := List.mem_of_getElem? hx
          exact .inl hx'

theorem dfsV_last {succ : Nat → List Nat} {wo : Int} {k : Nat} {s : List Bool × List Nat} {p : Nat} {t : List Bool × List Nat} (h : dfsV succ wo k s p = some t) (hw : (p : Int) ≠ wo) (hp : s.1.getD p false = false) : ∃ l, t.2 = l ++ [p] := by
  cases k with
  | zero => simp [dfsV] at h
  | succ k =>
    simp only [dfsV] at h
    rw [if_neg hw, if_neg (by rw [hp]; simp)] at h
    obtain ⟨u, hu, rfl⟩ := Option.map_eq_some_iff.1 h
    exact ⟨u.2, rfl⟩

/-- The immediate dominators, by what they mean. -/
structure IsIdom (succ : Nat → List Nat) (ent n : Nat) (res : List Int) : Prop where
  len : res.length = n
  entR : getI res ent = -1
  no : ∀ p, ¬ Rch succ (fun _ => True) ent p → getI res p = -1
  up : ∀ p, Rch succ (fun _ => True) ent p → p ≠ ent → ∃ a : Nat, getI res p = (a : Int) ∧ Rch succ (fun _ => True) ent a ∧ a ≠ p ∧ ∀ d, ¬ Rch succ (fun q => q ≠ d) ent p ↔ d = p ∨ ¬ Rch succ (fun q => q ≠ d) ent a
  rank : ∃ R : Nat → Nat, (∀ p, R p ≤ n) ∧ ∀ p a : Nat, getI res p = (a : Int) → R p < R a

theorem dg_of {s : Shp} {k : Nat} {t : List Bool × List Nat} (hsucc : ∀ p, p < s.n → ∀ x ∈ s.next p, x < s.n) (hsp : ∀ p q, p < s.n → (q ∈ s.preds p ↔ p ∈ s.next q)) (hent : s.entry < s.n)
    (h : foldO (dfsV s.next (-1) k) [s.entry] (List.replicate s.n false, []) = some t) :
    DG s.next s.preds (getI (placesOf s.n t.2)) s.entry ∧ getI (placesOf s.n t.2) s.entry = (t.2.length : Int) - 1 ∧ 0 < t.2.length := by
  have hx : ∀ x ∈ [s.entry], x < s.n := fun x hx => by simp at hx; omega
  obtain ⟨h1, h2, h3, h4, h5⟩ := dfs_order hsucc hx h
  have h6 := dfs_reach hsucc hx h
  have hd : dfsV s.next (-1) k (List.replicate s.n false, []) s.entry = some t := by
    simp only [foldO] at h
    cases hq : dfsV s.next (-1) k (List.replicate s.n false, []) s.entry with
    | none => rw [hq] at h; cases h
    | some u => rw [hq] at h; exact h
  obtain ⟨l, hl⟩ := dfsV_last hd (by omega) (by simp only; rw [List.getD_eq_getElem?_getD, List.getElem?_replicate]; split <;> rfl)
  obtain ⟨new, hnew, htree⟩ := dfsV_tree k _ _ _ hd
  have hnew' : t.2 = new := by simpa using hnew
  have hll : t.2.length = l.length + 1 := by rw [hl]; simp
  have hpe : getI (placesOf s.n t.2) s.entry = (t.2.length : Int) - 1 := by
    have hlt : l.length < t.2.length := by omega
    have he : t.2[l.length] = s.entry := by simp [hl]
    have := place_get h1 h2 hlt
    rw [he] at this
    omega
  have hmem : ∀ {x}, 0 ≤ getI (placesOf s.n t.2) x ↔ x ∈ t.2 := fun {x} => place_mem h1 h2
  refine ⟨⟨fun p q => place_inj h1 h2, fun p => ?_, by omega, fun p q hp => hsp p q (h2 p (hmem.1 hp)), fun p => ?_, fun p hp hne => ?_⟩, hpe, by omega⟩
  · rw [hpe]; exact place_lt h1 h2 p (by omega)
  · rw [hmem, ← h5 p, h6 p]
    constructor
    · rintro ⟨a, ha, hr⟩
      simp at ha
      subst ha
      exact hr.mono fun _ _ => trivial
    · intro hr
      exact ⟨s.entry, by simp, hr.mono fun x _ => by omega⟩
  · obtain ⟨i, hi, rfl⟩ := List.mem_iff_getElem.1 (hmem.1 hp)
    rcases htree i _ (by rw [← hnew']; exact List.getElem?_eq_getElem hi) with h7 | ⟨j, f, hj, hf, hs⟩
    · simp at h7; exact absurd h7 hne
    · rw [← hnew'] at hf
      obtain ⟨hjl, rfl⟩ := List.getElem?_eq_some_iff.1 hf
      refine ⟨_, (hsp _ _ (h2 _ (List.getElem_mem hi))).2 hs, ?_⟩
      rw [place_get h1 h2 hi, place_get h1 h2 hjl]
      omega

theorem getI_replicate (n x : Nat) : getI (List.replicate n (-1)) x = -1 := by
  unfold getI
  rw [List.getD_eq_getElem?_getD, List.getElem?_replicate]
  split <;> rfl

/-- The search for dominators comes to an end, and finds the immediate dominators. -/
theorem dom_total {s : Shp} {k : Nat} {t : List Bool × List Nat} (hsucc : ∀ p, p < s.n → ∀ x ∈ s.next p, x < s.n) (hsp : ∀ p q, p < s.n → (q ∈ s.preds p ↔ p ∈ s.next q)) (hent : s.entry < s.n)
    (h : foldO (dfsV s.next (-1) k) [s.entry] (List.replicate s.n false, []) = some t) (hk : 2 * s.n < k) {j : Nat} (hj : s.n * (s.n + 1) < j) :
    ∃ res, domF s k j t.2 = some res ∧ IsIdom s.next s.entry s.n res := by
  obtain ⟨g, hpe, hpos⟩ := dg_of hsucc hsp hent h
  obtain ⟨h1, h2, h3, h4, h5⟩ := dfs_order hsucc (fun x hx => by simp at hx; omega) h
  have h0 : ∀ x, getI ((List.replicate s.n (-1)).set s.entry (s.entry : Int)) x = if s.entry = x then (s.entry : Int) else -1 := fun x => by
    rw [getI_set, getI_replicate]
    by_cases e : s.entry = x
    · rw [if_pos ⟨e, by simpa using hent⟩, if_pos e]
    · rw [if_neg (fun e2 => e e2.1), if_neg e]
  have hno : ∀ {p}, p ≠ s.entry → ¬ 0 ≤ getI ((List.replicate s.n (-1)).set s.entry (s.entry : Int)) p := fun {p} hp h => by
    rw [h0, if_neg (Ne.symm hp)] at h; omega
  have hinit : DInv s.next s.preds (getI (placesOf s.n t.2)) s.entry ((t.2.length : Int) - 2) (getI ((List.replicate s.n (-1)).set s.entry (s.entry : Int))) := by
    refine ⟨⟨by rw [h0, if_pos rfl], fun p hp hne => absurd hp (hno hne), fun p hp => ?_, fun p hp => ?_⟩, fun p hp => ?_, .inr fun p hp => ?_, fun p hp hne => absurd hp (hno hne), fun p hp hne => absurd hp (hno hne), fun p hp hne => absurd hp (hno hne), fun u hu d hd => ?_⟩
    · by_cases e : p = s.entry
      · subst e; omega
      · exact absurd hp (hno e)
    · rw [h0, if_neg (by rintro rfl; omega)]
    · have := g.max p
      have e := g.inj p s.entry (by omega) (by omega)
      subst e
      rw [h0, if_pos rfl]; omega
    · by_cases e : p = s.entry
      · subst e; omega
      · exact absurd hp (hno e)
    · by_cases e : u = s.entry
      · subst e
        by_cases e2 : s.entry = d
        · subst e2; exact .refl _
        · exact absurd (.refl e2) hd
      · exact absurd hu (hno e)
  have hmul : s.n * (t.2.length + 1) ≤ s.n * (s.n + 1) := Nat.mul_le_mul_left _ (by omega)
  obtain ⟨ab, hab, hl, hi, hfix⟩ := loop_spec (k := k) (placesOf s.n t.2) rfl h1 h2 g hpe (by omega) hpos j _ (by simp) hinit (by omega)
  have hmem : ∀ {x}, 0 ≤ getI (placesOf s.n t.2) x ↔ x ∈ t.2 := fun {x} => place_mem h1 h2
  have hfix' : ∀ w, 0 ≤ getI (placesOf s.n t.2) w → w ≠ s.entry → BS (getI ab) (fun q => q ∈ s.preds w ∧ 0 ≤ getI ab q) (getI ab w) := fun w hw hne => hfix w (hmem.1 hw) hne
  have hall : ∀ p, 0 ≤ getI (placesOf s.n t.2) p → 0 ≤ getI ab p := fun p hp => hi.q1 p (by omega)
  have hiff : ∀ p, 0 ≤ getI (placesOf s.n t.2) p → ∀ d, ¬ Rch s.next (fun q => q ≠ d) s.entry p ↔ Anc (getI ab) p d := fun p hp d =>
    ⟨hi.dom p (hall p hp) d, fun k hr => fix_dom hi.tree g hall hfix' hr k⟩
  have hres : ∀ x, getI (ab.set s.entry (-1)) x = if s.entry = x then -1 else getI ab x := fun x => by
    rw [getI_set]
    by_cases e : s.entry = x
    · rw [if_pos ⟨e, by rw [hl]; exact hent⟩, if_pos e]
    · rw [if_neg (fun e2 => e e2.1), if_neg e]
  have hneg : ∀ x, ¬ 0 ≤ getI (placesOf s.n t.2) x → getI ab x = -1 := fun x hx => hi.tree.neg x (by omega)
  refine ⟨ab.set s.entry (-1), by unfold domF; rw [hab]; rfl, by simpa using hl, by rw [hres, if_pos rfl], fun p hp => ?_, fun p hp hne => ?_, ?_⟩
  · rw [hres]
    split
    · rfl
    · exact hneg p fun h => hp ((g.reach p).1 h)
  · have hp0 := (g.reach p).2 hp
    obtain ⟨a, ha, hlt, ha0⟩ := hi.tree.up p (hall p hp0) hne
    have ha1 := hi.tree.pos a ha0
    refine ⟨a, by rw [hres, if_neg (Ne.symm hne)]; exact ha, (g.reach a).1 ha1, by rintro rfl; omega, fun d => ?_⟩
    rw [hiff p hp0, hiff a ha1]
    constructor
    · intro k
      cases k with
      | refl => exact .inl rfl
      | up e k => have e2 := Int.ofNat.inj (e.symm.trans ha); subst e2; exact .inr k
    · rintro (rfl | k)
      · exact .refl _
      · exact .up ha k
  · refine ⟨fun p => (getI (placesOf s.n t.2) p + 1).toNat, fun p => ?_, fun p a ha => ?_⟩
    · have := g.max p; simp only; omega
    · rw [hres] at ha
      split at ha
      · omega
      · rename_i hne
        obtain ⟨q, hq, hlt, hq0⟩ := hi.tree.up p (by omega) (Ne.symm hne)
        have e2 := Int.ofNat.inj (hq.symm.trans ha)
        subst e2
        have := hi.tree.pos p (by omega)
        simp only
        omega

end Go.Proofs.Ytngfoinceakgdaa

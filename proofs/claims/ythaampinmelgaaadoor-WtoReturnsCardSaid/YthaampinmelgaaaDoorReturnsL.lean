/- The law WtoReturns: plain and walked. -/
import Derived.Test.YthaampinmelgaaaDoorListsL
import Derived.Test.YthaampinmelgaaaDoorParse
/-! The text of elements has these elements: plain. No program here. -/
namespace Go.Proofs.YthaampinmelgaaaDoor
open Go.RowKit

mutual
def El.plain : El → El
  | .mk p c b => .mk (min (max p 0) 1048576) c (if c then plainL b else [])
def plainL : List El → List El
  | [] => []
  | x :: l => x.plain :: plainL l
end
mutual
def El.dp : El → Nat
  | .mk _ _ b => dpL b + 1
def dpL : List El → Nat
  | [] => 0
  | x :: l => max x.dp (dpL l)
end
theorem plainL_map : ∀ l : List El, plainL l = l.map El.plain
  | [] => by simp [plainL]
  | x :: l => by simp [plainL, plainL_map l]
theorem El.plain_mk (p : Int) (c : Bool) (b : List El) : (El.mk p c b).plain = .mk (min (max p 0) 1048576) c (if c then plainL b else []) := by simp [El.plain]
theorem El.dp_mk (p : Int) (c : Bool) (b : List El) : (El.mk p c b).dp = dpL b + 1 := by simp [El.dp]
theorem dpL_nil : dpL [] = 0 := by simp [dpL]
theorem dpL_cons (x : El) (l : List El) : dpL (x :: l) = max x.dp (dpL l) := by simp [dpL]
theorem dpL_append : ∀ (a b : List El), dpL (a ++ b) = max (dpL a) (dpL b)
  | [], b => by simp [dpL_nil]
  | x :: a, b => by rw [List.cons_append, dpL_cons, dpL_cons, dpL_append a b]; omega
mutual
theorem El.dp_le : ∀ (x : El), x.dp ≤ x.pts.length
  | .mk p c b => by
    have := dpL_le b
    rw [El.dp_mk, El.pts_mk, List.length_cons]
    omega
theorem dpL_le : ∀ (l : List El), dpL l ≤ (ptsL l).length
  | [] => by simp [dpL_nil]
  | x :: l => by
    have h1 := El.dp_le x
    have h2 := dpL_le l
    rw [dpL_cons, ptsL_cons, List.length_append]
    omega
end
mutual
theorem El.plain_pts : ∀ (x : El), x.plain.pts.length ≤ x.pts.length
  | .mk p c b => by
    have := plainL_pts b
    rw [El.plain_mk, El.pts_mk, El.pts_mk]
    cases c
    · simp [ptsL_nil]
    · simpa using this
theorem plainL_pts : ∀ (l : List El), (ptsL (plainL l)).length ≤ (ptsL l).length
  | [] => by simp [plainL, ptsL_nil]
  | x :: l => by
    have h1 := El.plain_pts x
    have h2 := plainL_pts l
    simp only [plainL]
    rw [ptsL_cons, ptsL_cons, List.length_append, List.length_append]
    omega
end
/-- What the text of elements keeps. -/
def Rng (p : Int) : Prop := 0 ≤ p ∧ p ≤ 1048576
mutual
def El.right : El → Prop
  | .mk p c b => Rng p ∧ (c = false → b = []) ∧ rightL b
def rightL : List El → Prop
  | [] => True
  | x :: l => x.right ∧ rightL l
end
mutual
theorem El.plain_right : ∀ (x : El), x.plain.right
  | .mk p c b => by
    have := plainL_right b
    rw [El.plain_mk]
    simp only [El.right]
    refine ⟨⟨by omega, by omega⟩, fun h => by simp [h], ?_⟩
    cases c
    · simp [rightL]
    · simpa using this
theorem plainL_right : ∀ (l : List El), rightL (plainL l)
  | [] => by simp [plainL, rightL]
  | x :: l => by
    simp only [plainL, rightL]
    exact ⟨El.plain_right x, plainL_right l⟩
end
mutual
theorem El.right_rng : ∀ (x : El), x.right → ∀ p ∈ x.pts, Rng p
  | .mk p c b, h, q, hq => by
    simp only [El.right] at h
    rw [El.pts_mk] at hq
    rcases List.mem_cons.1 hq with rfl | hq
    · exact h.1
    · exact rightL_rng b h.2.2 q hq
theorem rightL_rng : ∀ (l : List El), rightL l → ∀ p ∈ ptsL l, Rng p
  | [], _, q, hq => by rw [ptsL_nil] at hq; cases hq
  | x :: l, h, q, hq => by
    simp only [rightL] at h
    rw [ptsL_cons] at hq
    rcases List.mem_append.1 hq with hq | hq
    · exact El.right_rng x h.1 q hq
    · exact rightL_rng l h.2 q hq
end

/-! Reading. -/
section
variable {b : ByteArray}
theorem at_cons {a : Nat} {c : UInt8} {r : List UInt8} (h : b.data.toList.drop a = c :: r) : ∃ ha : a < b.size, b[a] = c ∧ b.data.toList.drop (a + 1) = r := by
  have ha : a < b.data.toList.length := by
    rcases Nat.lt_or_ge a b.data.toList.length with h1 | h1
    · exact h1
    · rw [List.drop_eq_nil_of_le h1] at h; cases h
  have h2 := List.drop_eq_getElem_cons ha
  rw [h] at h2
  injection h2 with h3 h4
  have ha' : a < b.size := by have hs : b.data.toList.length = b.size := rfl; omega
  exact ⟨ha', h3.symm, h4.symm⟩
theorem at_nil {a : Nat} (h : b.data.toList.drop a = []) : ¬ a < b.size := by
  have := List.drop_eq_nil_iff.1 h
  have hs : b.data.toList.length = b.size := rfl
  omega
theorem at_app {a : Nat} {t post : List UInt8} (h : b.data.toList.drop a = t ++ post) : b.data.toList.drop (a + t.length) = post := by
  rw [← List.drop_drop, h, List.drop_left]
theorem at_len {a : Nat} {t post : List UInt8} (h : b.data.toList.drop a = t ++ post) (ht : 0 < t.length) : a + t.length + post.length = b.size := by
  have h1 := congrArg List.length h
  rw [List.length_drop, List.length_append] at h1
  have h2 : b.data.toList.length = b.size := rfl
  omega
theorem isV_cons {a : Nat} {c : UInt8} {r : List UInt8} (h : b.data.toList.drop a = c :: r) (x : Int) : isV b a x = ((c.toNat : Int) == x) := by
  obtain ⟨ha, hc, -⟩ := at_cons h
  rw [isV_at ha, hc]
/-- No digit comes next. -/
def Nd (post : List UInt8) : Prop := ∀ c r, post = c :: r → ¬ (48 ≤ c.toNat ∧ c.toNat ≤ 57)
theorem digB_nd {a : Nat} {post : List UInt8} (h : b.data.toList.drop a = post) (hn : Nd post) : digB b a = false := by
  unfold digB
  cases post with
  | nil => rw [dif_neg (at_nil h)]
  | cons c r =>
    obtain ⟨ha, hc, -⟩ := at_cons h
    rw [dif_pos ha, hc]
    have := hn c r rfl
    simp
    omega
theorem digB_dig {a : Nat} {c : UInt8} {r : List UInt8} (h : b.data.toList.drop a = c :: r) (h1 : 48 ≤ c.toNat) (h2 : c.toNat ≤ 57) : digB b a = true ∧ byteI b a = (c.toNat : Int) := by
  obtain ⟨ha, hc, -⟩ := at_cons h
  unfold digB byteI
  rw [dif_pos ha, dif_pos ha, hc]
  simp [h1, h2]
theorem dig_nat {d : Nat} (hd : d < 10) : (UInt8.ofNat (48 + d)).toNat = 48 + d := by
  simp
  omega
theorem dec_eq (u : Nat) : Lib.decDigits u = if u < 10 then [UInt8.ofNat (48 + u)] else Lib.decDigits (u / 10) ++ [UInt8.ofNat (48 + u % 10)] := by
  conv => lhs; rw [Lib.decDigits]
  split <;> rfl
theorem dec_first : ∀ (u : Nat), ∃ c r, Lib.decDigits u = c :: r ∧ 48 ≤ c.toNat ∧ c.toNat ≤ 57 ∧ (0 < u → 48 < c.toNat) := by
  intro u
  induction u using Nat.strongRecOn with
  | _ u ih =>
    rw [dec_eq]
    by_cases h : u < 10
    · rw [if_pos h]
      refine ⟨_, _, rfl, ?_, ?_, ?_⟩ <;> rw [dig_nat h] <;> omega
    · rw [if_neg h]
      obtain ⟨c, r, h1, h2, h3, h4⟩ := ih (u / 10) (by omega)
      exact ⟨c, r ++ [UInt8.ofNat (48 + u % 10)], by rw [h1]; rfl, h2, h3, fun _ => h4 (by omega)⟩
theorem num_read (from_ : Nat) : ∀ (u : Nat), u ≤ 1048576 → ∀ (K : Nat) (post : List UInt8), b.data.toList.drop from_ = Lib.decDigits u ++ post →
    numV b from_ (K + (Lib.decDigits u).length) from_ 0 = numV b from_ K (from_ + (Lib.decDigits u).length) (u : Int) := by
  intro u
  induction u using Nat.strongRecOn with
  | _ u ih =>
    intro hu K post h
    by_cases h10 : u < 10
    · rw [dec_eq, if_pos h10] at h ⊢
      obtain ⟨h1, h2⟩ := digB_dig h (by rw [dig_nat h10]; omega) (by rw [dig_nat h10]; omega)
      rw [dig_nat h10] at h2
      show numV b from_ (K + 1) from_ 0 = _
      rw [numV, if_pos h1, if_neg (by omega), h2]
      congr 1
      omega
    · rw [dec_eq, if_neg h10] at h ⊢
      rw [List.append_assoc] at h
      have hi := ih (u / 10) (by omega) (by omega) (K + 1) _ h
      have ha := at_app h
      have hd : u % 10 < 10 := Nat.mod_lt _ (by omega)
      obtain ⟨h1, h2⟩ := digB_dig ha (by rw [dig_nat hd]; omega) (by rw [dig_nat hd]; omega)
      rw [dig_nat hd] at h2
      obtain ⟨c, r, hc, h3, h4, h5⟩ := dec_first (u / 10)
      rw [hc] at h
      have hf := (digB_dig (by rw [h]; rfl) h3 h4).2
      have h6 := h5 (by omega)
      rw [List.length_append, show K + ((Lib.decDigits (u / 10)).length + [UInt8.ofNat (48 + u % 10)].length) = K + 1 + (Lib.decDigits (u / 10)).length by simp; omega, hi, numV, if_pos h1, if_neg (by rw [hf]; omega), h2]
      congr 1
      omega
theorem num_ok {from_ : Nat} {u : Nat} (hu : u ≤ 1048576) {post : List UInt8} (h : b.data.toList.drop from_ = Lib.decDigits u ++ post) (hn : Nd post) :
    numV b from_ (b.size + 1) from_ 0 = .ok ((u : Int), from_ + (Lib.decDigits u).length) := by
  obtain ⟨c, r, hc, -⟩ := dec_first u
  have hpos : 0 < (Lib.decDigits u).length := by rw [hc]; simp
  have hl := at_len h hpos
  have h1 := num_read from_ u hu (b.size + 1 - (Lib.decDigits u).length) post h
  rw [show b.size + 1 - (Lib.decDigits u).length + (Lib.decDigits u).length = b.size + 1 by omega] at h1
  rw [h1, show b.size + 1 - (Lib.decDigits u).length = (b.size - (Lib.decDigits u).length) + 1 by omega, numV, digB_nd (at_app h) hn]
  rw [if_neg (by simp), if_neg (by omega), if_neg (by omega)]
theorem itoa_rng {p : Int} (h : Rng p) : ∃ u : Nat, p = (u : Int) ∧ u ≤ 1048576 ∧ Lib.itoa p = Lib.decDigits u := by
  obtain ⟨h0, h1⟩ := h
  refine ⟨p.toNat, by omega, by omega, ?_⟩
  unfold Lib.itoa
  rw [if_neg (by omega)]
theorem tail_cons (x : List UInt8) (r : List (List UInt8)) : Lib.joinTail [32] (x :: r) = 32 :: x ++ Lib.joinTail [32] r := by simp [Lib.joinTail]
theorem tail_nil : Lib.joinTail [32] [] = [] := rfl
theorem nd_of {c : UInt8} {r : List UInt8} (h : ¬ (48 ≤ c.toNat ∧ c.toNat ≤ 57)) : Nd (c :: r) := fun c' r' e => by cases e; exact h
theorem nd_tail (l : List El) {post : List UInt8} (h : Nd post) : Nd (Lib.joinTail [32] (fmtsL l) ++ post) := by
  cases l with
  | nil => simpa [fmtsL, tail_nil] using h
  | cons x l =>
    rw [show fmtsL (x :: l) = x.fmt :: fmtsL l by simp [fmtsL], tail_cons]
    exact nd_of (by decide)
theorem El.fmt_true (p : Int) (l : List El) : (El.mk p true l).fmt = 40 :: (Lib.itoa p ++ (Lib.joinTail [32] (fmtsL l) ++ [41])) := by
  rw [El.fmt_mk, if_pos rfl]
  cases l with
  | nil => simp [fmtsL, tail_nil]
  | cons x l =>
    rw [if_neg (by simp), show fmtsL (x :: l) = x.fmt :: fmtsL l by simp [fmtsL], Lib.join_cons, tail_cons]
    simp
theorem tail_len (xs : List (List UInt8)) : xs.length ≤ (Lib.joinTail [32] xs).length := by
  induction xs with
  | nil => simp
  | cons x r ih => rw [tail_cons]; simp; omega
mutual
theorem elem_read : ∀ (x : El), x.right → ∀ (k d a : Nat) (post : List UInt8), x.dp ≤ k → d + x.dp ≤ 64 → b.data.toList.drop a = x.fmt ++ post → Nd post → elemV b k a d = .ok (x, a + x.fmt.length)
  | .mk p c l, hr, k, d, a, post, hk, hd, h, hn => by
    simp only [El.right] at hr
    obtain ⟨hp, hcb, hrl⟩ := hr
    rw [El.dp_mk] at hk hd
    obtain ⟨k, rfl⟩ : ∃ k', k = k' + 1 := ⟨k - 1, by omega⟩
    obtain ⟨u, rfl, hu, hit⟩ := itoa_rng hp
    cases c with
    | false =>
      have hl := hcb rfl
      subst hl
      have hf : (El.mk (u : Int) false []).fmt = Lib.decDigits u := by rw [El.fmt_mk, if_neg (by simp), hit]
      rw [hf] at h ⊢
      obtain ⟨ch, r, hc, h1, h2, -⟩ := dec_first u
      have his : isV b a 40 = false := by
        rw [isV_cons (c := ch) (r := r ++ post) (by rw [h, hc]; rfl)]
        simp
        omega
      rw [elemV, if_pos his, num_ok hu h hn]
    | true =>
      rw [El.fmt_true, hit] at h ⊢
      rw [List.cons_append] at h
      have his : isV b a 40 = true := by rw [isV_cons h]; rfl
      obtain ⟨ha, -, h1⟩ := at_cons h
      rw [List.append_assoc, List.append_assoc] at h1
      have hnum := num_ok hu h1 (nd_tail l (nd_of (by decide)))
      have h2 := at_app h1
      have hlp := loop_read l hrl k (d + 1) (b.size + 1) (a + 1 + (Lib.decDigits u).length) ([41] ++ post) [] (by omega) (by omega) (by
        have h3 := tail_len (fmtsL l)
        rw [fmtsL_map, List.length_map] at h3
        have h4 := congrArg List.length h2
        rw [List.length_drop, List.length_append] at h4
        have h5 : b.data.toList.length = b.size := rfl
        rw [fmtsL_map] at h4
        omega) h2 (nd_of (by decide)) (fun c r e => by cases e; decide)
      have h6 := at_app h2
      have his2 : isV b (a + 1 + (Lib.decDigits u).length + (Lib.joinTail [32] (fmtsL l)).length) 41 = true := by rw [isV_cons h6]; rfl
      rw [elemV, if_neg (by rw [his]; simp), if_neg (by omega), hnum]
      simp only
      rw [hlp]
      simp only [List.nil_append]
      rw [if_pos his2]
      simp
      omega
theorem loop_read : ∀ (l : List El), rightL l → ∀ (k d j a : Nat) (post : List UInt8) (acc : List El), dpL l ≤ k → d + dpL l ≤ 64 → l.length < j → b.data.toList.drop a = Lib.joinTail [32] (fmtsL l) ++ post → Nd post → (∀ c r, post = c :: r → c ≠ 32) →
    loopV (fun q => elemV b k q d) b j a acc = .ok (acc ++ l, a + (Lib.joinTail [32] (fmtsL l)).length)
  | [], _, k, d, j, a, post, acc, _, _, hj, h, hn, hs => by
    obtain ⟨j, rfl⟩ : ∃ j', j = j' + 1 := ⟨j - 1, by omega⟩
    have h' : b.data.toList.drop a = post := by simpa [fmtsL, tail_nil] using h
    have his : isV b a 32 = false := by
      cases post with
      | nil => exact isV_end (at_nil h')
      | cons c r =>
        rw [isV_cons h']
        have := hs c r rfl
        have h1 : c.toNat ≠ 32 := fun e => this (UInt8.toNat_inj.1 e)
        simp
        omega
    rw [loopV, if_neg (by rw [his]; simp)]
    simp [fmtsL, tail_nil]
  | x :: l, hr, k, d, j, a, post, acc, hk, hd, hj, h, hn, hs => by
    obtain ⟨j, rfl⟩ : ∃ j', j = j' + 1 := ⟨j - 1, by omega⟩
    simp only [rightL] at hr
    rw [dpL_cons] at hk hd
    rw [show fmtsL (x :: l) = x.fmt :: fmtsL l by simp [fmtsL], tail_cons] at h ⊢
    rw [List.cons_append, List.cons_append] at h
    have his : isV b a 32 = true := by rw [isV_cons h]; rfl
    obtain ⟨ha, -, h1⟩ := at_cons h
    rw [List.append_assoc] at h1
    have he := elem_read x hr.1 k d (a + 1) _ (by omega) (by omega) h1 (nd_tail l hn)
    have h2 := at_app h1
    have hl := loop_read l hr.2 k d j (a + 1 + x.fmt.length) post (acc ++ [x]) (by omega) (by omega) (by simp at hj; omega) h2 hn hs
    rw [loopV, if_pos his, he]
    simp only
    rw [hl]
    simp
    omega
end
theorem parse_tail (K : Nat) : ∀ (l : List El), rightL l → ∀ (j a : Nat) (acc : List El), dpL l ≤ K → dpL l ≤ 64 → l.length < j → 0 < a → b.data.toList.drop a = Lib.joinTail [32] (fmtsL l) → parseL b K j a acc = .ok (acc ++ l)
  | [], _, j, a, acc, _, _, hj, _, h => by
    obtain ⟨j, rfl⟩ : ∃ j', j = j' + 1 := ⟨j - 1, by omega⟩
    have h' : b.data.toList.drop a = [] := by simpa [fmtsL, tail_nil] using h
    rw [parseL, if_neg (at_nil h')]
    simp
  | x :: l, hr, j, a, acc, hk, hd, hj, ha0, h => by
    obtain ⟨j, rfl⟩ : ∃ j', j = j' + 1 := ⟨j - 1, by omega⟩
    simp only [rightL] at hr
    rw [dpL_cons] at hk hd
    rw [show fmtsL (x :: l) = x.fmt :: fmtsL l by simp [fmtsL], tail_cons] at h
    have his : isV b a 32 = true := by rw [isV_cons h]; rfl
    obtain ⟨ha, -, h1⟩ := at_cons h
    have hnd : Nd (Lib.joinTail [32] (fmtsL l)) := by simpa using nd_tail l (post := []) (fun c r e => by cases e)
    have he := elem_read x hr.1 K 0 (a + 1) _ (by omega) (by omega) h1 hnd
    have h2 := at_app h1
    have hl := parse_tail K l hr.2 j (a + 1 + x.fmt.length) (acc ++ [x]) (by omega) (by omega) (by simp at hj; omega) (by omega) h2
    rw [parseL, if_pos ha, if_pos (.inr his), if_neg (by omega), he]
    simp only
    rw [hl]
    simp
/-- The text of right elements has these elements. -/
theorem parse_fmt {l : List El} (hr : rightL l) (hd : dpL l ≤ 64) (hb : b = ⟨(fmtL l).toArray⟩) : parseL b 64 (b.size + 1) 0 [] = .ok l := by
  have ht : b.data.toList = fmtL l := by rw [hb]
  have hsz : b.size = (fmtL l).length := by rw [hb]; rfl
  cases l with
  | nil =>
    have h0 : ¬ 0 < b.size := by rw [hsz]; simp [fmtL, fmtsL, Lib.join_nil]
    rw [parseL, if_neg h0]
  | cons x l =>
    simp only [rightL] at hr
    rw [dpL_cons] at hd
    have hj : fmtL (x :: l) = x.fmt ++ Lib.joinTail [32] (fmtsL l) := by
      unfold fmtL
      rw [show fmtsL (x :: l) = x.fmt :: fmtsL l by simp [fmtsL], Lib.join_cons]
    have h : b.data.toList.drop 0 = x.fmt ++ Lib.joinTail [32] (fmtsL l) := by rw [List.drop_zero, ht, hj]
    have hnd : Nd (Lib.joinTail [32] (fmtsL l)) := by simpa using nd_tail l (post := []) (fun c r e => by cases e)
    have he := elem_read x hr.1 64 0 0 _ (by omega) (by omega) h hnd
    have hpos : 0 < x.fmt.length := by
      obtain ⟨p, c, r⟩ := x
      cases c with
      | true => rw [El.fmt_true]; simp
      | false =>
        simp only [El.right] at hr
        obtain ⟨u, rfl, -, hit⟩ := itoa_rng hr.1.1
        obtain ⟨c, r', hc, -⟩ := dec_first u
        rw [El.fmt_mk, if_neg (by simp), hit, hc]
        simp
    have hl := at_len h hpos
    have htl := tail_len (fmtsL l)
    rw [fmtsL_map, List.length_map] at htl
    rw [fmtsL_map] at hl
    have h2 := at_app h
    have hp := parse_tail 64 l hr.2 b.size (0 + x.fmt.length) ([] ++ [x]) (by omega) (by omega) (by omega) (by omega) h2
    rw [parseL, if_pos (by omega), if_pos (.inl rfl), if_pos rfl, he]
    simp only
    rw [hp]
    simp
end
end Go.Proofs.YthaampinmelgaaaDoor

/-! The law WtoReturns, walked. -/
namespace Go.Proofs.YthaampinmelgaaaDoor
open Go.RowKit Go.Shelf

set_option maxRecDepth 100000 in
set_option maxHeartbeats 4000000 in
theorem deep_any {P : Nat → Prop} {w : World} {v : Value} {l : List El} (h : Els P w v l) : ∀ W : World, (∀ p : Addr, P p.block → W.cell? p = w.cell? p) → (∀ b, P b → b < W.heap.size) → (ptsL l).length ≤ 1000000 →
    Calls Tryd.prog 22 #[v] W fun en W' => en = .returned (.int .i64 (dpL l : Nat)) ∧ Below W.heap.size W W' := by
  induction h with
  | mk A c l us hlc hm hz hc hr ih =>
    intro W hW hPW hlen
    have HC := Lib.hid hc
    have HIH := Lib.hid ih
    have HR := Lib.hid hr
    have HW := Lib.hid hW
    have HPW := Lib.hid hPW
    have HLEN := Lib.hid hlen
    have hl63 : l.length ≤ 9223372036854775807 := by unfold maxLen at hm; omega
    clear hc hr ih hW hPW hm hlen
    go_enter Tryd.func22, Tryd.ntmps22
    go_wp2
    go_loopw [3, 8] (fun x y wr => ∃ (m : Nat), m ≤ l.length ∧ .int .i64 ((dpL (l.take m) : Nat) : Int) = x ∧ y = .int .i64 m ∧ Below W.heap.size W wr) (fun _ y _ => l.length - (intOf y).toNat)
    case atStart => exact ⟨0, Nat.zero_le _, by rw [List.take_zero, dpL_nil]; rfl, rfl, Below.refl _ _⟩
    case round =>
      obtain ⟨m, hm, rfl, rfl, hbw⟩ := hrel
      by_cases hlt : m < l.length
      · obtain ⟨x, hx⟩ : ∃ x, l[m]? = some x := ⟨_, List.getElem?_eq_getElem hlt⟩
        obtain ⟨ad, hA, hPad, e0, e1, e2, hI⟩ := HC.out m x hx
        subst hA
        have hk : ∀ i, wr.cell? (ad.add i) = w.cell? (ad.add i) := fun i => (hbw.cell (by rw [block_add]; exact HPW.out _ hPad)).trans (HW.out _ (by rw [block_add]; exact hPad))
        have c0 := (hk (m * 3)).trans e0
        have c1 := (hk (m * 3 + 1)).trans e1
        have c2 := (hk (m * 3 + 2)).trans e2
        rw [← add_add', addrOne] at c1
        rw [← add_add', addrTwo] at c2
        have hih := HIH.out m x hx
        have htk : l.take (m + 1) = l.take m ++ [x] := by rw [List.take_add_one, hx]; rfl
        have hbl := pts_body_le hx
        have hll := HLEN.out
        have hd1 := dpL_le (l.take m)
        have hd2 := dpL_le x.body
        have hdp : dpL (l.take (m + 1)) = max (dpL (l.take m)) (dpL x.body + 1) := by
          rw [htk, dpL_append, dpL_cons, dpL_nil]
          obtain ⟨p, c, b⟩ := x
          rw [El.dp_mk]
          simp [El.body]
        obtain ⟨Au, cu, hu, -⟩ := (HR.out m x hx).shape
        rw [hu] at c2 hih
        clear hu htk
        obtain ⟨p, cc, body⟩ := x
        simp only [El.p, El.c, El.body] at c0 c1 c2 hih hbl hd2 hdp
        have hlb : (ptsL body).length ≤ 1000000 := by omega
        have hdb : dpL body ≤ 1000000 := by omega
        have hdt : dpL (l.take m) ≤ 1000000 := by omega
        clear hd1 hd2 hbl
        revert hdp hdt
        generalize dpL (l.take m) = dt
        intro hdp hdt
        have HDP := Lib.hid hdp
        have hlt1 : (m : Int) < (l.length : Int) := by omega
        have HI := Lib.hid hih
        have HB := Lib.hid hbw
        have hbk : Blk (wr.alloc (.cells #[.int .i64 p, .bool cc, .slice Au body.length cu] 81)) wr.heap.size 81 [.int .i64 p, .bool cc, .slice Au body.length cu] := Blk.newAt wr 81 #[.int .i64 p, .bool cc, .slice Au body.length cu] rfl
        have hba := hbw.alloc hbw.size (.cells #[.int .i64 p, .bool cc, .slice Au body.length cu] 81)
        have k2 := hbk.cellAt (i := 2) rfl
        have HBA := Lib.hid hba
        clear hih hbw e0 e1 e2 hk hx hPad hI hba hdp
        go_upto_region 5 with fail
        clear c0 c1 c2 hbk
        revert k2 HBA
        generalize wr.alloc (.cells #[.int .i64 p, .bool cc, .slice Au body.length cu] 81) = wz
        generalize wr.heap.size = xb
        intro k2 HBA
        have hcall := HI.out wz (fun q hq => (HBA.out.cell (HPW.out _ hq)).trans (HW.out q hq)) (fun b hb => by have := HPW.out b hb; have := HBA.out.size; omega) hlb
        generalize dpL body = db at *
        have HCA := Lib.hid hcall
        have hmx : max (dt : Int) ((db : Int) + 1) = ((max dt (db + 1) : Nat) : Int) := by omega
        clear hcall
        go_wp2_with (go_at_call 22; refine HCA.out.mono ?_; rintro en w5 ⟨rfl, hb5⟩)
        go_roundw
        case rel => exact ⟨m + 1, by omega, by rw [HDP.out], by go_num, HBA.out.trans (hb5.mono HBA.out.size)⟩
        case measure => simp [intOf]; omega
      · obtain rfl : m = l.length := by omega
        rw [List.take_length]
        go_wp2
        go_ret
        exact ⟨rfl, hbw⟩
set_option maxRecDepth 100000 in
set_option maxHeartbeats 4000000 in
theorem plain_any {P : Nat → Prop} {w : World} {v : Value} {l : List El} (h : Els P w v l) : ∀ W : World, (∀ p : Addr, P p.block → W.cell? p = w.cell? p) → (∀ b, P b → b < W.heap.size) →
    Calls Tryd.prog 21 #[v] W fun en W' => ∃ vo, en = .returned vo ∧ Els (fun b => W.heap.size ≤ b ∧ Typed W' b 81) W' vo (plainL l) ∧ Below W.heap.size W W' := by
  induction h with
  | mk A c l us hlc hm hz hc hr ih =>
    intro W hW hPW
    have HC := Lib.hid hc
    have HIH := Lib.hid ih
    have HR := Lib.hid hr
    have HW := Lib.hid hW
    have HPW := Lib.hid hPW
    have hl63 : l.length ≤ 9223372036854775807 := by unfold maxLen at hm; omega
    clear hc hr ih hW hPW hm
    go_enter Tryd.func21, Tryd.ntmps21
    go_wp2
    go_loopw [3, 8] (fun x y wr => ∃ (m : Nat) (vo : Value) (Q : Nat → Prop) (bs : List Value), m ≤ l.length ∧ vo = x ∧ y = .int .i64 m ∧ EO 81 W.heap.size Q wr vo (plainL (l.take m)) bs ∧ Below W.heap.size W wr) (fun _ y _ => l.length - (intOf y).toNat)
    case atStart => exact ⟨0, _, _, [], Nat.zero_le _, rfl, rfl, by rw [List.take_zero]; simp only [plainL]; exact EO.nil _ _ _, Below.refl _ _⟩
    case round =>
      obtain ⟨m, vo, Q, bs, hm, rfl, rfl, heo, hbw⟩ := hrel
      by_cases hlt : m < l.length
      · obtain ⟨x, hx⟩ : ∃ x, l[m]? = some x := ⟨_, List.getElem?_eq_getElem hlt⟩
        obtain ⟨ad, hA, hPad, e0, e1, e2, hI⟩ := HC.out m x hx
        subst hA
        have hk : ∀ i, wr.cell? (ad.add i) = w.cell? (ad.add i) := fun i => (hbw.cell (by rw [block_add]; exact HPW.out _ hPad)).trans (HW.out _ (by rw [block_add]; exact hPad))
        have c0 := (hk (m * 3)).trans e0
        have c1 := (hk (m * 3 + 1)).trans e1
        have c2 := (hk (m * 3 + 2)).trans e2
        rw [← add_add', addrOne] at c1
        rw [← add_add', addrTwo] at c2
        have hih := HIH.out m x hx
        have htk : plainL (l.take (m + 1)) = plainL (l.take m) ++ [x.plain] := by rw [plainL_map, plainL_map, List.take_add_one, hx]; simp
        obtain ⟨Au, cu, hu, -⟩ := (HR.out m x hx).shape
        rw [hu] at c2 hih
        clear hu
        obtain ⟨p, cc, body⟩ := x
        simp only [El.p, El.c, El.body] at c0 c1 c2 hih hI
        rw [El.plain_mk] at htk
        have hlm : (plainL (l.take m)).length = m := by rw [plainL_map, List.length_map, List.length_take]; omega
        revert heo htk hlm
        generalize plainL (l.take m) = pl
        intro heo htk hlm
        have HI := Lib.hid hih
        have HE := Lib.hid heo
        have HB := Lib.hid hbw
        have HTK := Lib.hid htk
        have HLM := Lib.hid hlm
        have hlt1 : (m : Int) < (l.length : Int) := by omega
        have hmm : ∃ pn : Int, min (max p 0) 1048576 = pn ∧ InI64 pn := ⟨_, rfl, by unfold InI64; omega⟩
        obtain ⟨pn, hpn, hpi⟩ := hmm
        rw [hpn] at HTK
        have HPI := Lib.hid hpi
        clear hih heo hbw e0 e1 e2 hk htk hx hPad hI hlm hpi
        go_upto_region 6 with fail
        have hea := HE.out.alloc (.cells #[.int .i64 pn, .bool cc, .slice Au body.length cu] 81)
        have hba := HB.out.alloc HB.out.size (.cells #[.int .i64 pn, .bool cc, .slice Au body.length cu] 81)
        have hbk : Blk (wr.alloc (.cells #[.int .i64 pn, .bool cc, .slice Au body.length cu] 81)) wr.heap.size 81 [.int .i64 pn, .bool cc, .slice Au body.length cu] := Blk.newAt wr 81 #[.int .i64 pn, .bool cc, .slice Au body.length cu] rfl
        have hsz : (wr.alloc (.cells #[.int .i64 pn, .bool cc, .slice Au body.length cu] 81)).heap.size = wr.heap.size + 1 := World.size_alloc _ _
        have hvo : ∀ b, vo.ownBlock = some b → ¬ b = wr.heap.size := fun b hb e => by have := (HE.out.own.lt b hb).2; omega
        have hQ : ∀ b, Q b → ¬ b = wr.heap.size := fun b hb e => by have := (HE.out.apart b hb).2.1.lt; omega
        have hgW := HB.out.size
        have HVO := Lib.hid hvo
        have HE6L : Hid (∀ b, vo.ownBlock = some b → b < wr.heap.size) := Lib.hid (fun b hb => (HE.out.own.lt b hb).2)
        have HQ := Lib.hid hQ
        have HSZ := Lib.hid hsz
        have hcall := HI.out _ (fun q hq => (hba.cell (HPW.out _ hq)).trans (HW.out q hq)) (fun b hb => by have := HPW.out b hb; have := hba.size; omega)
        have HCALL := Lib.hid hcall
        have HEA := Lib.hid hea
        have HBA := Lib.hid hba
        have k2 := hbk.cellAt (i := 2) rfl
        have HBK := Lib.hid hbk
        clear hea hba hbk hsz hvo hQ hcall c0 c1 c2 HE HB HI
        revert HCALL HEA HBA k2 HBK HSZ HVO HE6L HQ hgW
        generalize wr.alloc (.cells #[.int .i64 pn, .bool cc, .slice Au body.length cu] 81) = wa
        generalize wr.heap.size = g
        intro hgW HVO HE6L HQ HSZ HCALL HEA HBA k2 HBK
        go_upto_region 7 with (go_at_call 21; refine HCALL.out.mono ?_; rintro en w5 ⟨v5, rfl, hels5, hb5⟩; have hbk5 : Blk w5 g 81 [.int .i64 pn, .bool cc, .slice Au body.length cu] := HBK.out.same (hb5.block _ (by rw [HSZ.out]; omega)); have f5 := hbk5.frozen 2; have g5 := hbk5.cellAt (i := 2) rfl; obtain ⟨A5, c5, rfl, -⟩ := id hels5.shape)
        obtain ⟨v5, hv5⟩ : ∃ v5, v5 = Value.slice A5 (plainL body).length c5 := ⟨_, rfl⟩
        rw [← hv5] at hels5 ⊢
        have hbk6 : Blk (w5.setCell ⟨g, 2, none⟩ v5) g 81 [.int .i64 pn, .bool cc, v5] := by simpa using hbk5.set 2 v5
        have ho6 : Only (fun b => b = g) w5 (w5.setCell ⟨g, 2, none⟩ v5) := (Only.refl (fun b => b = g) w5).set (p := ⟨g, 2, none⟩) (fun _ => rfl) v5
        have hu6 := (hels5.only ho6 (fun b hb => ⟨hb.2.lt, fun e => by have := hb.1; rw [HSZ.out] at this; omega⟩)).mono (Q := fun b => g + 1 ≤ b ∧ Typed (w5.setCell ⟨g, 2, none⟩ v5) b 81) (fun b hb => ⟨by have := hb.1; rw [HSZ.out] at this; omega, hb.2.only ho6 (fun e => by have := hb.1; rw [HSZ.out] at this; omega)⟩)
        have he6 := (HEA.out.only (Only.of_below hb5 (fun b h1 h2 => by omega)) (fun _ _ f => f) (fun _ _ f => f)).only ho6 (fun b hb => HVO.out b hb) (fun b hb => HQ.out b hb)
        have hb6 := (HBA.out.trans (hb5.mono HBA.out.size)).setCell (p := ⟨g, 2, none⟩) hgW v5
        have HU6 := Lib.hid hu6
        have HE6 := Lib.hid he6
        have HB6 := Lib.hid hb6
        have HBK6 := Lib.hid hbk6
        have hsz6 : g + 1 ≤ (w5.setCell ⟨g, 2, none⟩ v5).heap.size := by have := hb5.size; rw [HSZ.out] at this; simpa [World.setCell] using this
        have k1 := hbk6.cellAt (i := 1) rfl
        have f6 := hbk6.frozen 2
        have k0 := hbk6.cellAt (i := 0) rfl
        have k2' := hbk6.cellAt (i := 2) rfl
        subst hv5
        clear hels5 hb5 hbk5 f5 g5 hu6 he6 hb6 hbk6 ho6 k2 HCALL HEA HBA HBK
        revert HU6 HE6 HB6 HBK6 hsz6 k1 f6 k0 k2'
        generalize w5.setCell ⟨g, 2, none⟩ (.slice A5 (plainL body).length c5) = w6
        intro HU6 HE6 HB6 HBK6 hsz6 k1 f6 k0 k2
        obtain ⟨il, hil, hl0, hl1, hl2⟩ := info_parts info_el
        cases cc with
        | true =>
          have HTKY : Hid (plainL (l.take (m + 1)) = pl ++ [El.mk pn true (plainL body)]) := Lib.hid (by have := HTK.out; simpa using this)
          clear HTK
          go_upto_region 9 with fail
          have HEY := HE6
          have HBY := HB6
          have HUY := HU6
          have he5 := HEY.out.alloc (.cells #[.int .i64 pn, .bool true, (.slice A5 (plainL body).length c5)] 81)
          have hlm' : pl.length = m := HLM.out
          have hown := he5.own
          rw [hlm'] at hown
          have hnb := Blk.newAt w6 81 #[.int .i64 pn, .bool true, (.slice A5 (plainL body).length c5)] rfl
          have hbt : Below W.heap.size W ((w6).alloc (.cells #[.int .i64 pn, .bool true, (.slice A5 (plainL body).length c5)] 81)) := HBY.out.alloc HBY.out.size _
          have hWs : W.heap.size ≤ ((w6).alloc (.cells #[.int .i64 pn, .bool true, (.slice A5 (plainL body).length c5)] 81)).heap.size := hbt.size
          have hu5 := (HUY.out.only ((Only.refl (fun _ => False) (w6)).alloc (.cells #[.int .i64 pn, .bool true, (.slice A5 (plainL body).length c5)] 81)) (fun b hb => ⟨hb.2.lt, fun f => f⟩)).mono (Q := fun b => g + 1 ≤ b ∧ Typed ((w6).alloc (.cells #[.int .i64 pn, .bool true, (.slice A5 (plainL body).length c5)] 81)) b 81) (fun b hb => ⟨hb.1, hb.2.only ((Only.refl (fun _ => False) (w6)).alloc _) (fun f => f)⟩)
          have HU5 := Lib.hid hu5
          have HE5 := Lib.hid he5
          have HBT := Lib.hid hbt
          have hlp : (El.mk pn true (plainL body)).body = (plainL body) := rfl
          clear he5 hu5 hbt
          go_wp2_with (at_builtin; (refine wpList_append_lies _ rfl (.tmp 25) (.tmp 27) 27 rfl W.heap.size 81 il (.agg #[.int .i64 0, .bool false, .slice none 0 0]) 3 40 Tryd.underlying27 hil hl0 hl1 hl2 rfl (by decide) vo m (elCells pl bs) rfl hown ⟨(w6).heap.size, 0, none⟩ 1 1 [.int .i64 pn, .bool true, (.slice A5 (plainL body).length c5)] rfl rfl (fun j u' hj => by rw [add_none]; exact hnb.cellAt hj) ?c2 (by decide) ?c3 ?c4 hWs _ rfl ?_))
          case c2 => first | exact ⟨rfl, rfl, rfl⟩ | (intro u' hu; simp at hu; rcases hu with rfl | rfl | rfl <;> rfl)
          case c3 => unfold maxLen; omega
          case c4 => omega
          intro g7 cg w7 hown7 hgr7 hat7 _
          have hput := HE5.out.put (Q := fun b => g + 1 ≤ b ∧ Typed ((w6).alloc (.cells #[.int .i64 pn, .bool true, (.slice A5 (plainL body).length c5)] 81)) b 81) (u := (.slice A5 (plainL body).length c5)) (x := El.mk pn true (plainL body)) (pre := pl) (post := []) (ups := bs) (uqs := []) (v' := .slice (some ⟨g7, 0, none⟩) (m + 1) cg) (by simp) (by simp) HE5.out.len HU5.out
            (fun b hb => ⟨by have := hb.1; omega, hb.2, fun h => by have h1 := (HE6L.out b h); have := hb.1; omega⟩) HPI.out hgr7 (by rw [hlm', elCells_append _ _ _ _ HE5.out.len]; simpa [elCells, El.p, El.c] using hown7) (by
              rcases hat7 with h | h
              · exact .inl (by rw [h]; rfl)
              · exact .inr ⟨g7, rfl, by first | exact Nat.le_of_eq h.symm | (rw [h]; simp) | (rw [h])⟩)
          rw [← HTKY.out] at hput
          have hbe := HBT.out.grown hgr7 hWs (fun k hk => (HE5.out.own.lt k hk).1)
          have HPUT := Lib.hid hput
          have HBE := Lib.hid hbe
          clear hput hbe hown hown7 hgr7 hat7 hnb hWs
          go_wp2
          go_roundw
          case rel => exact ⟨m + 1, _, _, _, by omega, rfl, by go_num, HPUT.out, HBE.out⟩
          case measure => simp [intOf]; omega
        | false =>
          have HTKY : Hid (plainL (l.take (m + 1)) = pl ++ [El.mk pn false []]) := Lib.hid (by have := HTK.out; simpa using this)
          clear HTK
          have hbk7 : Blk (w6.setCell ⟨g, 2, none⟩ (.slice none 0 0)) g 81 [.int .i64 pn, .bool false, .slice none 0 0] := by simpa using HBK6.out.set 2 (.slice none 0 0)
          have ho7 : Only (fun b => b = g) w6 (w6.setCell ⟨g, 2, none⟩ (.slice none 0 0)) := (Only.refl (fun b => b = g) w6).set (p := ⟨g, 2, none⟩) (fun _ => rfl) _
          have he7 := HE6.out.only ho7 (fun b hb => HVO.out b hb) (fun b hb => HQ.out b hb)
          have hb7 := HB6.out.setCell (p := ⟨g, 2, none⟩) hgW (.slice none 0 0)
          have HEY := Lib.hid he7
          have HBY := Lib.hid hb7
          have HUY : Hid (Els (fun b => g + 1 ≤ b ∧ Typed (w6.setCell ⟨g, 2, none⟩ (.slice none 0 0)) b 81) (w6.setCell ⟨g, 2, none⟩ (.slice none 0 0)) (.slice none 0 0) []) := Lib.hid Els.nil
          have hsz7 : g + 1 ≤ (w6.setCell ⟨g, 2, none⟩ (.slice none 0 0)).heap.size := by simpa [World.setCell] using hsz6
          have HBK7 := Lib.hid hbk7
          have k0' := hbk7.cellAt (i := 0) rfl
          have k1' := hbk7.cellAt (i := 1) rfl
          have k2' := hbk7.cellAt (i := 2) rfl
          clear he7 hb7 ho7 hbk7 HE6 HB6 HU6
          go_upto_region 9 with fail
          clear k0 k1 k2
          revert HEY HBY HUY k0' k1' k2' hsz7 HBK7
          generalize w6.setCell ⟨g, 2, none⟩ (.slice none 0 0) = wy
          intro HEY HBY HUY hsz7 HBK7 k0 k1 k2
          have he5 := HEY.out.alloc (.cells #[.int .i64 pn, .bool false, (.slice none 0 0)] 81)
          have hlm' : pl.length = m := HLM.out
          have hown := he5.own
          rw [hlm'] at hown
          have hnb := Blk.newAt wy 81 #[.int .i64 pn, .bool false, (.slice none 0 0)] rfl
          have hbt : Below W.heap.size W ((wy).alloc (.cells #[.int .i64 pn, .bool false, (.slice none 0 0)] 81)) := HBY.out.alloc HBY.out.size _
          have hWs : W.heap.size ≤ ((wy).alloc (.cells #[.int .i64 pn, .bool false, (.slice none 0 0)] 81)).heap.size := hbt.size
          have hu5 := (HUY.out.only ((Only.refl (fun _ => False) (wy)).alloc (.cells #[.int .i64 pn, .bool false, (.slice none 0 0)] 81)) (fun b hb => ⟨hb.2.lt, fun f => f⟩)).mono (Q := fun b => g + 1 ≤ b ∧ Typed ((wy).alloc (.cells #[.int .i64 pn, .bool false, (.slice none 0 0)] 81)) b 81) (fun b hb => ⟨hb.1, hb.2.only ((Only.refl (fun _ => False) (wy)).alloc _) (fun f => f)⟩)
          have HU5 := Lib.hid hu5
          have HE5 := Lib.hid he5
          have HBT := Lib.hid hbt
          have hlp : (El.mk pn false ([] : List El)).body = ([] : List El) := rfl
          clear he5 hu5 hbt
          go_wp2_with (at_builtin; (refine wpList_append_lies _ rfl (.tmp 25) (.tmp 27) 27 rfl W.heap.size 81 il (.agg #[.int .i64 0, .bool false, .slice none 0 0]) 3 40 Tryd.underlying27 hil hl0 hl1 hl2 rfl (by decide) vo m (elCells pl bs) rfl hown ⟨(wy).heap.size, 0, none⟩ 1 1 [.int .i64 pn, .bool false, (.slice none 0 0)] rfl rfl (fun j u' hj => by rw [add_none]; exact hnb.cellAt hj) ?c2 (by decide) ?c3 ?c4 hWs _ rfl ?_))
          case c2 => first | exact ⟨rfl, rfl, rfl⟩ | (intro u' hu; simp at hu; rcases hu with rfl | rfl | rfl <;> rfl)
          case c3 => unfold maxLen; omega
          case c4 => omega
          intro g7 cg w7 hown7 hgr7 hat7 _
          have hput := HE5.out.put (Q := fun b => g + 1 ≤ b ∧ Typed ((wy).alloc (.cells #[.int .i64 pn, .bool false, (.slice none 0 0)] 81)) b 81) (u := (.slice none 0 0)) (x := El.mk pn false ([] : List El)) (pre := pl) (post := []) (ups := bs) (uqs := []) (v' := .slice (some ⟨g7, 0, none⟩) (m + 1) cg) (by simp) (by simp) HE5.out.len HU5.out
            (fun b hb => ⟨by have := hb.1; omega, hb.2, fun h => by have h1 := (HE6L.out b h); have := hb.1; omega⟩) HPI.out hgr7 (by rw [hlm', elCells_append _ _ _ _ HE5.out.len]; simpa [elCells, El.p, El.c] using hown7) (by
              rcases hat7 with h | h
              · exact .inl (by rw [h]; rfl)
              · exact .inr ⟨g7, rfl, by first | exact Nat.le_of_eq h.symm | (rw [h]; simp) | (rw [h])⟩)
          rw [← HTKY.out] at hput
          have hbe := HBT.out.grown hgr7 hWs (fun k hk => (HE5.out.own.lt k hk).1)
          have HPUT := Lib.hid hput
          have HBE := Lib.hid hbe
          clear hput hbe hown hown7 hgr7 hat7 hnb hWs
          go_wp2
          go_roundw
          case rel => exact ⟨m + 1, _, _, _, by omega, rfl, by go_num, HPUT.out, HBE.out⟩
          case measure => simp [intOf]; omega
      · obtain rfl : m = l.length := by omega
        rw [List.take_length] at heo
        have hels := (heo.els (by rw [plainL_map, List.length_map]; exact hz))
        go_wp2
        go_ret
        exact ⟨_, rfl, hels, hbw⟩

set_option maxRecDepth 100000 in
set_option maxHeartbeats 4000000 in
theorem returnsL_any (w : World) (v : Value) (l : List El) (h : EL w v l) (htab : Lib.TabIs Tryd.prog w "internal/strconv.uint64pow10" .u64 Lib.pow10Tab) :
    Calls Tryd.prog 6 #[v] w fun en w' => en = .returned (.bool true) ∧ Below w.heap.size w w' := by
  have hfew := few_el h (fun _ h => h)
  by_cases hp : (ptsL l).length ≤ 60
  · rw [decide_eq_true hp] at hfew
    have HF := Lib.hid hfew
    have hpp := plainL_pts l
    have hrt := plainL_right l
    have hi64 : ∀ p ∈ ptsL (plainL l), InI64 p := fun p hp => by
      have := rightL_rng _ hrt p hp
      unfold Rng at this
      unfold InI64
      omega
    have hdp := dpL_le (plainL l)
    have hlen := fmtL_len (plainL l) hi64
    have hpar : ∀ W : World, Calls Tryd.prog 19 #[strV (fmtL (plainL l))] W fun en w' => ∃ v, en = .returned (.tuple #[v, .int .i64 0, .int .i64 0]) ∧ EL w' v (plainL l) ∧ Below W.heap.size W w' := fun W => by
      have hsz : (⟨(fmtL (plainL l)).toArray⟩ : ByteArray).size = (fmtL (plainL l)).length := rfl
      refine (parse_ok (b := ⟨(fmtL (plainL l)).toArray⟩) (by rw [hsz]; omega) 64 W (plainL l) (parse_fmt hrt (by omega) rfl)).mono ?_
      rintro en w' ⟨vo, rfl, h1, h2⟩
      exact ⟨vo, rfl, h1.mono (fun b hb => hb.2.lt), h2⟩
    have hpl := fun (W : World) (hs : EL W v l) => plain_any hs W (fun _ _ => rfl) (fun _ h => h)
    revert hi64 hdp hlen hpar hpl hpp
    clear hrt
    generalize plainL l = pl
    intro hpp hi64 hdp hlen hpar hpl
    have hfl : (fmtL pl).length ≤ 1000000000 := by omega
    have hp6 : (ptsL pl).length ≤ 1000000 := by omega
    have hnum := itoa_all htab
    have hform := fun (W : World) (u : Value) (hs : EL W u pl) (hb : Below w.heap.size w W) => format_any hnum hs W (fun _ _ => rfl) (fun _ h => h) hb hb.size hi64 hfl
    have hd1 : decide ((64 : Int) < ((dpL pl : Nat) : Int)) = false := by rw [decide_eq_false_iff_not]; omega
    have hd2 : decide (64 < dpL pl) = false := by rw [decide_eq_false_iff_not]; omega
    have HFO := Lib.hid hform
    have HP := Lib.hid hp6
    have HPAR := Lib.hid hpar
    have HPL := Lib.hid hpl
    have H0 := Lib.hid h
    clear hfew hp hfl hp6 hnum hform htab h hpp hi64 hdp hlen hpar hpl
    go_enter Tryd.func6, Tryd.ntmps6
    go_upto_region 6 with (first
      | (go_at_call 16; refine HF.out.mono ?_; rintro en w1 ⟨rfl, hw1⟩; have he1 := H0.out.step hw1)
      | (go_at_call 21; refine (HPL.out w1 he1).mono ?_; rintro en w2 ⟨vp, rfl, hvp, hw2⟩; have he2 : EL w2 vp pl := hvp.mono (fun b hb => hb.2.lt); have hb2 := hw1.trans (hw2.mono hw1.size))
      | (go_at_call 22; refine (deep_any he2 w2 (fun _ _ => rfl) (fun _ h => h) HP.out).mono ?_; rintro en w3 ⟨rfl, hw3⟩; have he3 := he2.step hw3; have hb3 := hb2.trans (hw3.mono hb2.size)))
    clear he1 hw1 hvp hw2 he2 hb2 hw3 hd1 hd2
    go_upto_region 7 with (first
      | (go_at_call 23; refine (HFO.out w3 vp he3 hb3).mono ?_; rintro en w4 ⟨rfl, hw4⟩; have he4 := he3.step hw4; have hb4 := hb3.trans (hw4.mono hb3.size))
      | (go_at_call 19; refine (HPAR.out w4).mono ?_; rintro en w5 ⟨vm, rfl, hvm, hw5⟩; have he5 := he4.step hw5; have hb5 := hb4.trans (hw5.mono hb4.size)))
    have he5e : Els (fun b => b < w5.heap.size) w5 vp pl := he5
    clear he3 hb3 hw4 he4 hb4 hw5 HFO HPAR HPL
    go_wp2_with (first
      | (go_at_call 15; (with_reducible refine (of_any he5e w5 (fun _ _ => rfl) (fun _ h => h)).mono ?_); rintro en w6 ⟨v1, rfl, hv1, hw6⟩; have hm6 : Els (fun b => b < w6.heap.size) w6 vm pl := EL.step hvm hw6; have hb6 := hb5.trans (hw6.mono hb5.size))
      | (go_at_call 15; (with_reducible refine (of_any hm6 w6 (fun _ _ => rfl) (fun _ h => h)).mono ?_); rintro en w7 ⟨v2, rfl, hv2, hw7⟩; have hv17 : EL w7 v1 pl := EL.step (hv1.mono (fun b hb => hb.2.lt)) hw7; have hb7 := hb6.trans (hw7.mono hb6.size))
      | (go_at_call 14; refine (same_true hv17 hv2 w7 (fun _ => rfl)).mono ?_; rintro en w8 ⟨rfl, k8, rfl⟩; have hb8 := below_drewN' hb7 k8)
      | (go_at_call 11; refine (awake_any _).mono ?_; rintro en w9 ⟨rfl, hw9⟩; have hb9 := hb8.trans (hw9.mono hb8.size)))
    go_ret
    exact ⟨rfl, hb9⟩
  · rw [decide_eq_false hp] at hfew
    have HF := Lib.hid hfew
    clear hfew hp htab h
    go_enter Tryd.func6, Tryd.ntmps6
    go_wp2_with (first
      | (go_at_call 16; refine HF.out.mono ?_; rintro en w1 ⟨rfl, hw1⟩)
      | (go_at_call 11; refine (awake_any w1).mono ?_; rintro en w2 ⟨rfl, hw2⟩))
    go_ret
    exact ⟨rfl, hw1.trans (hw2.mono hw1.size)⟩
end Go.Proofs.YthaampinmelgaaaDoor

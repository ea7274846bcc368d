/- The reference: ends, and the plain model of Numbered. -/
import Derived.Test.YtngfoinceakgdaaMat
/-! The reference: ends. -/
namespace Go.Proofs.Ytngfoinceakgdaa
open Go.RowKit Go.Shelf

/-- Does the edge lead from the component of p to another one without a number? -/
def open1 (M : Nat → Nat → Bool) (num : List Int) (p : Nat) (x : Nat × Nat) : Bool := (M p x.1 && M x.1 p) && (!(M p x.2 && M x.2 p) && decide (getI num x.2 < 0))
def endsF (M : Nat → Nat → Bool) (num : List Int) (p : Nat) (E : List (Nat × Nat)) : Bool := !E.any (open1 M num p)
theorem endsF_bad {M : Nat → Nat → Bool} {num : List Int} {p : Nat} {E : List (Nat × Nat)} {k : Nat} {x : Nat × Nat} (hx : E[k]? = some x) (h : open1 M num p x = true) : endsF M num p E = false := by
  unfold endsF
  rw [List.any_eq_true.2 ⟨x, List.mem_of_getElem? hx, h⟩]
  rfl

set_option maxRecDepth 100000 in
set_option maxHeartbeats 4000000 in
theorem ends_any (B : Nat) (w : World) (v vn : Value) (n cr : Nat) (exit : Int) (E : List (Nat × Nat)) (Ar : Option Addr) (M : Nat → Nat → Bool) (num : List Int) (p : Nat) (hv : Edges B w v (castE E)) (hB : B ≤ w.heap.size) (hE : ∀ x ∈ E, x.1 < n ∧ x.2 < n) (hlE : E.length ≤ 1024)
    (hM : Mat B w Ar n M) (_hcr : n ≤ cr) (hnu : Ints B w vn num) (hnl : num.length = n) (hp : p < n) :
    Calls Try.prog 74 #[.agg #[.int .i64 (n : Int), .int .i64 exit, v], .slice Ar n cr, vn, .int .i64 (p : Int)] w fun en w' => en = .returned (.bool (endsF M num p E)) ∧ Below w.heap.size w w' := by
  obtain ⟨A, c, rfl, hlc, -, hm, hes⟩ := hv.shape
  have hlen0 : (castE E).length = E.length := castE_length E
  rw [hlen0] at hlc hm ⊢
  have hen := Edges.nat hes
  have HE := Lib.hid hen
  obtain ⟨Am, R, C, rfl, hAm, hmat⟩ := hM
  have HM := Lib.hid hmat
  obtain ⟨An, cn, rfl, hln, hcn, hmn, hnum⟩ := hnu.shape
  have HN := Lib.hid hnum
  rw [hnl] at hln hmn ⊢
  have HNL := Lib.hid hnl
  have hp1 : (p : Int) < (n : Int) := by exact_mod_cast hp
  clear hes hen hlen0 hv hmat hnu hnum hnl
  go_enter Try.func74, Try.ntmps74
  go_wp2
  go_loopw [9] (fun y wr => ∃ k : Nat, k ≤ E.length ∧ y = .int .i64 k ∧ (E.take k).any (open1 M num p) = false ∧ Blk wr w.heap.size 24 [.int .i64 (n : Int), .int .i64 exit, .slice A E.length c] ∧ Below w.heap.size w wr) (fun y _ => E.length - (intOf y).toNat)
  case atStart => exact ⟨0, Nat.zero_le _, rfl, rfl, Blk.newAt w 24 #[.int .i64 (n : Int), .int .i64 exit, .slice A E.length c] rfl, (Below.refl _ _).alloc (Nat.le_refl _) _⟩
  case round =>
    obtain ⟨k, hk, rfl, hany, hblk, hbel⟩ := hrel
    have c2 := hblk.cellAt (i := 2) rfl
    have hbl := hblk.lt
    by_cases hlt : k < E.length
    · have hlt1 : (k : Int) < (E.length : Int) := by omega
      have hek : E[k]? = some E[k] := List.getElem?_eq_getElem hlt
      have hx := hE _ (List.getElem_mem hlt)
      revert hek hx
      generalize E[k] = x
      intro hek hx
      obtain ⟨f, t⟩ := x
      obtain ⟨hf, ht⟩ := hx
      obtain ⟨ad, cs, rfl, hab, hcl, hcc, hc0, hc1, hone⟩ := HE.out k _ hek
      have hcr : ∀ j v, cs[j]? = some v → wr.cell? ((ad.add (k * 21)).add j) = some v := fun j v hj => (hbel.cell (by rw [block_add, block_add]; omega)).trans (hcc j v hj)
      have hb3 := hbel.alloc hbel.size (.cells cs.toArray 58)
      have hg3 := hblk.alloc (.cells cs.toArray 58)
      have hf1 : (f : Int) < (n : Int) := by exact_mod_cast hf
      have ht1 : (t : Int) < (n : Int) := by exact_mod_cast ht
      obtain ⟨ep, -, -, hRp, mp⟩ := HM.out p hp
      obtain ⟨ef, -, -, hRf, mf⟩ := HM.out f hf
      obtain ⟨et, -, -, hRt, mt⟩ := HM.out t ht
      obtain ⟨Ad, un, rfl, hAd, hcn2, hun⟩ := HN.out t (getI num t) (by unfold getI; rw [List.getD_eq_getElem?_getD, List.getElem?_eq_getElem (by rw [HNL.out]; exact ht)]; rfl)
      cases hun
      have d1 := (hb3.cell (p := Am.add p) (by rw [block_add]; omega)).trans ep
      have d2 := (hb3.cell (p := Am.add f) (by rw [block_add]; omega)).trans ef
      have d3 := (hb3.cell (p := Am.add t) (by rw [block_add]; omega)).trans et
      have d4 := (hb3.cell (p := (R p).add f) (by rw [block_add]; omega)).trans (mp f hf)
      have d5 := (hb3.cell (p := (R f).add p) (by rw [block_add]; omega)).trans (mf p hp)
      have d6 := (hb3.cell (p := (R p).add t) (by rw [block_add]; omega)).trans (mp t ht)
      have d7 := (hb3.cell (p := (R t).add p) (by rw [block_add]; omega)).trans (mt p hp)
      have d8 := (hb3.cell (p := Ad.add t) (by rw [block_add]; omega)).trans hcn2
      have htk : (E.take (k + 1)).any (open1 M num p) = open1 M num p (f, t) := by
        obtain ⟨hk', hk2⟩ := List.getElem?_eq_some_iff.1 hek
        rw [List.take_succ_eq_append_getElem hlt, List.any_append, hany, hk2]
        simp
      have hbad := fun h => endsF_bad (M := M) (num := num) (p := p) hek h
      have HC := Lib.hid hcr
      have HL := Lib.hid hcl
      have H1 := Lib.hid hone
      have HTK := Lib.hid htk
      have HBAD := Lib.hid hbad
      clear hcc hcr hcl hone hek hany hcn2 ep ef et mp mf mt htk hbad
      revert d4 d5 d6 d7 d8 HTK HBAD
      unfold open1
      generalize M p f = b1
      generalize M f p = b2
      generalize M p t = b3
      generalize M t p = b4
      generalize getI num t = nt
      intro d4 d5 d6 d7 d8 HTK HBAD
      cases b1 with
      | false =>
        have hrs : ((false && b2) && (!(b3 && b4) && decide (nt < 0))) = false := rfl
        have HRS := Lib.hid hrs
        clear hrs
        go_wp2_with (first
          | ((with_reducible show wpList _ _ _ (⟨some 23, .load 58 (.tmp 22), _, _, _, _⟩ :: _) _ _); refine wpList_load_list rfl _ _ rfl (ad.add (k * 21)) rfl cs _ HC.out Try.underlying58 rfl (by rw [HL.out]; exact size_edge) ?_)
          | ((with_reducible show wpList _ _ _ (⟨none, .store 58 (.tmp 10) (.tmp 23), _, _, _, _⟩ :: _) _ _); refine wpList_store_new rfl _ _ _ rfl _ _ cs rfl rfl (by rw [HL.out]; exact size_edge) (by rw [HL.out]; rfl) H1.out ?_))
        go_quiet (fail)
        go_wp2
        go_quiet (fail)
        go_wp2
        go_roundw
        case rel => exact ⟨k + 1, by omega, by go_num, HTK.out.trans HRS.out, hg3.drewN _, below_drewN' hb3 _⟩
        case measure => simp [intOf]; omega
      | true =>
        cases b2 with
        | false =>
          have hrs : ((true && false) && (!(b3 && b4) && decide (nt < 0))) = false := rfl
          have HRS := Lib.hid hrs
          clear hrs
          go_wp2_with (first
            | ((with_reducible show wpList _ _ _ (⟨some 23, .load 58 (.tmp 22), _, _, _, _⟩ :: _) _ _); refine wpList_load_list rfl _ _ rfl (ad.add (k * 21)) rfl cs _ HC.out Try.underlying58 rfl (by rw [HL.out]; exact size_edge) ?_)
            | ((with_reducible show wpList _ _ _ (⟨none, .store 58 (.tmp 10) (.tmp 23), _, _, _, _⟩ :: _) _ _); refine wpList_store_new rfl _ _ _ rfl _ _ cs rfl rfl (by rw [HL.out]; exact size_edge) (by rw [HL.out]; rfl) H1.out ?_))
          go_quiet (fail)
          go_wp2
          go_quiet (fail)
          go_wp2
          go_roundw
          case rel => exact ⟨k + 1, by omega, by go_num, HTK.out.trans HRS.out, hg3.drewN _, below_drewN' hb3 _⟩
          case measure => simp [intOf]; omega
        | true =>
          cases b3 with
          | false =>
            by_cases hn0 : nt < 0
            · have hrs : ((true && true) && (!(false && b4) && decide (nt < 0))) = true := by simp [hn0]
              have HRS := Lib.hid hrs
              clear hrs
              go_wp2_with (first
                | ((with_reducible show wpList _ _ _ (⟨some 23, .load 58 (.tmp 22), _, _, _, _⟩ :: _) _ _); refine wpList_load_list rfl _ _ rfl (ad.add (k * 21)) rfl cs _ HC.out Try.underlying58 rfl (by rw [HL.out]; exact size_edge) ?_)
                | ((with_reducible show wpList _ _ _ (⟨none, .store 58 (.tmp 10) (.tmp 23), _, _, _, _⟩ :: _) _ _); refine wpList_store_new rfl _ _ _ rfl _ _ cs rfl rfl (by rw [HL.out]; exact size_edge) (by rw [HL.out]; rfl) H1.out ?_))
              go_quiet (fail)
              go_wp2
              go_quiet (fail)
              go_wp2
              go_ret
              exact ⟨by rw [HBAD.out HRS.out]; rfl, below_drewN' (below_drewN' hb3 _) _⟩
            · have hrs : ((true && true) && (!(false && b4) && decide (nt < 0))) = false := by simp [hn0]
              have hn1 : decide (nt < 0) = false := by simpa using hn0
              have HRS := Lib.hid hrs
              clear hrs hn0
              go_wp2_with (first
                | ((with_reducible show wpList _ _ _ (⟨some 23, .load 58 (.tmp 22), _, _, _, _⟩ :: _) _ _); refine wpList_load_list rfl _ _ rfl (ad.add (k * 21)) rfl cs _ HC.out Try.underlying58 rfl (by rw [HL.out]; exact size_edge) ?_)
                | ((with_reducible show wpList _ _ _ (⟨none, .store 58 (.tmp 10) (.tmp 23), _, _, _, _⟩ :: _) _ _); refine wpList_store_new rfl _ _ _ rfl _ _ cs rfl rfl (by rw [HL.out]; exact size_edge) (by rw [HL.out]; rfl) H1.out ?_))
              go_quiet (fail)
              go_wp2
              go_quiet (fail)
              go_wp2
              go_roundw
              case rel => exact ⟨k + 1, by omega, by go_num, HTK.out.trans HRS.out, hg3.drewN _, below_drewN' hb3 _⟩
              case measure => simp [intOf]; omega
          | true =>
            cases b4 with
            | false =>
              by_cases hn0 : nt < 0
              · have hrs : ((true && true) && (!(true && false) && decide (nt < 0))) = true := by simp [hn0]
                have HRS := Lib.hid hrs
                clear hrs
                go_wp2_with (first
                  | ((with_reducible show wpList _ _ _ (⟨some 23, .load 58 (.tmp 22), _, _, _, _⟩ :: _) _ _); refine wpList_load_list rfl _ _ rfl (ad.add (k * 21)) rfl cs _ HC.out Try.underlying58 rfl (by rw [HL.out]; exact size_edge) ?_)
                  | ((with_reducible show wpList _ _ _ (⟨none, .store 58 (.tmp 10) (.tmp 23), _, _, _, _⟩ :: _) _ _); refine wpList_store_new rfl _ _ _ rfl _ _ cs rfl rfl (by rw [HL.out]; exact size_edge) (by rw [HL.out]; rfl) H1.out ?_))
                go_quiet (fail)
                go_wp2
                go_quiet (fail)
                go_wp2
                go_ret
                exact ⟨by rw [HBAD.out HRS.out]; rfl, below_drewN' (below_drewN' hb3 _) _⟩
              · have hrs : ((true && true) && (!(true && false) && decide (nt < 0))) = false := by simp [hn0]
                have hn1 : decide (nt < 0) = false := by simpa using hn0
                have HRS := Lib.hid hrs
                clear hrs hn0
                go_wp2_with (first
                  | ((with_reducible show wpList _ _ _ (⟨some 23, .load 58 (.tmp 22), _, _, _, _⟩ :: _) _ _); refine wpList_load_list rfl _ _ rfl (ad.add (k * 21)) rfl cs _ HC.out Try.underlying58 rfl (by rw [HL.out]; exact size_edge) ?_)
                  | ((with_reducible show wpList _ _ _ (⟨none, .store 58 (.tmp 10) (.tmp 23), _, _, _, _⟩ :: _) _ _); refine wpList_store_new rfl _ _ _ rfl _ _ cs rfl rfl (by rw [HL.out]; exact size_edge) (by rw [HL.out]; rfl) H1.out ?_))
                go_quiet (fail)
                go_wp2
                go_quiet (fail)
                go_wp2
                go_roundw
                case rel => exact ⟨k + 1, by omega, by go_num, HTK.out.trans HRS.out, hg3.drewN _, below_drewN' hb3 _⟩
                case measure => simp [intOf]; omega
            | true =>
              have hrs : ((true && true) && (!(true && true) && decide (nt < 0))) = false := rfl
              have HRS := Lib.hid hrs
              clear hrs
              go_wp2_with (first
                | ((with_reducible show wpList _ _ _ (⟨some 23, .load 58 (.tmp 22), _, _, _, _⟩ :: _) _ _); refine wpList_load_list rfl _ _ rfl (ad.add (k * 21)) rfl cs _ HC.out Try.underlying58 rfl (by rw [HL.out]; exact size_edge) ?_)
                | ((with_reducible show wpList _ _ _ (⟨none, .store 58 (.tmp 10) (.tmp 23), _, _, _, _⟩ :: _) _ _); refine wpList_store_new rfl _ _ _ rfl _ _ cs rfl rfl (by rw [HL.out]; exact size_edge) (by rw [HL.out]; rfl) H1.out ?_))
              go_quiet (fail)
              go_wp2
              go_quiet (fail)
              go_wp2
              go_roundw
              case rel => exact ⟨k + 1, by omega, by go_num, HTK.out.trans HRS.out, hg3.drewN _, below_drewN' hb3 _⟩
              case measure => simp [intOf]; omega
    · obtain rfl : k = E.length := by omega
      have hr : endsF M num p E = true := by
        rw [List.take_length] at hany
        unfold endsF
        rw [hany]
        rfl
      have HR := Lib.hid hr
      clear hr hany
      go_wp2
      go_ret
      exact ⟨by rw [HR.out]; rfl, hbel⟩
end Go.Proofs.Ytngfoinceakgdaa

/-! The plain model of the reference: Numbered. No program here. -/
namespace Go.Proofs.Ytngfoinceakgdaa

def numCand (M : Nat → Nat → Bool) (E : List (Nat × Nat)) (o : List Int) (p : Nat) : Bool := decide (getI o p < 0) && endsF M o p E
def numPick (M : Nat → Nat → Bool) (E : List (Nat × Nat)) (n : Nat) (o : List Int) : Option Nat := (List.range n).find? (numCand M E o)
def numSet1 (M : Nat → Nat → Bool) (p c : Nat) (o : List Int) (q : Nat) : List Int := if M p q && M q p then o.set q (c : Int) else o
def numSet (M : Nat → Nat → Bool) (n : Nat) (o : List Int) (p c : Nat) : List Int := (List.range n).foldl (numSet1 M p c) o
def numLoop (M : Nat → Nat → Bool) (E : List (Nat × Nat)) (n : Nat) : Nat → Nat → List Int → Option (List Int)
  | 0, _, _ => none
  | k + 1, c, o => match numPick M E n o with
    | none => some o
    | some p => numLoop M E n k (c + 1) (numSet M n o p c)
theorem numLoop_next {M : Nat → Nat → Bool} {E : List (Nat × Nat)} {n k c : Nat} {o res : List Int} (h : numLoop M E n (k + 1) c o = some res) : (numPick M E n o = none ∧ o = res) ∨ ∃ p, numPick M E n o = some p ∧ numLoop M E n k (c + 1) (numSet M n o p c) = some res := by
  simp only [numLoop] at h
  split at h
  · rename_i h1; exact .inl ⟨h1, Option.some.inj h⟩
  · rename_i p h1; exact .inr ⟨p, h1, h⟩
theorem numSet1_length {M : Nat → Nat → Bool} {p c : Nat} {o : List Int} {q : Nat} : (numSet1 M p c o q).length = o.length := by unfold numSet1; split <;> simp
theorem numFold_length {M : Nat → Nat → Bool} {p c : Nat} : ∀ (l : List Nat) (o : List Int), (l.foldl (numSet1 M p c) o).length = o.length
  | [], _ => rfl
  | x :: xs, o => by rw [List.foldl_cons, numFold_length xs]; exact numSet1_length
theorem numFold_succ {M : Nat → Nat → Bool} {p c : Nat} (q : Nat) (o : List Int) : (List.range (q + 1)).foldl (numSet1 M p c) o = numSet1 M p c ((List.range q).foldl (numSet1 M p c) o) q := by
  rw [List.range_succ, List.foldl_append]; rfl
theorem numPick_at {M : Nat → Nat → Bool} {E : List (Nat × Nat)} {n m : Nat} {o : List Int} (hm : m < n) (hno : ∀ j, j < m → numCand M E o j = false) (h : numCand M E o m = true) : numPick M E n o = some m := by
  unfold numPick
  have hsp : List.range n = List.range m ++ (m :: (List.range n).drop (m + 1)) := by
    have h1 := (List.take_append_drop m (List.range n)).symm
    rw [List.take_range, Nat.min_eq_left (by omega), List.drop_eq_getElem_cons (by simpa using hm), List.getElem_range] at h1
    exact h1
  rw [hsp, List.find?_append, List.find?_eq_none.2 (by intro x hx; rw [hno x (List.mem_range.1 hx)]; simp), Option.none_or, List.find?_cons_of_pos h]
theorem numPick_none {M : Nat → Nat → Bool} {E : List (Nat × Nat)} {n : Nat} {o : List Int} (hno : ∀ j, j < n → numCand M E o j = false) : numPick M E n o = none := by
  unfold numPick
  exact List.find?_eq_none.2 (by intro x hx; rw [hno x (List.mem_range.1 hx)]; simp)
/-- What is asked of a round of the loop over the points. -/
def NumRel (M : Nat → Nat → Bool) (E : List (Nat × Nat)) (n c : Nat) (o : List Int) (m : Nat) (b : Bool) (o2 : List Int) : Prop :=
  (b = false ∧ o2 = o ∧ ∀ j, j < m → numCand M E o j = false) ∨ (b = true ∧ ∃ q, numPick M E n o = some q ∧ o2 = numSet M n o q c)
/-- What is asked of a round of the outer loop. -/
def NumOut (M : Nat → Nat → Bool) (E : List (Nat × Nat)) (n k c : Nat) (b : Bool) (o res : List Int) : Prop := (b = true ∧ numLoop M E n k c o = some res) ∨ (b = false ∧ o = res)
theorem NumRel.out {M : Nat → Nat → Bool} {E : List (Nat × Nat)} {n k c m : Nat} {o o2 res : List Int} {b : Bool} (h : NumRel M E n c o m b o2) (hm : b = true ∨ m = n) (hl : numLoop M E n (k + 1) c o = some res) : NumOut M E n k (c + 1) b o2 res := by
  rcases h with ⟨rfl, rfl, h⟩ | ⟨rfl, q, h1, rfl⟩
  · have hm' : m = n := by rcases hm with h | h; cases h; exact h
    subst hm'
    rcases numLoop_next hl with ⟨-, h2⟩ | ⟨p, h2, -⟩
    · exact .inr ⟨rfl, h2⟩
    · rw [numPick_none h] at h2; cases h2
  · rcases numLoop_next hl with ⟨h2, -⟩ | ⟨p, h2, h3⟩
    · rw [h2] at h1; cases h1
    · rw [h2] at h1; cases h1; exact .inl ⟨rfl, h3⟩
end Go.Proofs.Ytngfoinceakgdaa

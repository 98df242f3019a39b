/- Walks, 16: may an automaton be, by the reference. Plain laws, 6: an automaton as a net; its automaton is itself, as its states are met. Walks, 19: the reference: sets alike; which states may be; what is marked and all that edges by nothing lead to; ends; what an automaton takes. Walks, 20: the reference: what is marked and all that edges by nothing lead to; from states, by a label. Walks, 21: the reference: from states by nothing, by a label; what an automaton takes. Walks, 22: the reference: by a label; what an automaton takes. -/
import Derived.Test.YtmlgmgjakhbhjaaGreatDoorZW4
import Derived.Test.YtmlgmgjakhbhjaaGreatDoorZJ3
namespace Go.Proofs.YtmlgmgjakhbhjaaGreatDoor.Ab
open Go Go.Proofs
noncomputable section
attribute [local irreducible] J Con Lv CallJ DCon

set_option maxRecDepth 10000 in
theorem f15_ok {hk : HKT} (U : HkU hk) (M : Imm) {a b : Option Addr} {c d : Nat} {ls : List (SlOf P2)} {B : List Bool} (hr : Rows M eP a ls) (hb : IsSl M eB b B) :
    Con Tryz.prog hk 15 [.agg ⟨[.slice a ls.length c, .slice b B.length d]⟩] M [] (Gives (.bool (autoGood (rowsOf ls) B)) []) := by
  refine Con.of_body (U.no 15 rfl) Tryz.func15 rfl rfl Tryz.ntmps15 rfl rfl ?_
  have hout := hr.out
  have hlen := hout.len
  have hblen := hb.len
  have hn := U.n
  repeat' (first | rfl | assumption | (apply stp tt_ok; constructor) | exact Rng.mk (by omega) (by omega) | exact Bd.mk (by first | omega | (refine Nat.lt_of_lt_of_le (show _ < 1 by decide) ?_; first | omega | (rw [List.length_replicate]; omega)) | (refine Nat.lt_of_lt_of_le (show _ < 2 by decide) ?_; first | omega | (rw [List.length_replicate]; omega)) | (simp only [List.length_cons, List.length_nil]; omega)) | refine J.draw (by assumption) follows_ok (by kernel_rfl) (by decide +kernel) (by decide +kernel) ?_ | refine J.done ⟨rfl, rfl, rfl, ?_⟩ | constructor | (intro _; exfalso; omega) | intro _)
  · refine J.give0 tt_ok rfl (.cons (.tmp rfl) .nil) ?_
    have : autoGood (rowsOf ls) B = false := by unfold autoGood; rw [decide_eq_false (by rw [rowsOf_length]; omega)]; rfl
    rw [this]; rfl
  · refine J.give0 tt_ok rfl (.cons (.tmp rfl) .nil) ?_
    have : autoGood (rowsOf ls) B = false := by unfold autoGood; rw [decide_eq_false (by rw [rowsOf_length]; omega)]; rfl
    rw [this]; rfl
  · rename_i id h1 h2 h3
    refine J.keep [3, 1] rfl ?_
    refine J.forN ls.length (fun k E L => E = [(3, .int .i64 (k : Int)), (1, .pointer (some ⟨id, 0, none⟩))] ∧ L = [[(id, .row [.slice a ls.length c, .slice b B.length d] 27 .fixed)], []] ∧
      ∀ j, j < k → rowOk ls.length (nthAt [] (rowsOf ls) j) = true) ⟨rfl, rfl, fun j hj => by omega⟩ ?_
    rintro k E L hk' ⟨rfl, rfl, hrows⟩ ih
    have hin := hr.at k
    have hil := hin.len
    have hrn := rowsOf_nth ls k
    have bad : rowOk ls.length (nthAt [] (rowsOf ls) k) = false → k < ls.length → autoGood (rowsOf ls) B = false := by
      intro h hlt
      unfold autoGood
      rw [all_false (d := []) (k := k) (by simpa using hlt) (by rw [rowsOf_length]; exact h), Bool.and_false]
    by_cases hlt : k < ls.length
    · repeat' (first | rfl | assumption | (apply stp tt_ok; constructor) | exact Rng.mk (by omega) (by omega) | exact Bd.mk (by first | omega | (refine Nat.lt_of_lt_of_le (show _ < 1 by decide) ?_; first | omega | (rw [List.length_replicate]; omega)) | (refine Nat.lt_of_lt_of_le (show _ < 2 by decide) ?_; first | omega | (rw [List.length_replicate]; omega)) | (simp only [List.length_cons, List.length_nil]; omega)) | refine J.draw (by assumption) follows_ok (by kernel_rfl) (by decide +kernel) (by decide +kernel) ?_ | refine J.done ⟨rfl, rfl, rfl, ?_⟩ | constructor | (intro _; exfalso; omega) | intro _)
      refine J.keep [4, 3, 1] rfl ?_
      refine J.forN (nthAt (eSl P2).dflt ls k).l.length (fun i E L => E = [(4, .int .i64 (i : Int)), (3, .int .i64 (k : Int)), (1, .pointer (some ⟨id, 0, none⟩))] ∧
        L = [[(id, .row [.slice a ls.length c, .slice b B.length d] 27 .fixed)], []] ∧ ∀ j, j < i → eOk ls.length (nthAt [] (rowsOf ls) k) j = true) ⟨rfl, rfl, fun j hj => by omega⟩ ?_
      rintro i E L hi' ⟨rfl, rfl, hedges⟩ ih2
      rw [hrn] at bad hedges
      have hstep : eOk ls.length (nthAt (eSl P2).dflt ls k).l i = true → ∀ j, j < i + 1 → eOk ls.length (nthAt [] (rowsOf ls) k) j = true := by
        intro h j hj
        rw [hrn]
        by_cases e : j = i
        · rw [e]; exact h
        · exact hedges j (by omega)
      by_cases hil2 : i < (nthAt (eSl P2).dflt ls k).l.length
      · have bad2 : eOk ls.length (nthAt (eSl P2).dflt ls k).l i = false → autoGood (rowsOf ls) B = false := fun h => bad (range_false hil2 h) hlt
        rcases Nat.eq_zero_or_pos i with h0 | h0
        · subst h0
          repeat' (first | rfl | assumption | (apply stp tt_ok; constructor) | exact Rng.mk (by omega) (by omega) | exact Bd.mk (by first | omega | (refine Nat.lt_of_lt_of_le (show _ < 1 by decide) ?_; first | omega | (rw [List.length_replicate]; omega)) | (refine Nat.lt_of_lt_of_le (show _ < 2 by decide) ?_; first | omega | (rw [List.length_replicate]; omega)) | (simp only [List.length_cons, List.length_nil]; omega)) | refine J.draw (by assumption) follows_ok (by kernel_rfl) (by decide +kernel) (by decide +kernel) ?_ | refine J.done ⟨rfl, rfl, rfl, ?_⟩ | constructor | (intro _; exfalso; omega) | intro _)
          · exact J.give0 tt_ok rfl (.cons (.tmp rfl) .nil) (by rw [bad2 (by unfold eOk; rw [decide_eq_false (by omega)]; rfl)]; rfl)
          · exact J.give0 tt_ok rfl (.cons (.tmp rfl) .nil) (by rw [bad2 (by unfold eOk; rw [decide_eq_false (by omega)]; rfl)]; rfl)
          · exact J.give0 tt_ok rfl (.cons (.tmp rfl) .nil) (by rw [bad2 (by unfold eOk; rw [decide_eq_false (by omega)]; rfl)]; rfl)
          · refine J.dropHd ?_
            refine J.keep [4, 3, 1] rfl (ih2 hil2 _ _ ⟨rfl, rfl, hstep ?_⟩)
            unfold eOk; rw [decide_eq_true (by omega)]; rfl
        · have hp : IsN ((i : Int) - 1) (i - 1) := by unfold IsN; omega
          have hb0 : Nat.beq i 0 = false := by cases i with | zero => omega | succ i => rfl
          repeat' (first | rfl | assumption | (apply stp tt_ok; constructor) | exact Rng.mk (by omega) (by omega) | exact Bd.mk (by first | omega | (refine Nat.lt_of_lt_of_le (show _ < 1 by decide) ?_; first | omega | (rw [List.length_replicate]; omega)) | (refine Nat.lt_of_lt_of_le (show _ < 2 by decide) ?_; first | omega | (rw [List.length_replicate]; omega)) | (simp only [List.length_cons, List.length_nil]; omega)) | refine J.draw (by assumption) follows_ok (by kernel_rfl) (by decide +kernel) (by decide +kernel) ?_ | refine J.done ⟨rfl, rfl, rfl, ?_⟩ | constructor | (intro _; exfalso; omega) | intro _)
          · exact J.give0 tt_ok rfl (.cons (.tmp rfl) .nil) (by rw [bad2 (by unfold eOk; rw [decide_eq_false (by omega)]; rfl)]; rfl)
          · exact J.give0 tt_ok rfl (.cons (.tmp rfl) .nil) (by rw [bad2 (by unfold eOk; rw [decide_eq_false (by omega)]; rfl)]; rfl)
          · exact J.give0 tt_ok rfl (.cons (.tmp rfl) .nil) (by rw [bad2 (by unfold eOk; rw [decide_eq_false (by omega)]; rfl)]; rfl)
          · exact J.give0 tt_ok rfl (.cons (.tmp rfl) .nil) (by rw [bad2 (by unfold eOk; rw [hb0, decide_eq_false (p := _ < _) (by omega), Bool.or_false, Bool.and_false])]; rfl)
          · refine J.dropHd ?_
            refine J.keep [4, 3, 1] rfl (ih2 hil2 _ _ ⟨rfl, rfl, hstep ?_⟩)
            unfold eOk; rw [decide_eq_true (by omega), hb0, decide_eq_true (by omega)]; rfl
      · have hrow : rowOk ls.length (nthAt [] (rowsOf ls) k) = true := by
          unfold rowOk
          rw [List.all_eq_true]
          intro j hj
          have hj := List.mem_range.1 hj
          rw [hrn] at hj ⊢
          exact hedges j (by omega)
        repeat' (first | rfl | assumption | (apply stp tt_ok; constructor) | exact Rng.mk (by omega) (by omega) | exact Bd.mk (by first | omega | (refine Nat.lt_of_lt_of_le (show _ < 1 by decide) ?_; first | omega | (rw [List.length_replicate]; omega)) | (refine Nat.lt_of_lt_of_le (show _ < 2 by decide) ?_; first | omega | (rw [List.length_replicate]; omega)) | (simp only [List.length_cons, List.length_nil]; omega)) | refine J.draw (by assumption) follows_ok (by kernel_rfl) (by decide +kernel) (by decide +kernel) ?_ | refine J.done ⟨rfl, rfl, rfl, ?_⟩ | constructor | (intro _; exfalso; omega) | intro _)
        refine J.keep [3, 1] rfl (ih hlt _ _ ⟨rfl, rfl, fun j hj => ?_⟩)
        by_cases e : j = k
        · rw [e]; exact hrow
        · exact hrows j (by omega)
    · have hall : autoGood (rowsOf ls) B = true := by
        unfold autoGood
        rw [decide_eq_true (by rw [rowsOf_length]; omega), Bool.true_and, List.all_eq_true]
        intro r hr'
        obtain ⟨j, hj, e⟩ := List.mem_iff_getElem.1 hr'
        have := hrows j (by rw [rowsOf_length] at hj; omega)
        rw [nthAt_get hj, e] at this
        rw [rowsOf_length]; exact this
      repeat' (first | rfl | assumption | (apply stp tt_ok; constructor) | exact Rng.mk (by omega) (by omega) | exact Bd.mk (by first | omega | (refine Nat.lt_of_lt_of_le (show _ < 1 by decide) ?_; first | omega | (rw [List.length_replicate]; omega)) | (refine Nat.lt_of_lt_of_le (show _ < 2 by decide) ?_; first | omega | (rw [List.length_replicate]; omega)) | (simp only [List.length_cons, List.length_nil]; omega)) | refine J.draw (by assumption) follows_ok (by kernel_rfl) (by decide +kernel) (by decide +kernel) ?_ | refine J.done ⟨rfl, rfl, rfl, ?_⟩ | constructor | (intro _; exfalso; omega) | intro _)
      exact J.give0 tt_ok rfl (.cons (.tmp rfl) .nil) (by rw [hall]; rfl)
  · refine J.give0 tt_ok rfl (.cons (.tmp rfl) .nil) ?_
    have : autoGood (rowsOf ls) B = false := by unfold autoGood; rw [decide_eq_false (by rw [rowsOf_length]; omega)]; rfl
    rw [this]; rfl
end
end Go.Proofs.YtmlgmgjakhbhjaaGreatDoor.Ab

namespace Go.Proofs.YtmlgmgjakhbhjaaGreatDoor.Ab
open Go

/-- Where a state stands in the net. -/
def atN (s : Nat) : Nat := if s = 0 then 0 else s + 1
def toN (t : Int) : Int := if 0 < t then t + 1 else t
theorem toN_at {t : Nat} : toN (t : Int) = (atN t : Nat) := by unfold toN atN; split <;> split <;> omega
theorem atN_ne {s : Nat} : atN s ≠ 1 := by unfold atN; split <;> omega
theorem atN_inj {s t : Nat} (h : atN s = atN t) : s = t := by unfold atN at h; split at h <;> split at h <;> omega
theorem atN_lt {s m : Nat} (h : s < m) : atN s < m + 1 := by unfold atN; split <;> omega
/-- A state's row in the net. -/
def rowN (r : List P2) (b : Bool) : List P2 := r.map (fun x => (x.1, toN x.2)) ++ (if b then [((-1 : Int), (1 : Int))] else [])
/-- An automaton as a net. -/
structure NetOf (E : List (List P2)) (B : List Bool) (n : List (List P2)) : Prop where
  len : n.length = E.length + 1
  row : ∀ s, s < E.length → nthAt [] n (atN s) = rowN (nthAt [] E s) (nthAt false B s)
  one : nthAt [] n 1 = []

theorem mem_rowN {r : List P2} {b : Bool} {c t : Int} : (c, t) ∈ rowN r b ↔ (∃ x ∈ r, x.1 = c ∧ toN x.2 = t) ∨ (b = true ∧ c = -1 ∧ t = 1) := by
  unfold rowN
  rw [List.mem_append, List.mem_map]
  constructor
  · rintro (⟨x, hx, e⟩ | h)
    · cases e; exact .inl ⟨x, hx, rfl, rfl⟩
    · split at h
      · cases List.mem_singleton.1 h; exact .inr ⟨by assumption, rfl, rfl⟩
      · cases h
  · rintro (⟨x, hx, rfl, rfl⟩ | ⟨rfl, rfl, rfl⟩)
    · exact .inl ⟨x, hx, rfl⟩
    · exact .inr (by simp)
/-- The set of a state. -/
def sOf (B : List Bool) (s : Nat) : List Int := if nthAt false B s then (if s = 0 then [0, 1] else [1, (atN s : Int)]) else [(atN s : Int)]
theorem mem_sOf {B : List Bool} {s : Nat} {x : Int} : x ∈ sOf B s ↔ x = (atN s : Int) ∨ (nthAt false B s = true ∧ x = 1) := by
  unfold sOf
  cases h : nthAt false B s
  · simp
  · by_cases e : s = 0
    · subst e; simp [atN]
    · simp only [if_true, if_neg e, List.mem_cons, List.not_mem_nil, or_false, true_and]
      exact Or.comm
theorem sOf_up (B : List Bool) (s : Nat) : (sOf B s).Pairwise (· < ·) := by
  unfold sOf
  split
  · split
    · simp
    · rename_i h
      unfold atN
      rw [if_neg h]
      simp only [List.pairwise_cons, List.mem_cons, List.not_mem_nil, or_false, forall_eq, List.Pairwise.nil, and_true, false_implies, implies_true]
      omega
  · simp
theorem sOf_inj {B : List Bool} {s t : Nat} (h : sOf B s = sOf B t) : s = t := by
  have h1 : (atN s : Int) ∈ sOf B t := by rw [← h]; exact mem_sOf.2 (.inl rfl)
  rcases mem_sOf.1 h1 with h2 | ⟨_, h2⟩
  · exact atN_inj (by omega)
  · have := @atN_ne s; omega
theorem sOf_ends {B : List Bool} {s : Nat} : endsB (sOf B s) = nthAt false B s := by
  rw [Bool.eq_iff_iff]
  unfold endsB
  rw [List.any_eq_true]
  constructor
  · rintro ⟨x, hx, h⟩
    have h := of_decide_eq_true h
    rcases mem_sOf.1 hx with h2 | ⟨h2, _⟩
    · have := @atN_ne s; omega
    · exact h2
  · exact fun h => ⟨1, mem_sOf.2 (.inr ⟨h, rfl⟩), by simp⟩

section
variable {E : List (List P2)} {B : List Bool} {n : List (List P2)}
theorem autoGood_lab (hA : autoGood E B = true) {s : Nat} {x : P2} (hx : x ∈ nthAt [] E s) : 0 ≤ x.1 ∧ 0 ≤ x.2 ∧ x.2 < E.length := by
  unfold autoGood at hA
  rw [Bool.and_eq_true, List.all_eq_true] at hA
  by_cases hs : s < E.length
  · have := hA.2 _ (List.mem_of_getElem? (nthAt_lt (d := []) hs))
    unfold rowOk at this
    obtain ⟨j, hj, rfl⟩ := List.mem_iff_getElem.1 hx
    have := List.all_eq_true.1 this j (List.mem_range.2 hj)
    unfold eOk at this
    rw [Bool.and_eq_true, nthAt_get hj] at this
    exact of_decide_eq_true this.1
  · unfold nthAt at hx
    rw [List.getD_eq_getElem?_getD, List.getElem?_eq_none (by omega)] at hx
    cases hx
theorem autoGood_up (hA : autoGood E B = true) {s : Nat} (hs : s < E.length) : ((nthAt [] E s).map (·.1)).Pairwise (· < ·) := by
  unfold autoGood at hA
  rw [Bool.and_eq_true, List.all_eq_true] at hA
  have hr := hA.2 _ (List.mem_of_getElem? (nthAt_lt (d := []) hs))
  unfold rowOk at hr
  rw [List.pairwise_iff_getElem]
  clear hA
  generalize nthAt [] E s = r at hr ⊢
  have key : ∀ d j, (h : j + d + 1 < r.length) → (r[j]'(by omega)).1 < (r[j + d + 1]'h).1 := by
    intro d
    induction d with
    | zero =>
      intro j h
      have := List.all_eq_true.1 hr (j + 1) (List.mem_range.2 h)
      unfold eOk at this
      rw [Bool.and_eq_true, Bool.or_eq_true] at this
      rcases this.2 with h2 | h2
      · cases h2
      · have h2 := of_decide_eq_true h2
        rw [Nat.add_sub_cancel, nthAt_get (by omega), nthAt_get (by omega)] at h2
        exact h2
    | succ d ih =>
      intro j h
      have h1 := ih j (by omega)
      have := List.all_eq_true.1 hr (j + d + 1 + 1) (List.mem_range.2 (by omega))
      unfold eOk at this
      rw [Bool.and_eq_true, Bool.or_eq_true] at this
      rcases this.2 with h2 | h2
      · cases h2
      · have h2 := of_decide_eq_true h2
        rw [Nat.add_sub_cancel, nthAt_get (by omega), nthAt_get (by omega)] at h2
        exact Int.lt_trans h1 h2
  intro i j hi hj hij
  rw [List.length_map] at hi hj
  rw [List.getElem_map, List.getElem_map]
  have := key (j - i - 1) i (by omega)
  have e : i + (j - i - 1) + 1 = j := by omega
  simp only [e] at this
  exact this

theorem closeP_one (hg : netGood n = true) (hN : NetOf E B n) (hA : autoGood E B = true) {l : List Int} {s : Nat} (hs : s < E.length) (hl : ∀ x, x ∈ l ↔ x = (atN s : Int)) : closeP n l = sOf B s := by
  have hin : NetIn n l := ⟨fun s x hx => ((netGood_spec hg).2.2.2 s x hx).2, fun x hx => by
    rw [(hl x).1 hx, hN.len]
    have := atN_lt hs
    omega⟩
  have h := closeP_set hg hin
  refine rising_ext _ _ h.up (sOf_up B s) fun x => ?_
  rw [h.mem, mem_sOf]
  have hrow := hN.row s hs
  constructor
  · intro hr
    induction hr with
    | seed hx => exact .inl ((hl _).1 hx)
    | step _ he ih =>
      rcases ih with rfl | ⟨_, rfl⟩
      · rw [Int.toNat_natCast, hrow] at he
        rcases mem_rowN.1 he with ⟨x, hx, e, _⟩ | ⟨hb, _, rfl⟩
        · have := autoGood_lab hA hx; omega
        · exact .inr ⟨hb, rfl⟩
      · have : nthAt [] n (1 : Int).toNat = [] := hN.one
        rw [this] at he; cases he
  · rintro (rfl | ⟨hb, rfl⟩)
    · exact .seed ((hl _).2 rfl)
    · refine .step (.seed ((hl _).2 rfl)) ?_
      rw [Int.toNat_natCast, hrow]
      exact mem_rowN.2 (.inr ⟨hb, rfl, rfl⟩)
theorem gather_one (hN : NetOf E B n) {s : Nat} (hs : s < E.length) {c t : Int} : (∃ q ∈ sOf B s, (c, t) ∈ nthAt [] n q.toNat) ↔ (c, t) ∈ rowN (nthAt [] E s) (nthAt false B s) := by
  constructor
  · rintro ⟨q, hq, h⟩
    rcases mem_sOf.1 hq with rfl | ⟨_, rfl⟩
    · rw [Int.toNat_natCast, hN.row s hs] at h; exact h
    · have : nthAt [] n (1 : Int).toNat = [] := hN.one
      rw [this] at h; cases h
  · intro h
    exact ⟨atN s, mem_sOf.2 (.inl rfl), by rw [Int.toNat_natCast, hN.row s hs]; exact h⟩
theorem labelsP_one (hN : NetOf E B n) (hA : autoGood E B = true) {s : Nat} (hs : s < E.length) : labelsP n (sOf B s) = (nthAt [] E s).map (·.1) := by
  refine rising_ext _ _ (labelsP_up _ _) (autoGood_up hA hs) fun c => ?_
  rw [mem_labelsP, List.mem_map]
  constructor
  · rintro ⟨hc, q, hq, t, h⟩
    rcases mem_rowN.1 ((gather_one hN hs).1 ⟨q, hq, h⟩) with ⟨x, hx, e, _⟩ | ⟨_, e, _⟩
    · exact ⟨x, hx, e⟩
    · exact absurd e hc
  · rintro ⟨x, hx, rfl⟩
    have := autoGood_lab hA hx
    obtain ⟨q, hq, h⟩ := (gather_one hN hs (B := B) (t := toN x.2)).2 (mem_rowN.2 (.inl ⟨x, hx, rfl, rfl⟩))
    exact ⟨by omega, q, hq, _, h⟩
theorem stepP_one (hg : netGood n = true) (hN : NetOf E B n) (hA : autoGood E B = true) {s : Nat} (hs : s < E.length) {x : P2} (hx : x ∈ nthAt [] E s) : stepP n (sOf B s) x.1 = sOf B x.2.toNat := by
  have hl := autoGood_lab hA hx
  unfold stepP
  refine closeP_one hg hN hA (by omega) fun t => ?_
  rw [mem_gStep, gather_one hN hs, mem_rowN]
  have hto : toN x.2 = (atN x.2.toNat : Nat) := by
    have := @toN_at x.2.toNat
    rwa [Int.toNat_of_nonneg hl.2.1] at this
  constructor
  · rintro (⟨y, hy, e, rfl⟩ | ⟨_, e, _⟩)
    · have : y = x := by
        have hup := autoGood_up hA hs
        obtain ⟨i, hi, rfl⟩ := List.mem_iff_getElem.1 hx
        obtain ⟨j, hj, rfl⟩ := List.mem_iff_getElem.1 hy
        rw [List.pairwise_iff_getElem] at hup
        rcases Nat.lt_trichotomy i j with h | h | h
        · have := hup i j (by simpa using hi) (by simpa using hj) h
          simp only [List.getElem_map] at this
          omega
        · subst h; rfl
        · have := hup j i (by simpa using hj) (by simpa using hi) h
          simp only [List.getElem_map] at this
          omega
      rw [this, hto]
    · omega
  · rintro rfl
    exact .inl ⟨x, hx, rfl, hto⟩

/-- All sets are states' sets. -/
def AllS (B : List Bool) (m : Nat) (S : List (List Int)) : Prop := S.Nodup ∧ ∀ l ∈ S, ∃ s, s < m ∧ l = sOf B s
theorem AllS.le {m : Nat} {S : List (List Int)} (h : AllS B m S) : S.length ≤ m := by
  have key : ∀ (m : Nat) (S : List (List Int)), AllS B m S → S.length ≤ m := by
    intro m
    induction m with
    | zero =>
      intro S h
      match S, h with
      | [], _ => exact Nat.le_refl _
      | l :: S, h => obtain ⟨s, hs, _⟩ := h.2 l (.head _); omega
    | succ m ih =>
      intro S h
      by_cases hm : sOf B m ∈ S
      · have h2 := ih (S.erase (sOf B m)) ⟨h.1.erase _, fun l hl => by
          have hl' := (h.1.mem_erase_iff).1 hl
          obtain ⟨s, hs, e⟩ := h.2 l hl'.2
          refine ⟨s, ?_, e⟩
          rcases Nat.lt_or_ge s m with h | h
          · exact h
          · have : s = m := by omega
            subst this; exact absurd e hl'.1⟩
        rw [List.length_erase_of_mem hm] at h2
        omega
      · have := ih S ⟨h.1, fun l hl => by
          obtain ⟨s, hs, e⟩ := h.2 l hl
          refine ⟨s, ?_, e⟩
          rcases Nat.lt_or_ge s m with h | h
          · exact h
          · have : s = m := by omega
            subst this; subst e; exact absurd hl hm⟩
        omega
  exact key m S h
theorem placeOf_none {l : List Int} : ∀ {S : List (List Int)} {i : Nat}, placeOf l S i = none → l ∉ S
  | [], _, _ => by simp
  | m :: S, i, h => by
    unfold placeOf at h
    split at h
    · cases h
    · rename_i hne
      exact fun hl => (List.mem_cons.1 hl).elim hne (placeOf_none h)
theorem stP_all {most : Int} {m : Nat} {S : List (List Int)} (h : AllS B m S) (hm : (m : Int) ≤ most) {s : Nat} (hs : s < m) : ∃ i S', stP most S (sOf B s) = some (i, S') ∧ AllS B m S' := by
  unfold stP
  cases hp : placeOf (sOf B s) S 0 with
  | some i => exact ⟨i, S, rfl, h⟩
  | none =>
    have hn : AllS B m (S ++ [sOf B s]) := by
      refine ⟨?_, fun l hl => ?_⟩
      · rw [List.nodup_append]
        refine ⟨h.1, by simp, fun a ha b hb e => ?_⟩
        cases List.mem_singleton.1 hb
        subst e
        exact placeOf_none hp ha
      · rcases List.mem_append.1 hl with hl | hl
        · exact h.2 l hl
        · cases List.mem_singleton.1 hl; exact ⟨s, hs, rfl⟩
    have := hn.le
    simp only [List.length_append, List.length_cons, List.length_nil] at this
    simp only
    rw [if_neg (by omega)]
    exact ⟨_, _, rfl, hn⟩
theorem flP_all (hg : netGood n = true) (hN : NetOf E B n) (hA : autoGood E B = true) {most : Int} (hm : (E.length : Int) ≤ most) {s : Nat} (hs : s < E.length) : ∀ (xs : List P2) (S : List (List Int)) (row : List P2), (∀ x ∈ xs, x ∈ nthAt [] E s) → AllS B E.length S → ∃ row' S', flP n most (sOf B s) (xs.map (·.1)) S row = some (row', S') ∧ AllS B E.length S'
  | [], S, row, _, h => ⟨row, S, rfl, h⟩
  | x :: xs, S, row, hx, h => by
    rw [List.map_cons]
    unfold flP
    rw [stepP_one hg hN hA hs (hx x (.head _))]
    have hl := autoGood_lab hA (hx x (.head _))
    obtain ⟨i, S', e, h'⟩ := stP_all h hm (s := x.2.toNat) (by omega)
    rw [e]
    exact flP_all hg hN hA hm hs xs S' _ (fun y hy => hx y (.tail _ hy)) h'
theorem ofP_all (hg : netGood n = true) (hN : NetOf E B n) (hA : autoGood E B = true) {most : Int} (hm : (E.length : Int) ≤ most) : ∀ (k : Nat) (S : List (List Int)) (E' : List (List P2)), AllS B E.length S → ∃ S' E2, ofP n most k S E' = some (S', E2) ∧ AllS B E.length S'
  | 0, S, E', h => ⟨S, E', rfl, h⟩
  | k + 1, S, E', h => by
    unfold ofP
    cases hl : S[E'.length]? with
    | none => exact ⟨S, E', rfl, h⟩
    | some l =>
      obtain ⟨s, hs, rfl⟩ := h.2 l (List.mem_of_getElem? hl)
      obtain ⟨row, S', e, h'⟩ := flP_all hg hN hA hm hs (nthAt [] E s) S [] (fun x hx => hx) h
      simp only
      rw [labelsP_one hN hA hs, e]
      exact ofP_all hg hN hA hm k S' _ h'
theorem subsetP_all (hg : netGood n = true) (hN : NetOf E B n) (hA : autoGood E B = true) {most : Int} (hm : (E.length : Int) ≤ most) (h2 : (E.length : Int) ≤ 2000) (h1 : 1 ≤ E.length) : ∃ S E2, subsetP n most = some (S, E2) ∧ AllS B E.length S := by
  unfold subsetP
  have h0 : closeP n [0] = sOf B 0 := closeP_one hg hN hA (s := 0) (by omega) (fun x => by simp [atN])
  rw [h0]
  obtain ⟨i, S, e, h⟩ := stP_all (B := B) (m := E.length) (S := []) ⟨List.nodup_nil, fun l hl => by cases hl⟩ (most := min most 2000) (by omega) (s := 0) (by omega)
  rw [e]
  exact ofP_all hg hN hA (by omega) _ _ _ h
end
end Go.Proofs.YtmlgmgjakhbhjaaGreatDoor.Ab

namespace Go.Proofs.YtmlgmgjakhbhjaaGreatDoor.Ab
open Go Go.Proofs
noncomputable section
attribute [local irreducible] J Con Lv CallJ DCon

/- ## which states may be -/
theorem f57_ok {hk : HKT} (U : HkU hk) (M : Imm) {a b : Option Addr} {c d : Nat} {ls : List (SlOf P2)} {l : List Int} (hr : Rows M eP a ls) (hl : IsSl M eI b l) (hfl : (rowsOf ls).flatten.length ≤ 1099511627776) :
    Con Tryz.prog hk 57 [.agg ⟨[.slice a ls.length c]⟩, .slice b l.length d] M [] (Gives (.bool (mayB (rowsOf ls) l)) []) := by
  refine Con.of_body (U.no 57 rfl) Tryz.func57 rfl rfl Tryz.ntmps57 rfl rfl ?_
  have hout := hr.out
  have hll := hl.len
  have hlen := hout.len
  have hn := U.n
  repeat' (first | rfl | assumption | (apply stp tt_ok; constructor) | exact Rng.mk (by omega) (by omega) | exact Bd.mk (by first | omega | (refine Nat.lt_of_lt_of_le (show _ < 1 by decide) ?_; first | omega | (rw [List.length_replicate]; omega)) | (refine Nat.lt_of_lt_of_le (show _ < 2 by decide) ?_; first | omega | (rw [List.length_replicate]; omega)) | (simp only [List.length_cons, List.length_nil]; omega)) | refine J.draw (by assumption) follows_ok (by kernel_rfl) (by decide +kernel) (by decide +kernel) ?_ | refine J.done ⟨rfl, rfl, rfl, ?_⟩ | constructor | (intro _; exfalso; omega) | intro _)
  rename_i id2
  refine J.keep [5, 2, 1] rfl ?_
  refine J.forN l.length (fun k E L => E = [(5, .int .i64 (k : Int)), (2, .pointer (some ⟨id2, 0, none⟩)), (1, .slice b l.length d)] ∧ L = [[(id2, .row [.slice a ls.length c] 24 .fixed)], []] ∧ ∀ j, j < k → sBad ls.length (nthAt 0 l j) = false) ⟨rfl, rfl, fun j hj => by omega⟩ ?_
  rintro k E L hk' ⟨rfl, rfl, hgo⟩ ih
  by_cases hlt : k < l.length
  · have bad : sBad ls.length (nthAt 0 l k) = true → mayB (rowsOf ls) l = false := by
      intro h
      unfold mayB
      rw [rowsOf_length, List.any_eq_true.2 ⟨_, List.mem_of_getElem? (nthAt_lt hlt), h⟩, Bool.not_true, Bool.and_false]
    have stay : sBad ls.length (nthAt 0 l k) = false → ∀ j, j < k + 1 → sBad ls.length (nthAt 0 l j) = false := by
      intro h j hj
      by_cases e : j = k
      · subst e; exact h
      · exact hgo j (by omega)
    have hd : nthAt eI.dflt l k = nthAt 0 l k := rfl
    repeat' (first | rfl | assumption | (apply stp tt_ok; constructor) | exact Rng.mk (by omega) (by omega) | exact Bd.mk (by first | omega | (refine Nat.lt_of_lt_of_le (show _ < 1 by decide) ?_; first | omega | (rw [List.length_replicate]; omega)) | (refine Nat.lt_of_lt_of_le (show _ < 2 by decide) ?_; first | omega | (rw [List.length_replicate]; omega)) | (simp only [List.length_cons, List.length_nil]; omega)) | refine J.draw (by assumption) follows_ok (by kernel_rfl) (by decide +kernel) (by decide +kernel) ?_ | refine J.done ⟨rfl, rfl, rfl, ?_⟩ | constructor | (intro _; exfalso; omega) | intro _)
    · rename_i h1
      exact J.give0 tt_ok rfl (.cons (.tmp rfl) .nil) (by rw [bad (by unfold sBad; rw [hd] at h1; simp only [decide_eq_true_eq]; omega)]; rfl)
    · rename_i h1 h2
      exact J.give0 tt_ok rfl (.cons (.tmp rfl) .nil) (by rw [bad (by unfold sBad; rw [hd] at h2; simp only [decide_eq_true_eq]; omega)]; rfl)
    · rename_i h1 h2
      exact J.keep [5, 2, 1] rfl (ih hlt _ _ ⟨rfl, rfl, stay (by unfold sBad; rw [hd] at h1 h2; simp only [decide_eq_false_iff_not]; omega)⟩)
  · have hany : l.any (sBad ls.length) = false := by
      rw [List.any_eq_false]
      intro x hx
      obtain ⟨j, hj, rfl⟩ := List.mem_iff_getElem.1 hx
      have := hgo j (by omega)
      rw [nthAt_get hj] at this
      rw [this]; simp
    repeat' (first | rfl | assumption | (apply stp tt_ok; constructor) | exact Rng.mk (by omega) (by omega) | exact Bd.mk (by first | omega | (refine Nat.lt_of_lt_of_le (show _ < 1 by decide) ?_; first | omega | (rw [List.length_replicate]; omega)) | (refine Nat.lt_of_lt_of_le (show _ < 2 by decide) ?_; first | omega | (rw [List.length_replicate]; omega)) | (simp only [List.length_cons, List.length_nil]; omega)) | refine J.draw (by assumption) follows_ok (by kernel_rfl) (by decide +kernel) (by decide +kernel) ?_ | refine J.done ⟨rfl, rfl, rfl, ?_⟩ | constructor | (intro _; exfalso; omega) | intro _)
    refine CallJ.val (f19_ok U M hr hfl) ?_
    repeat' (first | rfl | assumption | (apply stp tt_ok; constructor) | exact Rng.mk (by omega) (by omega) | exact Bd.mk (by first | omega | (refine Nat.lt_of_lt_of_le (show _ < 1 by decide) ?_; first | omega | (rw [List.length_replicate]; omega)) | (refine Nat.lt_of_lt_of_le (show _ < 2 by decide) ?_; first | omega | (rw [List.length_replicate]; omega)) | (simp only [List.length_cons, List.length_nil]; omega)) | refine J.draw (by assumption) follows_ok (by kernel_rfl) (by decide +kernel) (by decide +kernel) ?_ | refine J.done ⟨rfl, rfl, rfl, ?_⟩ | constructor | (intro _; exfalso; omega) | intro _)
    exact J.give0 tt_ok rfl (.cons (.tmp rfl) .nil) (by unfold mayB; rw [rowsOf_length, hany, Bool.not_false, Bool.and_true]; rfl)

/- ## ends -/
theorem f32_ok {hk : HKT} (U : HkU hk) (M : Imm) {a b : Option Addr} {c d : Nat} {ls : List (SlOf P2)} {l : List Int} (hr : Rows M eP a ls) (hl : IsSl M eI b l) (hg : mayB (rowsOf ls) l = true) :
    Con Tryz.prog hk 32 [.agg ⟨[.slice a ls.length c]⟩, .slice b l.length d] M [] (Gives (.bool (endsB l)) []) := by
  refine Con.of_body (U.no 32 rfl) Tryz.func32 rfl rfl Tryz.ntmps32 rfl rfl ?_
  have hout := hr.out
  have hll := hl.len
  have hlen := hout.len
  have hfl : (rowsOf ls).flatten.length ≤ 1099511627776 := by have := (netGood_spec (mayB_spec hg).1).2.2.1; omega
  repeat' (first | rfl | assumption | (apply stp tt_ok; constructor) | exact Rng.mk (by omega) (by omega) | exact Bd.mk (by first | omega | (refine Nat.lt_of_lt_of_le (show _ < 1 by decide) ?_; first | omega | (rw [List.length_replicate]; omega)) | (refine Nat.lt_of_lt_of_le (show _ < 2 by decide) ?_; first | omega | (rw [List.length_replicate]; omega)) | (simp only [List.length_cons, List.length_nil]; omega)) | refine J.draw (by assumption) follows_ok (by kernel_rfl) (by decide +kernel) (by decide +kernel) ?_ | refine J.done ⟨rfl, rfl, rfl, ?_⟩ | constructor | (intro _; exfalso; omega) | intro _)
  rename_i id2
  refine J.keep [5, 2, 1] rfl ?_
  refine J.forN l.length (fun k E L => E = [(5, .int .i64 (k : Int)), (2, .pointer (some ⟨id2, 0, none⟩)), (1, .slice b l.length d)] ∧ L = [[(id2, .row [.slice a ls.length c] 24 .fixed)], []] ∧ ∀ j, j < k → nthAt 0 l j ≠ 1) ⟨rfl, rfl, fun j hj => by omega⟩ ?_
  rintro k E L hk' ⟨rfl, rfl, hgo⟩ ih
  by_cases hlt : k < l.length
  · repeat' (first | rfl | assumption | (apply stp tt_ok; constructor) | exact Rng.mk (by omega) (by omega) | exact Bd.mk (by first | omega | (refine Nat.lt_of_lt_of_le (show _ < 1 by decide) ?_; first | omega | (rw [List.length_replicate]; omega)) | (refine Nat.lt_of_lt_of_le (show _ < 2 by decide) ?_; first | omega | (rw [List.length_replicate]; omega)) | (simp only [List.length_cons, List.length_nil]; omega)) | refine J.draw (by assumption) follows_ok (by kernel_rfl) (by decide +kernel) (by decide +kernel) ?_ | refine J.done ⟨rfl, rfl, rfl, ?_⟩ | constructor | (intro _; exfalso; omega) | intro _)
    refine CallJ.val (f57_ok U M hr hl hfl) ?_
    rw [hg]
    repeat' (first | rfl | assumption | (apply stp tt_ok; constructor) | exact Rng.mk (by omega) (by omega) | exact Bd.mk (by first | omega | (refine Nat.lt_of_lt_of_le (show _ < 1 by decide) ?_; first | omega | (rw [List.length_replicate]; omega)) | (refine Nat.lt_of_lt_of_le (show _ < 2 by decide) ?_; first | omega | (rw [List.length_replicate]; omega)) | (simp only [List.length_cons, List.length_nil]; omega)) | refine J.draw (by assumption) follows_ok (by kernel_rfl) (by decide +kernel) (by decide +kernel) ?_ | refine J.done ⟨rfl, rfl, rfl, ?_⟩ | constructor | (intro _; exfalso; omega) | intro _)
    · rename_i h1
      have h1 : nthAt 0 l k = 1 := h1
      have he : endsB l = true := endsB_iff.2 (by rw [← h1]; exact List.mem_of_getElem? (nthAt_lt hlt))
      exact J.give0 tt_ok rfl (.cons (.tmp rfl) .nil) (by rw [he]; rfl)
    · rename_i h1
      have h1 : nthAt 0 l k ≠ 1 := h1
      refine J.keep [5, 2, 1] rfl (ih hlt _ _ ⟨rfl, rfl, fun j hj => ?_⟩)
      by_cases e : j = k
      · subst e; exact h1
      · exact hgo j (by omega)
  · have he : endsB l = false := by
      cases h : endsB l with
      | false => rfl
      | true =>
        obtain ⟨j, hj, e⟩ := List.mem_iff_getElem.1 (endsB_iff.1 h)
        exact absurd (by rw [nthAt_get hj, e]) (hgo j (by omega))
    repeat' (first | rfl | assumption | (apply stp tt_ok; constructor) | exact Rng.mk (by omega) (by omega) | exact Bd.mk (by first | omega | (refine Nat.lt_of_lt_of_le (show _ < 1 by decide) ?_; first | omega | (rw [List.length_replicate]; omega)) | (refine Nat.lt_of_lt_of_le (show _ < 2 by decide) ?_; first | omega | (rw [List.length_replicate]; omega)) | (simp only [List.length_cons, List.length_nil]; omega)) | refine J.draw (by assumption) follows_ok (by kernel_rfl) (by decide +kernel) (by decide +kernel) ?_ | refine J.done ⟨rfl, rfl, rfl, ?_⟩ | constructor | (intro _; exfalso; omega) | intro _)
    exact J.give0 tt_ok rfl (.cons (.tmp rfl) .nil) (by rw [he]; rfl)
end
end Go.Proofs.YtmlgmgjakhbhjaaGreatDoor.Ab

namespace Go.Proofs.YtmlgmgjakhbhjaaGreatDoor.Ab
open Go Go.Proofs
noncomputable section

/-- What is marked below k. -/
def outOf (now : List Bool) (k : Nat) : List Int := ((List.range k).filter fun x : Nat => nthAt false now x).map fun x : Nat => ((x : Nat) : Int)
theorem outOf_succ (now : List Bool) (k : Nat) : outOf now (k + 1) = outOf now k ++ (if nthAt false now k then [(k : Int)] else []) := by
  unfold outOf
  rw [List.range_succ, List.filter_append, List.map_append]
  congr 1
  by_cases h : nthAt false now k = true <;> simp [h]
theorem outOf_len (now : List Bool) (k : Nat) : (outOf now k).length ≤ k := by
  unfold outOf
  rw [List.length_map]
  exact Nat.le_trans (List.length_filter_le _ _) (by simp)
theorem outOf_done {n : List (List P2)} (hg : netGood n = true) {G : List Int} (hG : NetIn n G) {now : List Bool} (h : Ind n (closeP n G) now) : outOf now n.length = closeP n G := by
  have hs := closeP_set hg hG
  refine rising_ext _ _ ?_ hs.up fun s => ?_
  · unfold outOf
    rw [List.pairwise_map]
    exact (List.pairwise_lt_range.filter _).imp fun h => by omega
  · unfold outOf
    simp only [List.mem_map, List.mem_filter, List.mem_range]
    constructor
    · rintro ⟨x, ⟨hx, hin⟩, rfl⟩
      exact (h.2 x hx).1 hin
    · intro hm
      obtain ⟨h1, h2⟩ := (closeP_in hg hG).1 s hm
      obtain ⟨x, rfl⟩ := Int.eq_ofNat_of_zero_le h1
      exact ⟨x, ⟨by omega, (h.2 x (by omega)).2 hm⟩, rfl⟩
attribute [local irreducible] J Con Lv CallJ DCon

set_option maxHeartbeats 4000000 in
theorem f58_ok {hk : HKT} (U : HkU hk) (M : Imm) {a : Option Addr} {c : Nat} {ls : List (SlOf P2)} {G : List Int} {ii : Nat} {inb : List Bool} (hr : Rows M eP a ls) (hg : netGood (rowsOf ls) = true) (hG : NetIn (rowsOf ls) G) (hind : Ind (rowsOf ls) G inb) :
    Con Tryz.prog hk 58 [.agg ⟨[.slice a ls.length c]⟩, .slice (some ⟨ii, 0, none⟩) ls.length ls.length] M [(ii, .row (inb.flatMap eB.enc) 4 .fixed)]
      (Returns fun v l' => v = .slice (segA l') (closeP (rowsOf ls) G).length (segC l') ∧ Own 3 eI l' (closeP (rowsOf ls) G)) := by
  refine Con.of_body (U.no 58 rfl) Tryz.func58 rfl rfl Tryz.ntmps58 rfl rfl ?_
  have hout := hr.out
  have hlen := hout.len
  have hn := U.n
  obtain ⟨g1, g2, g3, g4⟩ := netGood_spec hg
  rw [rowsOf_length] at g1 g2 g4
  repeat' (first | rfl | assumption | (apply stp tt_ok; constructor) | exact Rng.mk (by omega) (by omega) | exact Bd.mk (by first | omega | (refine Nat.lt_of_lt_of_le (show _ < 1 by decide) ?_; first | omega | (rw [List.length_replicate]; omega)) | (refine Nat.lt_of_lt_of_le (show _ < 2 by decide) ?_; first | omega | (rw [List.length_replicate]; omega)) | (simp only [List.length_cons, List.length_nil]; omega)) | refine J.draw (by assumption) follows_ok (by kernel_rfl) (by decide +kernel) (by decide +kernel) ?_ | refine J.done ⟨rfl, rfl, rfl, ?_⟩ | constructor | (intro _; exfalso; omega) | intro _)
  rename_i id2
  refine J.keep [5, 2, 1] rfl ?_
  refine J.while (fun mm E D' M' L rc' => ∃ (now : List Bool) (ch : Bool), mm = (if ch then outs now + 1 else 0) ∧ E = [(5, .bool ch), (2, .pointer (some ⟨id2, 0, none⟩)), (1, .slice (some ⟨ii, 0, none⟩) ls.length ls.length)] ∧ D' = [] ∧ M' = M ∧ rc' = .norm ∧
    L = [[(id2, .row [.slice a ls.length c] 24 .fixed)], [(ii, .row (now.flatMap eB.enc) 4 .fixed)]] ∧ Cls (rowsOf ls) G now ∧ (ch = false → ∀ s : Nat, s < ls.length → isIn now (s : Int) → ∀ t, ((-1 : Int), t) ∈ nthAt [] (rowsOf ls) s → isIn now t))
    (m := outs inb + 1) ⟨inb, true, rfl, rfl, rfl, rfl, rfl, rfl, hind.cls hG, fun h => by cases h⟩ ?_
  clear hind
  rintro mm E D' M' L rc' ⟨now, ch, rfl, rfl, rfl, rfl, rfl, rfl, hcls, hdone⟩ ihw
  have hnl := hcls.len
  rw [rowsOf_length] at hnl
  cases ch
  · have hind := hcls.done hg hG (fun s hs => hdone rfl s (by rw [rowsOf_length] at hs; exact hs))
    have hod := outOf_done hg hG hind
    rw [rowsOf_length] at hod
    clear hdone hcls ihw hind
    repeat' (first | rfl | assumption | (apply stp tt_ok; constructor) | exact Rng.mk (by omega) (by omega) | exact Bd.mk (by first | omega | (refine Nat.lt_of_lt_of_le (show _ < 1 by decide) ?_; first | omega | (rw [List.length_replicate]; omega)) | (refine Nat.lt_of_lt_of_le (show _ < 2 by decide) ?_; first | omega | (rw [List.length_replicate]; omega)) | (simp only [List.length_cons, List.length_nil]; omega)) | refine J.draw (by assumption) follows_ok (by kernel_rfl) (by decide +kernel) (by decide +kernel) ?_ | refine J.done ⟨rfl, rfl, rfl, ?_⟩ | constructor | (intro _; exfalso; omega) | intro _)
    refine J.addNil ?_
    refine J.keep [10, 9, 1] rfl ?_
    refine J.forN ls.length (fun s E L => ∃ sg, E = [(10, .int .i64 (s : Int)), (9, .slice (segA sg) (outOf now s).length (segC sg)), (1, .slice (some ⟨ii, 0, none⟩) ls.length ls.length)] ∧
      L = [sg, [(id2, .row [.slice a ls.length c] 24 .fixed)], [(ii, .row (now.flatMap eB.enc) 4 .fixed)]] ∧ Own 3 eI sg (outOf now s)) ⟨[], rfl, rfl, Own.nil _ _⟩ ?_
    rintro s E L hs' ⟨sg, rfl, rfl, hown⟩ ih
    have hol := outOf_len now s
    by_cases hlt : s < ls.length
    · have hsucc := outOf_succ now s
      repeat' (first | rfl | assumption | (apply stp tt_ok; constructor) | exact Rng.mk (by omega) (by omega) | exact Bd.mk (by first | omega | (refine Nat.lt_of_lt_of_le (show _ < 1 by decide) ?_; first | omega | (rw [List.length_replicate]; omega)) | (refine Nat.lt_of_lt_of_le (show _ < 2 by decide) ?_; first | omega | (rw [List.length_replicate]; omega)) | (simp only [List.length_cons, List.length_nil]; omega)) | refine J.draw (by assumption) follows_ok (by kernel_rfl) (by decide +kernel) (by decide +kernel) ?_ | refine J.done ⟨rfl, rfl, rfl, ?_⟩ | constructor | (intro _; exfalso; omega) | intro _)
      cases hcs : nthAt eB.dflt now s
      · repeat' (first | rfl | assumption | (apply stp tt_ok; constructor) | exact Rng.mk (by omega) (by omega) | exact Bd.mk (by first | omega | (refine Nat.lt_of_lt_of_le (show _ < 1 by decide) ?_; first | omega | (rw [List.length_replicate]; omega)) | (refine Nat.lt_of_lt_of_le (show _ < 2 by decide) ?_; first | omega | (rw [List.length_replicate]; omega)) | (simp only [List.length_cons, List.length_nil]; omega)) | refine J.draw (by assumption) follows_ok (by kernel_rfl) (by decide +kernel) (by decide +kernel) ?_ | refine J.done ⟨rfl, rfl, rfl, ?_⟩ | constructor | (intro _; exfalso; omega) | intro _)
        refine J.keep [10, 9, 1] rfl (ih hlt _ _ ⟨sg, ?_, rfl, ?_⟩)
        · rw [hsucc, show nthAt false now s = false from hcs]; simp
        · rw [hsucc, show nthAt false now s = false from hcs]; simpa using hown
      · repeat' (first | rfl | assumption | (apply stp tt_ok; constructor) | exact Rng.mk (by omega) (by omega) | exact Bd.mk (by first | omega | (refine Nat.lt_of_lt_of_le (show _ < 1 by decide) ?_; first | omega | (rw [List.length_replicate]; omega)) | (refine Nat.lt_of_lt_of_le (show _ < 2 by decide) ?_; first | omega | (rw [List.length_replicate]; omega)) | (simp only [List.length_cons, List.length_nil]; omega)) | refine J.draw (by assumption) follows_ok (by kernel_rfl) (by decide +kernel) (by decide +kernel) ?_ | refine J.done ⟨rfl, rfl, rfl, ?_⟩ | constructor | (intro _; exfalso; omega) | intro _)
        rename_i s' hs2
        refine J.sel [1, 1, 1] rfl ?_
        refine J.keep [10, 9, 1] rfl (ih hlt _ _ ⟨s', ?_, rfl, ?_⟩)
        · rw [hsucc, show nthAt false now s = true from hcs]; rfl
        · rw [hsucc, show nthAt false now s = true from hcs]; exact hs2
    · have hsl : s = ls.length := by omega
      subst hsl
      rw [hod] at hown ⊢
      repeat' (first | rfl | assumption | (apply stp tt_ok; constructor) | exact Rng.mk (by omega) (by omega) | exact Bd.mk (by first | omega | (refine Nat.lt_of_lt_of_le (show _ < 1 by decide) ?_; first | omega | (rw [List.length_replicate]; omega)) | (refine Nat.lt_of_lt_of_le (show _ < 2 by decide) ?_; first | omega | (rw [List.length_replicate]; omega)) | (simp only [List.length_cons, List.length_nil]; omega)) | refine J.draw (by assumption) follows_ok (by kernel_rfl) (by decide +kernel) (by decide +kernel) ?_ | refine J.done ⟨rfl, rfl, rfl, ?_⟩ | constructor | (intro _; exfalso; omega) | intro _)
      exact J.rets tt_ok rfl (.cons (.tmp rfl) .nil) rfl (s := sg) (R := [[(id2, .row [.slice a ls.length c] 24 .fixed)], [(ii, .row (now.flatMap eB.enc) 4 .fixed)]]) (by simp) ⟨rfl, hown⟩
  · repeat' (first | rfl | assumption | (apply stp tt_ok; constructor) | exact Rng.mk (by omega) (by omega) | exact Bd.mk (by first | omega | (refine Nat.lt_of_lt_of_le (show _ < 1 by decide) ?_; first | omega | (rw [List.length_replicate]; omega)) | (refine Nat.lt_of_lt_of_le (show _ < 2 by decide) ?_; first | omega | (rw [List.length_replicate]; omega)) | (simp only [List.length_cons, List.length_nil]; omega)) | refine J.draw (by assumption) follows_ok (by kernel_rfl) (by decide +kernel) (by decide +kernel) ?_ | refine J.done ⟨rfl, rfl, rfl, ?_⟩ | constructor | (intro _; exfalso; omega) | intro _)
    refine J.keep [6, 5, 2, 1] rfl ?_
    refine J.forN ls.length (fun s E L => ∃ (now' : List Bool) (ch : Bool), E = [(6, .int .i64 (s : Int)), (5, .bool ch), (2, .pointer (some ⟨id2, 0, none⟩)), (1, .slice (some ⟨ii, 0, none⟩) ls.length ls.length)] ∧
      L = [[(id2, .row [.slice a ls.length c] 24 .fixed)], [(ii, .row (now'.flatMap eB.enc) 4 .fixed)]] ∧ Cls (rowsOf ls) G now' ∧ outs now' ≤ outs now ∧ (ch = true → outs now' + 1 ≤ outs now) ∧ (ch = false → ∀ s' : Nat, s' < s → isIn now' (s' : Int) → ∀ t, ((-1 : Int), t) ∈ nthAt [] (rowsOf ls) s' → isIn now' t))
      ⟨now, false, rfl, rfl, hcls, Nat.le_refl _, (fun h => by cases h), fun _ s' hs' => by omega⟩ ?_
    clear hcls hdone hnl
    rintro s E L hs' ⟨now', ch, rfl, rfl, hc', ho1, ho2, hcl⟩ ih4
    have hin := hr.at s
    have hil := hin.len
    have hrn := rowsOf_nth ls s
    have hnl := hc'.len
    rw [rowsOf_length] at hnl
    by_cases hlt : s < ls.length
    · repeat' (first | rfl | assumption | (apply stp tt_ok; constructor) | exact Rng.mk (by omega) (by omega) | exact Bd.mk (by first | omega | (refine Nat.lt_of_lt_of_le (show _ < 1 by decide) ?_; first | omega | (rw [List.length_replicate]; omega)) | (refine Nat.lt_of_lt_of_le (show _ < 2 by decide) ?_; first | omega | (rw [List.length_replicate]; omega)) | (simp only [List.length_cons, List.length_nil]; omega)) | refine J.draw (by assumption) follows_ok (by kernel_rfl) (by decide +kernel) (by decide +kernel) ?_ | refine J.done ⟨rfl, rfl, rfl, ?_⟩ | constructor | (intro _; exfalso; omega) | intro _)
      refine J.keep [7, 6, 5, 2, 1] rfl ?_
      refine J.forN (nthAt (eSl P2).dflt ls s).l.length (fun j E L => ∃ (now' : List Bool) (ch : Bool), E = [(7, .int .i64 (j : Int)), (6, .int .i64 (s : Int)), (5, .bool ch), (2, .pointer (some ⟨id2, 0, none⟩)), (1, .slice (some ⟨ii, 0, none⟩) ls.length ls.length)] ∧
        L = [[(id2, .row [.slice a ls.length c] 24 .fixed)], [(ii, .row (now'.flatMap eB.enc) 4 .fixed)]] ∧ Cls (rowsOf ls) G now' ∧ outs now' ≤ outs now ∧ (ch = true → outs now' + 1 ≤ outs now) ∧ (ch = false → ∀ s' : Nat, s' < s → isIn now' (s' : Int) → ∀ t, ((-1 : Int), t) ∈ nthAt [] (rowsOf ls) s' → isIn now' t) ∧
        (ch = false → ∀ j', j' < j → (nthAt eP.dflt (nthAt (eSl P2).dflt ls s).l j').1 = -1 → isIn now' (nthAt eP.dflt (nthAt (eSl P2).dflt ls s).l j').2))
        ⟨now', ch, rfl, rfl, hc', ho1, ho2, hcl, fun _ j' hj' => by omega⟩ ?_
      clear hc' ho1 ho2 hcl hnl
      rintro j E L hj' ⟨now', ch, rfl, rfl, hc', ho1, ho2, hcl, hrow⟩ ih6
      have hnl := hc'.len
      rw [rowsOf_length] at hnl
      by_cases hjl : j < (nthAt (eSl P2).dflt ls s).l.length
      · have hmem : nthAt eP.dflt (nthAt (eSl P2).dflt ls s).l j ∈ nthAt [] (rowsOf ls) s := by rw [hrn]; exact List.mem_of_getElem? (nthAt_lt hjl)
        have hx := g4 s _ hmem
        have hxi : IsN (nthAt eP.dflt (nthAt (eSl P2).dflt ls s).l j).2 (nthAt eP.dflt (nthAt (eSl P2).dflt ls s).l j).2.toNat := by unfold IsN; omega
        have stay : ∀ {b : Bool}, (b = false → (nthAt eP.dflt (nthAt (eSl P2).dflt ls s).l j).1 = -1 → isIn now' (nthAt eP.dflt (nthAt (eSl P2).dflt ls s).l j).2) → (b = false → ∀ j', j' < j → (nthAt eP.dflt (nthAt (eSl P2).dflt ls s).l j').1 = -1 → isIn now' (nthAt eP.dflt (nthAt (eSl P2).dflt ls s).l j').2) →
            b = false → ∀ j', j' < j + 1 → (nthAt eP.dflt (nthAt (eSl P2).dflt ls s).l j').1 = -1 → isIn now' (nthAt eP.dflt (nthAt (eSl P2).dflt ls s).l j').2 := by
          intro b h1 h2 hb j' hj' he
          by_cases e : j' = j
          · subst e; exact h1 hb he
          · exact h2 hb j' (by omega) he
        repeat' (first | rfl | assumption | (apply stp tt_ok; constructor) | exact Rng.mk (by omega) (by omega) | exact Bd.mk (by first | omega | (refine Nat.lt_of_lt_of_le (show _ < 1 by decide) ?_; first | omega | (rw [List.length_replicate]; omega)) | (refine Nat.lt_of_lt_of_le (show _ < 2 by decide) ?_; first | omega | (rw [List.length_replicate]; omega)) | (simp only [List.length_cons, List.length_nil]; omega)) | refine J.draw (by assumption) follows_ok (by kernel_rfl) (by decide +kernel) (by decide +kernel) ?_ | refine J.done ⟨rfl, rfl, rfl, ?_⟩ | constructor | (intro _; exfalso; omega) | intro _)
        cases hcs : nthAt eB.dflt now' s
        · repeat' (first | rfl | assumption | (apply stp tt_ok; constructor) | exact Rng.mk (by omega) (by omega) | exact Bd.mk (by first | omega | (refine Nat.lt_of_lt_of_le (show _ < 1 by decide) ?_; first | omega | (rw [List.length_replicate]; omega)) | (refine Nat.lt_of_lt_of_le (show _ < 2 by decide) ?_; first | omega | (rw [List.length_replicate]; omega)) | (simp only [List.length_cons, List.length_nil]; omega)) | refine J.draw (by assumption) follows_ok (by kernel_rfl) (by decide +kernel) (by decide +kernel) ?_ | refine J.done ⟨rfl, rfl, rfl, ?_⟩ | constructor | (intro _; exfalso; omega) | intro _)
          refine J.keep [6, 5, 2, 1] rfl (ih4 hlt _ _ ⟨now', ch, rfl, rfl, hc', ho1, ho2, fun h s' hs'' hin' => ?_⟩)
          by_cases e : s' = s
          · subst e
            have hin' : nthAt eB.dflt now' s' = true := hin'
            rw [hcs] at hin'
            cases hin'
          · exact hcl h s' (by omega) hin'
        · repeat' (first | rfl | assumption | (apply stp tt_ok; constructor) | exact Rng.mk (by omega) (by omega) | exact Bd.mk (by first | omega | (refine Nat.lt_of_lt_of_le (show _ < 1 by decide) ?_; first | omega | (rw [List.length_replicate]; omega)) | (refine Nat.lt_of_lt_of_le (show _ < 2 by decide) ?_; first | omega | (rw [List.length_replicate]; omega)) | (simp only [List.length_cons, List.length_nil]; omega)) | refine J.draw (by assumption) follows_ok (by kernel_rfl) (by decide +kernel) (by decide +kernel) ?_ | refine J.done ⟨rfl, rfl, rfl, ?_⟩ | constructor | (intro _; exfalso; omega) | intro _)
          · rename_i he
            cases hct : nthAt eB.dflt now' (nthAt eP.dflt (nthAt (eSl P2).dflt ls s).l j).2.toNat
            · repeat' (first | rfl | assumption | (apply stp tt_ok; constructor) | exact Rng.mk (by omega) (by omega) | exact Bd.mk (by first | omega | (refine Nat.lt_of_lt_of_le (show _ < 1 by decide) ?_; first | omega | (rw [List.length_replicate]; omega)) | (refine Nat.lt_of_lt_of_le (show _ < 2 by decide) ?_; first | omega | (rw [List.length_replicate]; omega)) | (simp only [List.length_cons, List.length_nil]; omega)) | refine J.draw (by assumption) follows_ok (by kernel_rfl) (by decide +kernel) (by decide +kernel) ?_ | refine J.done ⟨rfl, rfl, rfl, ?_⟩ | constructor | (intro _; exfalso; omega) | intro _)
              refine J.dropHd ?_
              have hset := outs_set (k := (nthAt eP.dflt (nthAt (eSl P2).dflt ls s).l j).2.toNat) (by omega) hct
              refine J.keep [7, 6, 5, 2, 1] rfl (ih6 hjl _ _ ⟨_, true, rfl, rfl, hc'.add (by rw [rowsOf_length]; omega) ?_, by omega, (fun _ => by omega), (fun h => by cases h), fun h => by cases h⟩)
              rw [Int.toNat_of_nonneg hx.2.1]
              refine .step (hc'.sound s (by rw [rowsOf_length]; exact hlt) hcs) ?_
              rw [Int.toNat_natCast, ← he]
              exact hmem
            · repeat' (first | rfl | assumption | (apply stp tt_ok; constructor) | exact Rng.mk (by omega) (by omega) | exact Bd.mk (by first | omega | (refine Nat.lt_of_lt_of_le (show _ < 1 by decide) ?_; first | omega | (rw [List.length_replicate]; omega)) | (refine Nat.lt_of_lt_of_le (show _ < 2 by decide) ?_; first | omega | (rw [List.length_replicate]; omega)) | (simp only [List.length_cons, List.length_nil]; omega)) | refine J.draw (by assumption) follows_ok (by kernel_rfl) (by decide +kernel) (by decide +kernel) ?_ | refine J.done ⟨rfl, rfl, rfl, ?_⟩ | constructor | (intro _; exfalso; omega) | intro _)
              refine J.dropHd ?_
              exact J.keep [7, 6, 5, 2, 1] rfl (ih6 hjl _ _ ⟨now', ch, rfl, rfl, hc', ho1, ho2, hcl, stay (fun _ _ => hct) hrow⟩)
          · rename_i he
            refine J.dropHd ?_
            exact J.keep [7, 6, 5, 2, 1] rfl (ih6 hjl _ _ ⟨now', ch, rfl, rfl, hc', ho1, ho2, hcl, stay (fun _ e => absurd e he) hrow⟩)
      · repeat' (first | rfl | assumption | (apply stp tt_ok; constructor) | exact Rng.mk (by omega) (by omega) | exact Bd.mk (by first | omega | (refine Nat.lt_of_lt_of_le (show _ < 1 by decide) ?_; first | omega | (rw [List.length_replicate]; omega)) | (refine Nat.lt_of_lt_of_le (show _ < 2 by decide) ?_; first | omega | (rw [List.length_replicate]; omega)) | (simp only [List.length_cons, List.length_nil]; omega)) | refine J.draw (by assumption) follows_ok (by kernel_rfl) (by decide +kernel) (by decide +kernel) ?_ | refine J.done ⟨rfl, rfl, rfl, ?_⟩ | constructor | (intro _; exfalso; omega) | intro _)
        refine J.keep [6, 5, 2, 1] rfl (ih4 hlt _ _ ⟨now', ch, rfl, rfl, hc', ho1, ho2, fun h s' hs'' hin' t ht => ?_⟩)
        by_cases e : s' = s
        · subst e
          rw [hrn] at ht
          obtain ⟨j', hj'', e2⟩ := List.mem_iff_getElem.1 ht
          have := hrow h j' (by omega)
          rw [nthAt_get hj'', e2] at this
          exact this rfl
        · exact hcl h s' (by omega) hin' t ht
    · repeat' (first | rfl | assumption | (apply stp tt_ok; constructor) | exact Rng.mk (by omega) (by omega) | exact Bd.mk (by first | omega | (refine Nat.lt_of_lt_of_le (show _ < 1 by decide) ?_; first | omega | (rw [List.length_replicate]; omega)) | (refine Nat.lt_of_lt_of_le (show _ < 2 by decide) ?_; first | omega | (rw [List.length_replicate]; omega)) | (simp only [List.length_cons, List.length_nil]; omega)) | refine J.draw (by assumption) follows_ok (by kernel_rfl) (by decide +kernel) (by decide +kernel) ?_ | refine J.done ⟨rfl, rfl, rfl, ?_⟩ | constructor | (intro _; exfalso; omega) | intro _)
      refine J.keep [5, 2, 1] rfl (ihw _ _ _ _ _ _ ?_ ⟨now', ch, rfl, rfl, rfl, rfl, rfl, rfl, hc', fun h s' hs'' => hcl h s' (by omega)⟩)
      cases ch
      · simp
      · have := ho2 rfl
        simp only [if_true]
        omega
end
end Go.Proofs.YtmlgmgjakhbhjaaGreatDoor.Ab

namespace Go.Proofs.YtmlgmgjakhbhjaaGreatDoor.Ab
open Go Go.Proofs
noncomputable section

/-- What a label leads to, marked: the first i states of l, and the first k edges of the next. -/
def Mk (n : List (List P2)) (l : List Int) (c : Int) (i k : Nat) (next : List Bool) : Prop := next.length = n.length ∧ ∀ x : Nat, x < n.length →
  (isIn next (x : Int) ↔ (∃ i', i' < i ∧ i' < l.length ∧ (c, (x : Int)) ∈ nthAt [] n (nthAt 0 l i').toNat) ∨ (∃ k', k' < k ∧ k' < (nthAt [] n (nthAt 0 l i).toNat).length ∧ nthAt eP.dflt (nthAt [] n (nthAt 0 l i).toNat) k' = (c, (x : Int))))
theorem Mk.zero (n : List (List P2)) (l : List Int) (c : Int) : Mk n l c 0 0 (List.replicate n.length false) := by
  refine ⟨List.length_replicate, fun x hx => ?_⟩
  constructor
  · exact fun h => absurd h (isIn_replicate _ _)
  · rintro (⟨s', h, _⟩ | ⟨k', h, _⟩) <;> omega
theorem Mk.skip {n : List (List P2)} {l : List Int} {next : List Bool} {c : Int} {i k : Nat} (h : Mk n l c i k next) (hne : ∀ x : Nat, nthAt eP.dflt (nthAt [] n (nthAt 0 l i).toNat) k ≠ (c, (x : Int))) : Mk n l c i (k + 1) next := by
  refine ⟨h.1, fun x hx => (h.2 x hx).trans ?_⟩
  constructor
  · rintro (h1 | ⟨k', h2, h3⟩)
    · exact .inl h1
    · exact .inr ⟨k', by omega, h3⟩
  · rintro (h1 | ⟨k', h2, h3, h4⟩)
    · exact .inl h1
    · refine .inr ⟨k', ?_, h3, h4⟩
      rcases Nat.lt_or_ge k' k with h | h
      · exact h
      · have : k' = k := by omega
        subst this
        exact absurd h4 (hne x)
theorem Mk.put {n : List (List P2)} {l : List Int} {next : List Bool} {c : Int} {i k t : Nat} (h : Mk n l c i k next) (hk : k < (nthAt [] n (nthAt 0 l i).toNat).length) (he : nthAt eP.dflt (nthAt [] n (nthAt 0 l i).toNat) k = (c, (t : Int))) (ht : t < n.length) : Mk n l c i (k + 1) (next.set t true) := by
  refine ⟨by rw [List.length_set]; exact h.1, fun x hx => ?_⟩
  by_cases e : x = t
  · subst e
    exact ⟨fun _ => .inr ⟨k, by omega, hk, he⟩, fun _ => isIn_self (by rw [h.1]; exact ht)⟩
  · have e2 : isIn (next.set t true) (x : Int) ↔ isIn next (x : Int) := by
      unfold isIn
      rw [nthAt_set (by rw [h.1]; exact ht), if_neg (by simp; omega)]
    rw [e2, h.2 x hx]
    constructor
    · rintro (h1 | ⟨k', h2, h3⟩)
      · exact .inl h1
      · exact .inr ⟨k', by omega, h3⟩
    · rintro (h1 | ⟨k', h2, h3, h4⟩)
      · exact .inl h1
      · refine .inr ⟨k', ?_, h3, h4⟩
        rcases Nat.lt_or_ge k' k with h | h
        · exact h
        · have : k' = k := by omega
          subst this
          rw [he] at h4
          simp only [Prod.mk.injEq, true_and] at h4
          omega
theorem Mk.row {n : List (List P2)} {l : List Int} {next : List Bool} {c : Int} {i k : Nat} (h : Mk n l c i k next) (hi : i < l.length) (hk : (nthAt [] n (nthAt 0 l i).toNat).length ≤ k) : Mk n l c (i + 1) 0 next := by
  refine ⟨h.1, fun x hx => (h.2 x hx).trans ?_⟩
  constructor
  · rintro (⟨s', h1, h2, h3⟩ | ⟨k', h2, h3, h4⟩)
    · exact .inl ⟨s', by omega, h2, h3⟩
    · exact .inl ⟨i, by omega, hi, by rw [← h4]; exact List.mem_of_getElem? (nthAt_lt h3)⟩
  · rintro (⟨s', h1, h2, h3⟩ | ⟨k', h2, _⟩)
    · rcases Nat.lt_or_ge s' i with h | h
      · exact .inl ⟨s', h, h2, h3⟩
      · have : s' = i := by omega
        subst this
        obtain ⟨k', hk', e⟩ := List.mem_iff_getElem.1 h3
        exact .inr ⟨k', by omega, hk', by rw [nthAt_get hk', e]⟩
    · omega
theorem Mk.done {n : List (List P2)} {l : List Int} {next : List Bool} {c : Int} (h : Mk n l c l.length 0 next) : Ind n (gather n l (gStep c)) next := by
  refine ⟨h.1, fun x hx => (h.2 x hx).trans ?_⟩
  rw [mem_gStep]
  constructor
  · rintro (⟨s', h1, h2, h3⟩ | ⟨k', h2, _⟩)
    · exact ⟨nthAt 0 l s', List.mem_of_getElem? (nthAt_lt h2), h3⟩
    · omega
  · rintro ⟨s, hs, ht⟩
    obtain ⟨j, hj, rfl⟩ := List.mem_iff_getElem.1 hs
    exact .inl ⟨j, hj, hj, by rw [nthAt_get hj]; exact ht⟩
attribute [local irreducible] J Con Lv CallJ DCon

set_option maxHeartbeats 4000000 in
theorem f28_ok {hk : HKT} (U : HkU hk) (M : Imm) {a b : Option Addr} {c d : Nat} {ls : List (SlOf P2)} {l : List Int} (hr : Rows M eP a ls) (hl : IsSl M eI b l) (hg : mayB (rowsOf ls) l = true) :
    Con Tryz.prog hk 28 [.agg ⟨[.slice a ls.length c]⟩, .slice b l.length d] M []
      (Returns fun v l' => v = .agg ⟨[.slice (segA l') (closeP (rowsOf ls) l).length (segC l'), .bool true]⟩ ∧ Own 3 eI l' (closeP (rowsOf ls) l)) := by
  refine Con.of_body (U.no 28 rfl) Tryz.func28 rfl rfl Tryz.ntmps28 rfl rfl ?_
  have hout := hr.out
  have hlen := hout.len
  have hll := hl.len
  obtain ⟨hgn, hG⟩ := mayB_spec hg
  have hfl : (rowsOf ls).flatten.length ≤ 1099511627776 := by have := (netGood_spec hgn).2.2.1; omega
  obtain ⟨_, g2, _, _⟩ := netGood_spec hgn
  rw [rowsOf_length] at g2
  repeat' (first | rfl | assumption | (apply stp tt_ok; constructor) | exact Rng.mk (by omega) (by omega) | exact Bd.mk (by first | omega | (refine Nat.lt_of_lt_of_le (show _ < 1 by decide) ?_; first | omega | (rw [List.length_replicate]; omega)) | (refine Nat.lt_of_lt_of_le (show _ < 2 by decide) ?_; first | omega | (rw [List.length_replicate]; omega)) | (simp only [List.length_cons, List.length_nil]; omega)) | refine J.draw (by assumption) follows_ok (by kernel_rfl) (by decide +kernel) (by decide +kernel) ?_ | refine J.done ⟨rfl, rfl, rfl, ?_⟩ | constructor | (intro _; exfalso; omega) | intro _)
  refine CallJ.val (f57_ok U M hr hl hfl) ?_
  rw [hg]
  repeat' (first | rfl | assumption | (apply stp tt_ok; constructor) | exact Rng.mk (by omega) (by omega) | exact Bd.mk (by first | omega | (refine Nat.lt_of_lt_of_le (show _ < 1 by decide) ?_; first | omega | (rw [List.length_replicate]; omega)) | (refine Nat.lt_of_lt_of_le (show _ < 2 by decide) ?_; first | omega | (rw [List.length_replicate]; omega)) | (simp only [List.length_cons, List.length_nil]; omega)) | refine J.draw (by assumption) follows_ok (by kernel_rfl) (by decide +kernel) (by decide +kernel) ?_ | refine J.done ⟨rfl, rfl, rfl, ?_⟩ | constructor | (intro _; exfalso; omega) | intro _)
  rename_i id2 id4 ii
  refine J.keep [6, 5, 4, 2, 1] rfl ?_
  refine J.forN l.length (fun k E L => ∃ now : List Bool, E = [(6, .int .i64 (k : Int)), (5, .slice (some ⟨ii, 0, none⟩) ls.length ls.length), (4, .pointer (some ⟨id4, 0, none⟩)), (2, .pointer (some ⟨id2, 0, none⟩)), (1, .slice b l.length d)] ∧
    L = [[(ii, .row (now.flatMap eB.enc) 4 .fixed)], [(id4, .row [.slice none 0 0, .bool false] 74 .fixed)], [(id2, .row [.slice a ls.length c] 24 .fixed)], []] ∧ now.length = ls.length ∧ ∀ x : Nat, x < ls.length → (isIn now (x : Int) ↔ ∃ j, j < k ∧ j < l.length ∧ nthAt 0 l j = (x : Int)))
    ⟨_, rfl, rfl, List.length_replicate, fun x hx => ⟨fun h => absurd h (isIn_replicate _ _), fun ⟨j, hj, _⟩ => by omega⟩⟩ ?_
  rintro k E L hk' ⟨now, rfl, rfl, hnl, hnow⟩ ih
  by_cases hlt : k < l.length
  · have hx := hG.from' _ (List.mem_of_getElem? (nthAt_lt (d := 0) hlt))
    rw [rowsOf_length] at hx
    have hxi : IsN (nthAt eI.dflt l k) (nthAt 0 l k).toNat := by unfold IsN; show nthAt 0 l k = _; omega
    repeat' (first | rfl | assumption | (apply stp tt_ok; constructor) | exact Rng.mk (by omega) (by omega) | exact Bd.mk (by first | omega | (refine Nat.lt_of_lt_of_le (show _ < 1 by decide) ?_; first | omega | (rw [List.length_replicate]; omega)) | (refine Nat.lt_of_lt_of_le (show _ < 2 by decide) ?_; first | omega | (rw [List.length_replicate]; omega)) | (simp only [List.length_cons, List.length_nil]; omega)) | refine J.draw (by assumption) follows_ok (by kernel_rfl) (by decide +kernel) (by decide +kernel) ?_ | refine J.done ⟨rfl, rfl, rfl, ?_⟩ | constructor | (intro _; exfalso; omega) | intro _)
    refine J.keep [6, 5, 4, 2, 1] rfl (ih hlt _ _ ⟨_, rfl, rfl, by rw [List.length_set]; exact hnl, fun x hx' => ?_⟩)
    unfold isIn
    rw [nthAt_set (by omega)]
    by_cases e : (x : Int).toNat = (nthAt 0 l k).toNat
    · rw [if_pos e]
      exact ⟨fun _ => ⟨k, by omega, hlt, by omega⟩, fun _ => rfl⟩
    · rw [if_neg e]
      refine (hnow x hx').trans ⟨fun ⟨j, h1, h2, h3⟩ => ⟨j, by omega, h2, h3⟩, fun ⟨j, h1, h2, h3⟩ => ⟨j, ?_, h2, h3⟩⟩
      rcases Nat.lt_or_ge j k with h | h
      · exact h
      · have : j = k := by omega
        subst this; exact absurd (by rw [h3]) e
  · have hind : Ind (rowsOf ls) l now := ⟨by rw [rowsOf_length]; exact hnl, fun x hx => by
      rw [rowsOf_length] at hx
      refine (hnow x hx).trans ⟨fun ⟨j, h1, h2, h3⟩ => by rw [← h3]; exact List.mem_of_getElem? (nthAt_lt h2), fun h => ?_⟩
      obtain ⟨j, hj, e⟩ := List.mem_iff_getElem.1 h
      exact ⟨j, by omega, hj, by rw [nthAt_get hj, e]⟩⟩
    repeat' (first | rfl | assumption | (apply stp tt_ok; constructor) | exact Rng.mk (by omega) (by omega) | exact Bd.mk (by first | omega | (refine Nat.lt_of_lt_of_le (show _ < 1 by decide) ?_; first | omega | (rw [List.length_replicate]; omega)) | (refine Nat.lt_of_lt_of_le (show _ < 2 by decide) ?_; first | omega | (rw [List.length_replicate]; omega)) | (simp only [List.length_cons, List.length_nil]; omega)) | refine J.draw (by assumption) follows_ok (by kernel_rfl) (by decide +kernel) (by decide +kernel) ?_ | refine J.done ⟨rfl, rfl, rfl, ?_⟩ | constructor | (intro _; exfalso; omega) | intro _)
    refine CallJ.ret (Pick.perm .here) (f58_ok U M hr hgn hG hind) ?_
    rintro v l' ⟨rfl, hown⟩
    repeat' (first | rfl | assumption | (apply stp tt_ok; constructor) | exact Rng.mk (by omega) (by omega) | exact Bd.mk (by first | omega | (refine Nat.lt_of_lt_of_le (show _ < 1 by decide) ?_; first | omega | (rw [List.length_replicate]; omega)) | (refine Nat.lt_of_lt_of_le (show _ < 2 by decide) ?_; first | omega | (rw [List.length_replicate]; omega)) | (simp only [List.length_cons, List.length_nil]; omega)) | refine J.draw (by assumption) follows_ok (by kernel_rfl) (by decide +kernel) (by decide +kernel) ?_ | refine J.done ⟨rfl, rfl, rfl, ?_⟩ | constructor | (intro _; exfalso; omega) | intro _)
    refine J.rets tt_ok rfl (.cons (.cell rfl (.pt (.there .here) rfl rfl rfl rfl)) .nil) rfl (s := l') (R := [[(id4, .row [.slice (segA l') (closeP (rowsOf ls) l).length (segC l'), .bool true] 74 .fixed)], [(id2, .row [.slice a ls.length c] 24 .fixed)]]) (by simp) ⟨rfl, hown⟩
end
end Go.Proofs.YtmlgmgjakhbhjaaGreatDoor.Ab

namespace Go.Proofs.YtmlgmgjakhbhjaaGreatDoor.Ab
open Go Go.Proofs
noncomputable section
attribute [local irreducible] J Con Lv CallJ DCon

set_option maxHeartbeats 2000000 in
theorem f30_ok {hk : HKT} (U : HkU hk) (M : Imm) {a b : Option Addr} {c d : Nat} {ls : List (SlOf P2)} {l : List Int} (hr : Rows M eP a ls) (hl : IsSl M eI b l) (hg : mayB (rowsOf ls) l = true) {lab : Int} (h0 : 0 ≤ lab) :
    Con Tryz.prog hk 30 [.agg ⟨[.slice a ls.length c]⟩, .slice b l.length d, .int .i64 lab] M []
      (Returns fun v l' => v = .agg ⟨[.slice (segA l') (stepP (rowsOf ls) l lab).length (segC l'), .bool true]⟩ ∧ Own 3 eI l' (stepP (rowsOf ls) l lab)) := by
  refine Con.of_body (U.no 30 rfl) Tryz.func30 rfl rfl Tryz.ntmps30 rfl rfl ?_
  have hout := hr.out
  have hlen := hout.len
  have hll := hl.len
  obtain ⟨hgn, hG⟩ := mayB_spec hg
  have hfl : (rowsOf ls).flatten.length ≤ 1099511627776 := by have := (netGood_spec hgn).2.2.1; omega
  obtain ⟨_, g2, _, g4⟩ := netGood_spec hgn
  rw [rowsOf_length] at g2 g4
  have hn := U.n
  repeat' (first | rfl | assumption | (apply stp tt_ok; constructor) | exact Rng.mk (by omega) (by omega) | exact Bd.mk (by first | omega | (refine Nat.lt_of_lt_of_le (show _ < 1 by decide) ?_; first | omega | (rw [List.length_replicate]; omega)) | (refine Nat.lt_of_lt_of_le (show _ < 2 by decide) ?_; first | omega | (rw [List.length_replicate]; omega)) | (simp only [List.length_cons, List.length_nil]; omega)) | refine J.draw (by assumption) follows_ok (by kernel_rfl) (by decide +kernel) (by decide +kernel) ?_ | refine J.done ⟨rfl, rfl, rfl, ?_⟩ | constructor | (intro _; exfalso; omega) | intro _)
  refine CallJ.val (f57_ok U M hr hl hfl) ?_
  rw [hg]
  repeat' (first | rfl | assumption | (apply stp tt_ok; constructor) | exact Rng.mk (by omega) (by omega) | exact Bd.mk (by first | omega | (refine Nat.lt_of_lt_of_le (show _ < 1 by decide) ?_; first | omega | (rw [List.length_replicate]; omega)) | (refine Nat.lt_of_lt_of_le (show _ < 2 by decide) ?_; first | omega | (rw [List.length_replicate]; omega)) | (simp only [List.length_cons, List.length_nil]; omega)) | refine J.draw (by assumption) follows_ok (by kernel_rfl) (by decide +kernel) (by decide +kernel) ?_ | refine J.done ⟨rfl, rfl, rfl, ?_⟩ | constructor | (intro _; exfalso; omega) | intro _)
  rename_i id3 id6 hnl0 ii
  refine J.keep [8, 7, 6, 3, 2, 1] rfl ?_
  refine J.forN l.length (fun i E L => ∃ now : List Bool, E = [(8, .int .i64 (i : Int)), (7, .slice (some ⟨ii, 0, none⟩) ls.length ls.length), (6, .pointer (some ⟨id6, 0, none⟩)), (3, .pointer (some ⟨id3, 0, none⟩)), (2, .int .i64 lab), (1, .slice b l.length d)] ∧
    L = [[(ii, .row (now.flatMap eB.enc) 4 .fixed)], [(id6, .row [.slice none 0 0, .bool false] 74 .fixed)], [(id3, .row [.slice a ls.length c] 24 .fixed)], []] ∧ Mk (rowsOf ls) l lab i 0 now)
    ⟨_, rfl, rfl, by have := Mk.zero (rowsOf ls) l lab; rw [rowsOf_length] at this; exact this⟩ ?_
  rintro i E L hi' ⟨now, rfl, rfl, hmk⟩ ih
  have hnl := hmk.1
  rw [rowsOf_length] at hnl
  by_cases hlt : i < l.length
  · have hx := hG.from' _ (List.mem_of_getElem? (nthAt_lt (d := 0) hlt))
    rw [rowsOf_length] at hx
    have hxi : IsN (nthAt eI.dflt l i) (nthAt 0 l i).toNat := by unfold IsN; show nthAt 0 l i = _; omega
    have hin := hr.at (nthAt 0 l i).toNat
    have hil := hin.len
    have hrn := rowsOf_nth ls (nthAt 0 l i).toNat
    repeat' (first | rfl | assumption | (apply stp tt_ok; constructor) | exact Rng.mk (by omega) (by omega) | exact Bd.mk (by first | omega | (refine Nat.lt_of_lt_of_le (show _ < 1 by decide) ?_; first | omega | (rw [List.length_replicate]; omega)) | (refine Nat.lt_of_lt_of_le (show _ < 2 by decide) ?_; first | omega | (rw [List.length_replicate]; omega)) | (simp only [List.length_cons, List.length_nil]; omega)) | refine J.draw (by assumption) follows_ok (by kernel_rfl) (by decide +kernel) (by decide +kernel) ?_ | refine J.done ⟨rfl, rfl, rfl, ?_⟩ | constructor | (intro _; exfalso; omega) | intro _)
    refine J.keep [9, 8, 7, 6, 3, 2, 1] rfl ?_
    refine J.forN (nthAt (eSl P2).dflt ls (nthAt 0 l i).toNat).l.length (fun k E L => ∃ now : List Bool, E = [(9, .int .i64 (k : Int)), (8, .int .i64 (i : Int)), (7, .slice (some ⟨ii, 0, none⟩) ls.length ls.length), (6, .pointer (some ⟨id6, 0, none⟩)), (3, .pointer (some ⟨id3, 0, none⟩)), (2, .int .i64 lab), (1, .slice b l.length d)] ∧
      L = [[(ii, .row (now.flatMap eB.enc) 4 .fixed)], [(id6, .row [.slice none 0 0, .bool false] 74 .fixed)], [(id3, .row [.slice a ls.length c] 24 .fixed)], []] ∧ Mk (rowsOf ls) l lab i k now)
      ⟨now, rfl, rfl, hmk⟩ ?_
    clear hmk hnl
    rintro k E L hk' ⟨now, rfl, rfl, hmk⟩ ih2
    have hnl := hmk.1
    rw [rowsOf_length] at hnl
    by_cases hkl : k < (nthAt (eSl P2).dflt ls (nthAt 0 l i).toNat).l.length
    · have hmem : nthAt eP.dflt (nthAt (eSl P2).dflt ls (nthAt 0 l i).toNat).l k ∈ nthAt [] (rowsOf ls) (nthAt 0 l i).toNat := by rw [hrn]; exact List.mem_of_getElem? (nthAt_lt hkl)
      have hto := g4 _ _ hmem
      have hti : IsN (nthAt eP.dflt (nthAt (eSl P2).dflt ls (nthAt 0 l i).toNat).l k).2 (nthAt eP.dflt (nthAt (eSl P2).dflt ls (nthAt 0 l i).toNat).l k).2.toNat := by unfold IsN; omega
      repeat' (first | rfl | assumption | (apply stp tt_ok; constructor) | exact Rng.mk (by omega) (by omega) | exact Bd.mk (by first | omega | (refine Nat.lt_of_lt_of_le (show _ < 1 by decide) ?_; first | omega | (rw [List.length_replicate]; omega)) | (refine Nat.lt_of_lt_of_le (show _ < 2 by decide) ?_; first | omega | (rw [List.length_replicate]; omega)) | (simp only [List.length_cons, List.length_nil]; omega)) | refine J.draw (by assumption) follows_ok (by kernel_rfl) (by decide +kernel) (by decide +kernel) ?_ | refine J.done ⟨rfl, rfl, rfl, ?_⟩ | constructor | (intro _; exfalso; omega) | intro _)
      · rename_i he
        refine J.dropHd ?_
        refine J.keep [9, 8, 7, 6, 3, 2, 1] rfl (ih2 hkl _ _ ⟨_, rfl, rfl, hmk.put (by rw [hrn]; exact hkl) ?_ (by rw [rowsOf_length]; omega)⟩)
        rw [hrn, ← he, Int.toNat_of_nonneg hto.2.1]
      · rename_i he
        refine J.dropHd ?_
        refine J.keep [9, 8, 7, 6, 3, 2, 1] rfl (ih2 hkl _ _ ⟨_, rfl, rfl, hmk.skip fun x hx' => ?_⟩)
        rw [hrn] at hx'
        exact he (by rw [hx'])
    · repeat' (first | rfl | assumption | (apply stp tt_ok; constructor) | exact Rng.mk (by omega) (by omega) | exact Bd.mk (by first | omega | (refine Nat.lt_of_lt_of_le (show _ < 1 by decide) ?_; first | omega | (rw [List.length_replicate]; omega)) | (refine Nat.lt_of_lt_of_le (show _ < 2 by decide) ?_; first | omega | (rw [List.length_replicate]; omega)) | (simp only [List.length_cons, List.length_nil]; omega)) | refine J.draw (by assumption) follows_ok (by kernel_rfl) (by decide +kernel) (by decide +kernel) ?_ | refine J.done ⟨rfl, rfl, rfl, ?_⟩ | constructor | (intro _; exfalso; omega) | intro _)
      exact J.keep [8, 7, 6, 3, 2, 1] rfl (ih hlt _ _ ⟨now, rfl, rfl, hmk.row hlt (by rw [hrn]; omega)⟩)
  · have hil : i = l.length := by omega
    subst hil
    have hind := hmk.done
    repeat' (first | rfl | assumption | (apply stp tt_ok; constructor) | exact Rng.mk (by omega) (by omega) | exact Bd.mk (by first | omega | (refine Nat.lt_of_lt_of_le (show _ < 1 by decide) ?_; first | omega | (rw [List.length_replicate]; omega)) | (refine Nat.lt_of_lt_of_le (show _ < 2 by decide) ?_; first | omega | (rw [List.length_replicate]; omega)) | (simp only [List.length_cons, List.length_nil]; omega)) | refine J.draw (by assumption) follows_ok (by kernel_rfl) (by decide +kernel) (by decide +kernel) ?_ | refine J.done ⟨rfl, rfl, rfl, ?_⟩ | constructor | (intro _; exfalso; omega) | intro _)
    refine CallJ.ret (Pick.perm .here) (f58_ok U M hr hgn (gather_in hgn _ _) hind) ?_
    rintro v l' ⟨rfl, hown⟩
    repeat' (first | rfl | assumption | (apply stp tt_ok; constructor) | exact Rng.mk (by omega) (by omega) | exact Bd.mk (by first | omega | (refine Nat.lt_of_lt_of_le (show _ < 1 by decide) ?_; first | omega | (rw [List.length_replicate]; omega)) | (refine Nat.lt_of_lt_of_le (show _ < 2 by decide) ?_; first | omega | (rw [List.length_replicate]; omega)) | (simp only [List.length_cons, List.length_nil]; omega)) | refine J.draw (by assumption) follows_ok (by kernel_rfl) (by decide +kernel) (by decide +kernel) ?_ | refine J.done ⟨rfl, rfl, rfl, ?_⟩ | constructor | (intro _; exfalso; omega) | intro _)
    exact J.rets tt_ok rfl (.cons (.cell rfl (.pt (.there .here) rfl rfl rfl rfl)) .nil) rfl (s := l') (R := [[(id6, .row [.slice (segA l') (stepP (rowsOf ls) l lab).length (segC l'), .bool true] 74 .fixed)], [(id3, .row [.slice a ls.length c] 24 .fixed)]]) (by simp [stepP]) ⟨rfl, hown⟩

theorem lab_uniq {E : List (List P2)} {B : List Bool} (hA : autoGood E B = true) {s : Nat} (hs : s < E.length) {i j : Nat} (hi : i < (nthAt [] E s).length) (hj : j < (nthAt [] E s).length) (h : (nthAt eP.dflt (nthAt [] E s) i).1 = (nthAt eP.dflt (nthAt [] E s) j).1) : i = j := by
  have hup := autoGood_up hA hs
  generalize nthAt [] E s = r at hup hi hj h
  rw [List.pairwise_iff_getElem] at hup
  rw [nthAt_get hi, nthAt_get hj] at h
  rcases Nat.lt_trichotomy i j with h1 | h1 | h1
  · have := hup i j (by simpa using hi) (by simpa using hj) h1
    simp only [List.getElem_map] at this
    omega
  · exact h1
  · have := hup j i (by simpa using hj) (by simpa using hi) h1
    simp only [List.getElem_map] at this
    omega

theorem f17_ok {hk : HKT} (U : HkU hk) (M : Imm) {a b r : Option Addr} {c d q : Nat} {ls : List (SlOf P2)} {B : List Bool} {row : List Int} (hr : Rows M eP a ls) (hb : IsSl M eB b B) (hw : IsSl M eI r row) :
    Con Tryz.prog hk 17 [.agg ⟨[.slice a ls.length c, .slice b B.length d]⟩, .slice r row.length q] M [] (Gives (.bool (takesP (rowsOf ls) B row)) []) := by
  refine Con.of_body (U.no 17 rfl) Tryz.func17 rfl rfl Tryz.ntmps17 rfl rfl ?_
  have hout := hr.out
  have hlen := hout.len
  have hblen := hb.len
  have hwlen := hw.len
  have hn := U.n
  repeat' (first | rfl | assumption | (apply stp tt_ok; constructor) | exact Rng.mk (by omega) (by omega) | exact Bd.mk (by first | omega | (refine Nat.lt_of_lt_of_le (show _ < 1 by decide) ?_; first | omega | (rw [List.length_replicate]; omega)) | (refine Nat.lt_of_lt_of_le (show _ < 2 by decide) ?_; first | omega | (rw [List.length_replicate]; omega)) | (simp only [List.length_cons, List.length_nil]; omega)) | refine J.draw (by assumption) follows_ok (by kernel_rfl) (by decide +kernel) (by decide +kernel) ?_ | refine J.done ⟨rfl, rfl, rfl, ?_⟩ | constructor | (intro _; exfalso; omega) | intro _)
  refine CallJ.val (f15_ok U M hr hb) ?_
  unfold takesP
  cases hA : autoGood (rowsOf ls) B
  · repeat' (first | rfl | assumption | (apply stp tt_ok; constructor) | exact Rng.mk (by omega) (by omega) | exact Bd.mk (by first | omega | (refine Nat.lt_of_lt_of_le (show _ < 1 by decide) ?_; first | omega | (rw [List.length_replicate]; omega)) | (refine Nat.lt_of_lt_of_le (show _ < 2 by decide) ?_; first | omega | (rw [List.length_replicate]; omega)) | (simp only [List.length_cons, List.length_nil]; omega)) | refine J.draw (by assumption) follows_ok (by kernel_rfl) (by decide +kernel) (by decide +kernel) ?_ | refine J.done ⟨rfl, rfl, rfl, ?_⟩ | constructor | (intro _; exfalso; omega) | intro _)
    exact J.give0 tt_ok rfl (.cons (.tmp rfl) .nil) rfl
  · obtain ⟨g1, g2, g3, g4⟩ := autoGood_spec hA
    rw [rowsOf_length] at g1 g2 g3 g4
    rw [Bool.true_and]
    repeat' (first | rfl | assumption | (apply stp tt_ok; constructor) | exact Rng.mk (by omega) (by omega) | exact Bd.mk (by first | omega | (refine Nat.lt_of_lt_of_le (show _ < 1 by decide) ?_; first | omega | (rw [List.length_replicate]; omega)) | (refine Nat.lt_of_lt_of_le (show _ < 2 by decide) ?_; first | omega | (rw [List.length_replicate]; omega)) | (simp only [List.length_cons, List.length_nil]; omega)) | refine J.draw (by assumption) follows_ok (by kernel_rfl) (by decide +kernel) (by decide +kernel) ?_ | refine J.done ⟨rfl, rfl, rfl, ?_⟩ | constructor | (intro _; exfalso; omega) | intro _)
    rename_i id
    refine J.keep [6, 5, 2, 1] rfl ?_
    refine J.forN row.length (fun i E L => ∃ s : Nat, E = [(6, .int .i64 (i : Int)), (5, .int .i64 (s : Int)), (2, .pointer (some ⟨id, 0, none⟩)), (1, .slice r row.length q)] ∧ L = [[(id, .row [.slice a ls.length c, .slice b B.length d] 27 .fixed)], []] ∧
      s < ls.length ∧ takesGo (rowsOf ls) B s (row.drop i) = takesGo (rowsOf ls) B 0 row) ⟨0, rfl, rfl, by omega, rfl⟩ ?_
    rintro i E L hi' ⟨s, rfl, rfl, hs, htk⟩ ih
    have hin := hr.at s
    have hil := hin.len
    have hrn := rowsOf_nth ls s
    by_cases hlt : i < row.length
    · have hdrop : row.drop i = nthAt eI.dflt row i :: row.drop (i + 1) := by
        rw [List.drop_eq_getElem_cons hlt, nthAt_get hlt]
      rw [hdrop, takesGo_cons, hrn] at htk
      have huniq := fun i j => lab_uniq hA (s := s) (by rw [rowsOf_length]; exact hs) (i := i) (j := j)
      rw [hrn] at huniq
      repeat' (first | rfl | assumption | (apply stp tt_ok; constructor) | exact Rng.mk (by omega) (by omega) | exact Bd.mk (by first | omega | (refine Nat.lt_of_lt_of_le (show _ < 1 by decide) ?_; first | omega | (rw [List.length_replicate]; omega)) | (refine Nat.lt_of_lt_of_le (show _ < 2 by decide) ?_; first | omega | (rw [List.length_replicate]; omega)) | (simp only [List.length_cons, List.length_nil]; omega)) | refine J.draw (by assumption) follows_ok (by kernel_rfl) (by decide +kernel) (by decide +kernel) ?_ | refine J.done ⟨rfl, rfl, rfl, ?_⟩ | constructor | (intro _; exfalso; omega) | intro _)
      refine J.keep [8, 7, 6, 5, 2, 1] rfl ?_
      refine J.forN (nthAt (eSl P2).dflt ls s).l.length (fun k E L => ∃ to : Int, E = [(8, .int .i64 (k : Int)), (7, .int .i64 to), (6, .int .i64 (i : Int)), (5, .int .i64 (s : Int)), (2, .pointer (some ⟨id, 0, none⟩)), (1, .slice r row.length q)] ∧ L = [[(id, .row [.slice a ls.length c, .slice b B.length d] 27 .fixed)], []] ∧
        ((to = -1 ∧ ∀ j, j < k → (nthAt eP.dflt (nthAt (eSl P2).dflt ls s).l j).1 ≠ nthAt eI.dflt row i) ∨ ∃ j, j < k ∧ j < (nthAt (eSl P2).dflt ls s).l.length ∧ (nthAt eP.dflt (nthAt (eSl P2).dflt ls s).l j).1 = nthAt eI.dflt row i ∧ to = (nthAt eP.dflt (nthAt (eSl P2).dflt ls s).l j).2))
        ⟨-1, rfl, rfl, .inl ⟨rfl, fun j hj => by omega⟩⟩ ?_
      rintro k E L hk' ⟨to, rfl, rfl, hto⟩ ih2
      by_cases hkl : k < (nthAt (eSl P2).dflt ls s).l.length
      · repeat' (first | rfl | assumption | (apply stp tt_ok; constructor) | exact Rng.mk (by omega) (by omega) | exact Bd.mk (by first | omega | (refine Nat.lt_of_lt_of_le (show _ < 1 by decide) ?_; first | omega | (rw [List.length_replicate]; omega)) | (refine Nat.lt_of_lt_of_le (show _ < 2 by decide) ?_; first | omega | (rw [List.length_replicate]; omega)) | (simp only [List.length_cons, List.length_nil]; omega)) | refine J.draw (by assumption) follows_ok (by kernel_rfl) (by decide +kernel) (by decide +kernel) ?_ | refine J.done ⟨rfl, rfl, rfl, ?_⟩ | constructor | (intro _; exfalso; omega) | intro _)
        · rename_i he
          exact J.keep [8, 7, 6, 5, 2, 1] rfl (ih2 hkl _ _ ⟨_, rfl, rfl, .inr ⟨k, by omega, hkl, he, rfl⟩⟩)
        · rename_i he
          refine J.keep [8, 7, 6, 5, 2, 1] rfl (ih2 hkl _ _ ⟨to, rfl, rfl, ?_⟩)
          rcases hto with ⟨h1, h2⟩ | ⟨j, h1, h2⟩
          · refine .inl ⟨h1, fun j hj => ?_⟩
            by_cases e : j = k
            · subst e; exact he
            · exact h2 j (by omega)
          · exact .inr ⟨j, by omega, h2⟩
      · rcases idxB_spec eP.dflt (fun x : P2 => decide (x.1 = nthAt eI.dflt row i)) (nthAt (eSl P2).dflt ls s).l 0 with ⟨h1, h2⟩ | ⟨j, h1, h2, h3⟩
        · rw [if_pos h1] at htk
          have hm1 : to = -1 := by
            rcases hto with ⟨h, _⟩ | ⟨j, _, h4, h5, _⟩
            · exact h
            · have := h2 _ (List.mem_of_getElem? (nthAt_lt (d := eP.dflt) h4))
              rw [h5] at this
              simp at this
          repeat' (first | rfl | assumption | (apply stp tt_ok; constructor) | exact Rng.mk (by omega) (by omega) | exact Bd.mk (by first | omega | (refine Nat.lt_of_lt_of_le (show _ < 1 by decide) ?_; first | omega | (rw [List.length_replicate]; omega)) | (refine Nat.lt_of_lt_of_le (show _ < 2 by decide) ?_; first | omega | (rw [List.length_replicate]; omega)) | (simp only [List.length_cons, List.length_nil]; omega)) | refine J.draw (by assumption) follows_ok (by kernel_rfl) (by decide +kernel) (by decide +kernel) ?_ | refine J.done ⟨rfl, rfl, rfl, ?_⟩ | constructor | (intro _; exfalso; omega) | intro _)
          exact J.give0 tt_ok rfl (.cons (.tmp rfl) .nil) (by rw [← htk]; rfl)
        · rw [Nat.zero_add] at h2
          have h3 := of_decide_eq_true h3
          rw [if_neg (by omega), h2, Int.toNat_natCast] at htk
          have hg := g4 s j hs (by rw [hrn]; exact h1)
          rw [hrn] at hg
          have hto' : to = (nthAt eP.dflt (nthAt (eSl P2).dflt ls s).l j).2 := by
            rcases hto with ⟨_, h⟩ | ⟨j', _, h4, h5, h6⟩
            · exact absurd h3 (h j (by omega))
            · rw [h6, huniq j' j h4 h1 (by rw [h5, h3])]
          obtain ⟨t, ht⟩ := Int.eq_ofNat_of_zero_le hg.1
          rw [ht, Int.toNat_natCast] at htk
          rw [ht] at hto' hg
          subst hto'
          repeat' (first | rfl | assumption | (apply stp tt_ok; constructor) | exact Rng.mk (by omega) (by omega) | exact Bd.mk (by first | omega | (refine Nat.lt_of_lt_of_le (show _ < 1 by decide) ?_; first | omega | (rw [List.length_replicate]; omega)) | (refine Nat.lt_of_lt_of_le (show _ < 2 by decide) ?_; first | omega | (rw [List.length_replicate]; omega)) | (simp only [List.length_cons, List.length_nil]; omega)) | refine J.draw (by assumption) follows_ok (by kernel_rfl) (by decide +kernel) (by decide +kernel) ?_ | refine J.done ⟨rfl, rfl, rfl, ?_⟩ | constructor | (intro _; exfalso; omega) | intro _)
          exact J.keep [6, 5, 2, 1] rfl (ih hlt _ _ ⟨t, rfl, rfl, by omega, htk⟩)
    · have : i = row.length := by omega
      subst this
      rw [List.drop_length, takesGo_nil] at htk
      repeat' (first | rfl | assumption | (apply stp tt_ok; constructor) | exact Rng.mk (by omega) (by omega) | exact Bd.mk (by first | omega | (refine Nat.lt_of_lt_of_le (show _ < 1 by decide) ?_; first | omega | (rw [List.length_replicate]; omega)) | (refine Nat.lt_of_lt_of_le (show _ < 2 by decide) ?_; first | omega | (rw [List.length_replicate]; omega)) | (simp only [List.length_cons, List.length_nil]; omega)) | refine J.draw (by assumption) follows_ok (by kernel_rfl) (by decide +kernel) (by decide +kernel) ?_ | refine J.done ⟨rfl, rfl, rfl, ?_⟩ | constructor | (intro _; exfalso; omega) | intro _)
      exact J.give0 tt_ok rfl (.cons (.tmp rfl) .nil) (by rw [← htk]; rfl)
end
end Go.Proofs.YtmlgmgjakhbhjaaGreatDoor.Ab

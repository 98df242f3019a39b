/- Plain laws, 4: what a net's automaton is: its edges, its states; it takes what the net goes through. Walks, 12: may an automaton be; what it takes. Plain laws, 5: an automaton takes a row just if the net goes through it; all its states are met. Walks, 13: what an automaton takes. Walks, 14: what a net goes through. Walks, 15: the law SubsetWalks. -/
import Derived.Test.YtmlgmgjakhbhjaaGreatDoorZK
import Derived.Test.YtmlgmgjakhbhjaaGreatDoorZW3
import Derived.Test.YtmlgmgjakhbhjaaGreatDoorZJ3
namespace Go.Proofs.YtmlgmgjakhbhjaaGreatDoor.Ab
open Go
open Go.Lib (compact compactUpTo keeps)

/- ## compacting what is sorted -/
theorem compactUpTo_sorted {l : List Int} (hl : l.Pairwise (· ≤ ·)) : ∀ m, m ≤ l.length → (compactUpTo l.toArray m).Pairwise (· < ·) ∧ (∀ x, x ∈ compactUpTo l.toArray m ↔ ∃ j, j < m ∧ nthAt 0 l j = x)
  | 0, _ => by
    unfold compactUpTo
    exact ⟨by simp, fun x => by simp⟩
  | m + 1, h => by
    obtain ⟨h1, h2⟩ := compactUpTo_sorted hl m (by omega)
    have hget : ∀ j, j < l.length → l.toArray[j]! = nthAt 0 l j := fun j hj => by
      rw [nthAt_get hj]; simp [hj]
    have hle : ∀ i j, i ≤ j → j < l.length → nthAt 0 l i ≤ nthAt 0 l j := fun i j hij hj => by
      rcases Nat.lt_or_ge i j with h | h
      · rw [nthAt_get (by omega), nthAt_get hj]
        exact List.pairwise_iff_getElem.1 hl i j (by omega) hj h
      · have : i = j := by omega
        subst this; exact Int.le_refl _
    rw [Lib.compactUpTo_succ]
    by_cases hk : keeps l.toArray m = true
    · rw [if_pos hk]
      have hne : m = 0 ∨ nthAt 0 l m ≠ nthAt 0 l (m - 1) := by
        unfold keeps at hk
        have := of_decide_eq_true hk
        rwa [hget _ (by omega), hget _ (by omega)] at this
      refine ⟨?_, fun x => ?_⟩
      · rw [List.pairwise_append]
        refine ⟨h1, by simp, fun x hx y hy => ?_⟩
        cases List.mem_singleton.1 hy
        obtain ⟨j, hj, rfl⟩ := (h2 x).1 hx
        rw [hget _ (by omega)]
        rcases hne with h0 | h0
        · omega
        · have := hle j (m - 1) (by omega) (by omega)
          have := hle (m - 1) m (by omega) (by omega)
          omega
      · rw [List.mem_append, h2, List.mem_singleton, hget _ (by omega)]
        constructor
        · rintro (⟨j, hj, e⟩ | e)
          · exact ⟨j, by omega, e⟩
          · exact ⟨m, by omega, e.symm⟩
        · rintro ⟨j, hj, e⟩
          rcases Nat.lt_or_ge j m with h | h
          · exact .inl ⟨j, h, e⟩
          · have : j = m := by omega
            subst this; exact .inr e.symm
    · rw [if_neg hk, List.append_nil]
      have heq : m ≠ 0 ∧ nthAt 0 l m = nthAt 0 l (m - 1) := by
        unfold keeps at hk
        have hk := fun h => hk (decide_eq_true h)
        rw [hget _ (by omega), hget _ (by omega)] at hk
        by_cases h0 : m = 0
        · exact absurd (.inl h0) hk
        · refine ⟨h0, ?_⟩
          by_cases h1 : nthAt 0 l m = nthAt 0 l (m - 1)
          · exact h1
          · exact absurd (.inr h1) hk
      refine ⟨h1, fun x => ?_⟩
      rw [h2]
      constructor
      · rintro ⟨j, hj, e⟩; exact ⟨j, by omega, e⟩
      · rintro ⟨j, hj, e⟩
        rcases Nat.lt_or_ge j m with h | h
        · exact ⟨j, h, e⟩
        · have : j = m := by omega
          subst this
          exact ⟨j - 1, by omega, by rw [← heq.2]; exact e⟩
theorem compact_sorted {l : List Int} (hl : l.Pairwise (· ≤ ·)) : (compact l).Pairwise (· < ·) ∧ ∀ x, x ∈ compact l ↔ x ∈ l := by
  obtain ⟨h1, h2⟩ := compactUpTo_sorted hl l.length (Nat.le_refl _)
  refine ⟨h1, fun x => (h2 x).trans ?_⟩
  constructor
  · rintro ⟨j, hj, rfl⟩
    rw [nthAt_get hj]; exact List.getElem_mem hj
  · intro hx
    obtain ⟨j, hj, e⟩ := List.mem_iff_getElem.1 hx
    exact ⟨j, hj, by rw [nthAt_get hj, e]⟩

/- ## labels and steps -/
theorem labelsP_up (n : List (List P2)) (l : List Int) : (labelsP n l).Pairwise (· < ·) := (compact_sorted (sortI_le _)).1
theorem mem_labelsP {n : List (List P2)} {l : List Int} {c : Int} : c ∈ labelsP n l ↔ c ≠ -1 ∧ ∃ s ∈ l, ∃ t, (c, t) ∈ nthAt [] n s.toNat := by
  unfold labelsP
  rw [(compact_sorted (sortI_le _)).2, (sortI_perm _).mem_iff]
  unfold gather
  simp only [List.mem_flatMap, List.mem_filterMap]
  constructor
  · rintro ⟨s, hs, x, hx, hg⟩
    unfold gLab at hg
    split at hg
    · cases hg
    · rename_i hne
      cases hg
      exact ⟨hne, s, hs, x.2, hx⟩
  · rintro ⟨hne, s, hs, t, ht⟩
    exact ⟨s, hs, (c, t), ht, by unfold gLab; rw [if_neg hne]⟩
theorem mem_gStep {n : List (List P2)} {l : List Int} {c t : Int} : t ∈ gather n l (gStep c) ↔ ∃ s ∈ l, (c, t) ∈ nthAt [] n s.toNat := by
  unfold gather
  simp only [List.mem_flatMap, List.mem_filterMap]
  constructor
  · rintro ⟨s, hs, x, hx, hg⟩
    unfold gStep at hg
    split at hg
    · rename_i e
      cases hg
      exact ⟨s, hs, by rw [← e]; exact hx⟩
    · cases hg
  · rintro ⟨s, hs, ht⟩
    exact ⟨s, hs, (c, t), ht, by unfold gStep; rw [if_pos rfl]⟩

/-- What is reached is a finite set. -/
theorem closeP_set {n : List (List P2)} (_hg : netGood n = true) {l : List Int} (hl : NetIn n l) : IsSet (Reach n l) (closeP n l) := by
  have h : ∃ out, IsSet (Reach n l) out := by
    classical
    refine ⟨((List.range n.length).map (fun (i : Nat) => (i : Int))).filter fun s => decide (Reach n l s), ?_, fun s => ?_⟩
    · refine List.Pairwise.filter _ ?_
      rw [List.pairwise_map]
      exact (List.pairwise_lt_range).imp fun h => by omega
    · rw [List.mem_filter, decide_eq_true_eq]
      constructor
      · exact fun h => h.2
      · intro h
        obtain ⟨h1, h2⟩ := h.in hl
        exact ⟨List.mem_map.2 ⟨s.toNat, List.mem_range.2 (by omega), by omega⟩, h⟩
  unfold closeP
  rw [dif_pos h]
  exact Classical.choose_spec h
theorem Reach.nil {n : List (List P2)} {s : Int} (h : Reach n [] s) : False := by
  induction h with
  | seed h => cases h
  | step _ _ ih => exact ih
theorem closeP_nil (n : List (List P2)) (hg : netGood n = true) : closeP n [] = [] := by
  have h := closeP_set hg (l := []) ⟨fun s x hx => ((netGood_spec hg).2.2.2 s x hx).2, fun s hs => by cases hs⟩
  match hc : closeP n [] with
  | [] => rfl
  | x :: r => exact ((h.mem x).1 (by rw [hc]; exact .head _)).nil.elim
theorem stepP_none {n : List (List P2)} (hg : netGood n = true) {l : List Int} {c : Int} (h : c ∉ labelsP n l) (hc : c ≠ -1) : stepP n l c = [] := by
  unfold stepP
  have : gather n l (gStep c) = [] := by
    match hq : gather n l (gStep c) with
    | [] => rfl
    | t :: r =>
      obtain ⟨s, hs, ht⟩ := mem_gStep.1 (show t ∈ gather n l (gStep c) by rw [hq]; exact .head _)
      exact absurd (mem_labelsP.2 ⟨hc, s, hs, t, ht⟩) h
  rw [this]
  exact closeP_nil n hg

/- ## the automaton's edges -/
theorem stP_at {most : Int} {S S' : List (List Int)} {l : List Int} {i : Nat} (h : stP most S l = some (i, S')) : S'[i]? = some l ∧ S <+: S' ∧ (S'.length ≤ S.length + 1) ∧ (S.length < S'.length → i = S.length) := by
  rcases stP_some h with ⟨h1, rfl⟩ | ⟨_, rfl, rfl, _⟩
  · have := (placeOf_lt h1).2.2
    simp only [Nat.sub_zero] at this
    exact ⟨this, List.prefix_refl _, by omega, by omega⟩
  · refine ⟨?_, List.prefix_append _ _, by simp, fun _ => rfl⟩
    rw [List.getElem?_append_right (Nat.le_refl _), Nat.sub_self]; rfl
theorem pre_get {α : Type} {S S' : List α} {i : Nat} {x : α} (h : S <+: S') (hi : S[i]? = some x) : S'[i]? = some x := by
  obtain ⟨t, rfl⟩ := h
  rw [List.getElem?_append_left (List.getElem?_eq_some_iff.1 hi).1]; exact hi

/-- An edge as it should be. -/
def EdgeOk (n : List (List P2)) (S : List (List Int)) (l : List Int) (x : P2) : Prop := 0 ≤ x.2 ∧ S[x.2.toNat]? = some (stepP n l x.1)
theorem EdgeOk.mono {n : List (List P2)} {S S' : List (List Int)} {l : List Int} {x : P2} (h : EdgeOk n S l x) (hp : S <+: S') : EdgeOk n S' l x := ⟨h.1, pre_get hp h.2⟩
theorem flP_edges {n : List (List P2)} {most : Int} {l : List Int} : ∀ (cs : List Int) {S S' : List (List Int)} {row row' : List P2}, flP n most l cs S row = some (row', S') → (∀ x ∈ row, EdgeOk n S l x) →
    S <+: S' ∧ row'.map (·.1) = row.map (·.1) ++ cs ∧ (∀ x ∈ row', EdgeOk n S' l x) ∧ (∀ x ∈ row, x ∈ row') ∧ ∀ j, S.length ≤ j → j < S'.length → ∃ x ∈ row', x.2 = (j : Int)
  | [], S, S', row, row', h, hr => by cases h; exact ⟨List.prefix_refl _, by simp, hr, fun _ h => h, fun j h1 h2 => by omega⟩
  | c :: cs, S, S', row, row', h, hr => by
    unfold flP at h
    cases hs : stP most S (stepP n l c) with
    | none => rw [hs] at h; cases h
    | some p =>
      obtain ⟨i, S1⟩ := p
      rw [hs] at h
      obtain ⟨g1, g2, g3, g4⟩ := stP_at hs
      obtain ⟨h1, h2, h3, h4, h5⟩ := flP_edges cs h (by
        intro x hx
        rcases List.mem_append.1 hx with hx | hx
        · exact (hr x hx).mono g2
        · cases List.mem_singleton.1 hx
          exact ⟨by simp, by simpa using g1⟩)
      refine ⟨g2.trans h1, by rw [h2]; simp, h3, fun x hx => h4 x (List.mem_append_left _ hx), fun j hj1 hj2 => ?_⟩
      rcases Nat.lt_or_ge j S1.length with hlt | hge
      · have : j = S.length := by omega
        subst this
        have e := g4 (by omega)
        exact ⟨(c, (i : Int)), h4 _ (List.mem_append_right _ (.head _)), by rw [e]⟩
      · exact h5 j hge hj2
/-- What holds of the states and edges made so far. -/
structure MadeP (n : List (List P2)) (S : List (List Int)) (E : List (List P2)) : Prop where
  edges : ∀ i l, i < E.length → S[i]? = some l → (nthAt [] E i).map (·.1) = labelsP n l ∧ ∀ x ∈ nthAt [] E i, EdgeOk n S l x
  met : ∀ j, 1 ≤ j → j < S.length → ∃ i, i < j ∧ i < E.length ∧ ∃ x ∈ nthAt [] E i, x.2 = (j : Int)
theorem ofP_made {n : List (List P2)} {most : Int} : ∀ (k : Nat) {S S' : List (List Int)} {E E' : List (List P2)}, ofP n most k S E = some (S', E') → E.length ≤ S.length → MadeP n S E → MadeP n S' E' ∧ S <+: S'
  | 0, S, S', E, E', h, _, hm => by cases h; exact ⟨hm, List.prefix_refl _⟩
  | k + 1, S, S', E, E', h, hle, hm => by
    unfold ofP at h
    cases hl : S[E.length]? with
    | none => rw [hl] at h; cases h; exact ⟨hm, List.prefix_refl _⟩
    | some l =>
      rw [hl] at h
      simp only at h
      have hlt := (List.getElem?_eq_some_iff.1 hl).1
      cases hf : flP n most l (labelsP n l) S [] with
      | none => rw [hf] at h; cases h
      | some p =>
        obtain ⟨row, S1⟩ := p
        rw [hf] at h
        obtain ⟨h1, h2, h3, _, h5⟩ := flP_edges _ hf (by intro x hx; cases hx)
        have hlen1 : S.length ≤ S1.length := h1.length_le
        have hat : ∀ i, i < E.length → nthAt [] (E ++ [row]) i = nthAt [] E i := fun i hi => by
          rw [nthAt_get (by simp; omega), nthAt_get hi, List.getElem_append_left hi]
        have hat2 : nthAt [] (E ++ [row]) E.length = row := by
          rw [nthAt_get (by simp)]; simp
        obtain ⟨r1, r2⟩ := ofP_made k h (by simp; omega) {
          edges := fun i m hi hS => by
            rcases Nat.lt_or_ge i E.length with hi' | hi'
            · rw [hat i hi']
              have hS0 : S[i]? = some m := by
                rw [← hS]
                obtain ⟨t, rfl⟩ := h1
                rw [List.getElem?_append_left (by omega)]
              obtain ⟨a, b⟩ := hm.edges i m hi' hS0
              exact ⟨a, fun x hx => (b x hx).mono h1⟩
            · have e : i = E.length := by simp at hi; omega
              subst e
              rw [hat2]
              have e2 : m = l := by
                have := pre_get h1 hl
                rw [this] at hS
                exact (Option.some.inj hS).symm
              subst e2
              exact ⟨by rw [h2]; rfl, h3⟩
          met := fun j hj1 hj2 => by
            rcases Nat.lt_or_ge j S.length with hj | hj
            · obtain ⟨i, a, b, x, hx, e⟩ := hm.met j hj1 hj
              exact ⟨i, a, by simp; omega, x, by rw [hat i b]; exact hx, e⟩
            · obtain ⟨x, hx, e⟩ := h5 j hj hj2
              exact ⟨E.length, by omega, by simp, x, by rw [hat2]; exact hx, e⟩ }
        exact ⟨r1, h1.trans r2⟩
theorem subsetP_made {n : List (List P2)} {most : Int} {S : List (List Int)} {E : List (List P2)} (h : subsetP n most = some (S, E)) : MadeP n S E ∧ S[0]? = some (closeP n [0]) := by
  unfold subsetP at h
  cases hs : stP (min most 2000) [] (closeP n [0]) with
  | none => rw [hs] at h; cases h
  | some p =>
    obtain ⟨i, S0⟩ := p
    rw [hs] at h
    simp only at h
    have hS0 : S0 = [closeP n [0]] := by
      rcases stP_some hs with ⟨h4, _⟩ | ⟨_, _, rfl, h5⟩
      · cases h4
      · rfl
    subst hS0
    obtain ⟨h1, h2⟩ := ofP_made _ h (by simp) ⟨fun i l hi => by simp at hi, fun j h1 h2 => by simp at h2; omega⟩
    exact ⟨h1, pre_get h2 rfl⟩
end Go.Proofs.YtmlgmgjakhbhjaaGreatDoor.Ab

namespace Go.Proofs.YtmlgmgjakhbhjaaGreatDoor.Ab
open Go Go.Proofs
noncomputable section
attribute [local irreducible] J Con Lv CallJ DCon

/-- May an edge be, at its place of a row? -/
def eOk (n : Nat) (r : List P2) (i : Nat) : Bool := decide (0 ≤ (nthAt eP.dflt r i).1 ∧ 0 ≤ (nthAt eP.dflt r i).2 ∧ (nthAt eP.dflt r i).2 < n) && (Nat.beq i 0 || decide ((nthAt eP.dflt r (i - 1)).1 < (nthAt eP.dflt r i).1))
def rowOk (n : Nat) (r : List P2) : Bool := (List.range r.length).all (eOk n r)
/-- May an automaton be? -/
def autoGood (E : List (List P2)) (B : List Bool) : Bool := decide (1 ≤ E.length ∧ E.length ≤ 2000 ∧ B.length = E.length) && E.all (rowOk E.length)

theorem range_false {p : Nat → Bool} {n i : Nat} (h : i < n) (hp : p i = false) : (List.range n).all p = false := by
  rw [List.all_eq_false]
  exact ⟨i, List.mem_range.2 h, by rw [hp]; simp⟩

set_option maxRecDepth 10000 in
theorem f14_ok {hk : HKT} (U : HkU hk) (M : Imm) {a b : Option Addr} {c d : Nat} {ls : List (SlOf P2)} {B : List Bool} (hr : Rows M eP a ls) (hb : IsSl M eB b B) :
    Con Tryz.prog hk 14 [.agg ⟨[.slice a ls.length c, .slice b B.length d]⟩] M [] (Gives (.bool (autoGood (rowsOf ls) B)) []) := by
  refine Con.of_body (U.no 14 rfl) Tryz.func14 rfl rfl Tryz.ntmps14 rfl rfl ?_
  have hout := hr.out
  have hlen := hout.len
  have hblen := hb.len
  have hn := U.n
  repeat' (first | rfl | assumption | (apply stp tt_ok; constructor) | exact Rng.mk (by omega) (by omega) | exact Bd.mk (by first | omega | (refine Nat.lt_of_lt_of_le (show _ < 1 by decide) ?_; first | omega | (rw [List.length_replicate]; omega)) | (refine Nat.lt_of_lt_of_le (show _ < 2 by decide) ?_; first | omega | (rw [List.length_replicate]; omega)) | (simp only [List.length_cons, List.length_nil]; omega)) | refine J.draw (by assumption) follows_ok (by kernel_rfl) (by decide +kernel) (by decide +kernel) ?_ | refine J.done ⟨rfl, rfl, rfl, ?_⟩ | constructor | (intro _; exfalso; omega) | intro _)
  · refine J.give0 tt_ok rfl (.cons (.tmp rfl) .nil) ?_
    rename_i h1
    have : autoGood (rowsOf ls) B = false := by unfold autoGood; rw [decide_eq_false (by rw [rowsOf_length]; omega)]; rfl
    rw [this]; rfl
  · refine J.give0 tt_ok rfl (.cons (.tmp rfl) .nil) ?_
    have : autoGood (rowsOf ls) B = false := by unfold autoGood; rw [decide_eq_false (by rw [rowsOf_length]; omega)]; rfl
    rw [this]; rfl
  · rename_i id h1 h2 h3
    refine J.keep [27, 26, 25, 3] rfl ?_
    refine J.forN ls.length (fun k E L => E = [(27, .int .i64 (k : Int)), (26, .int .i64 ls.length), (25, .slice a ls.length c), (3, .int .i64 ls.length)] ∧ L = [[(id, .row [.slice a ls.length c, .slice b B.length d] 27 .fixed)], []] ∧
      ∀ j, j < k → rowOk ls.length (nthAt [] (rowsOf ls) j) = true) ⟨rfl, rfl, fun j hj => by omega⟩ ?_
    rintro k E L hk' ⟨rfl, rfl, hrows⟩ ih
    have hin := hr.at k
    have hil := hin.len
    have hrn := rowsOf_nth ls k
    have bad : rowOk ls.length (nthAt [] (rowsOf ls) k) = false → k < ls.length → autoGood (rowsOf ls) B = false := by
      intro h hlt
      unfold autoGood
      rw [all_false (d := []) (k := k) (by simpa using hlt) (by rw [rowsOf_length]; exact h), Bool.and_false]
    by_cases hlt : k < ls.length
    · repeat' (first | rfl | assumption | (apply stp tt_ok; constructor) | exact Rng.mk (by omega) (by omega) | exact Bd.mk (by first | omega | (refine Nat.lt_of_lt_of_le (show _ < 1 by decide) ?_; first | omega | (rw [List.length_replicate]; omega)) | (refine Nat.lt_of_lt_of_le (show _ < 2 by decide) ?_; first | omega | (rw [List.length_replicate]; omega)) | (simp only [List.length_cons, List.length_nil]; omega)) | refine J.draw (by assumption) follows_ok (by kernel_rfl) (by decide +kernel) (by decide +kernel) ?_ | refine J.done ⟨rfl, rfl, rfl, ?_⟩ | constructor | (intro _; exfalso; omega) | intro _)
      refine J.keep [33, 32, 31, 5, 27, 26, 25, 3] rfl ?_
      refine J.forN (nthAt (eSl P2).dflt ls k).l.length (fun i E L => E = [(33, .int .i64 (i : Int)), (32, .int .i64 (nthAt (eSl P2).dflt ls k).l.length), (31, .slice (nthAt (eSl P2).dflt ls k).a (nthAt (eSl P2).dflt ls k).l.length (nthAt (eSl P2).dflt ls k).c), (5, .slice (nthAt (eSl P2).dflt ls k).a (nthAt (eSl P2).dflt ls k).l.length (nthAt (eSl P2).dflt ls k).c), (27, .int .i64 (k : Int)), (26, .int .i64 ls.length), (25, .slice a ls.length c), (3, .int .i64 ls.length)] ∧
        L = [[(id, .row [.slice a ls.length c, .slice b B.length d] 27 .fixed)], []] ∧ ∀ j, j < i → eOk ls.length (nthAt [] (rowsOf ls) k) j = true) ⟨rfl, rfl, fun j hj => by omega⟩ ?_
      rintro i E L hi' ⟨rfl, rfl, hedges⟩ ih2
      rw [hrn] at bad hedges
      have hstep : eOk ls.length (nthAt (eSl P2).dflt ls k).l i = true → ∀ j, j < i + 1 → eOk ls.length (nthAt [] (rowsOf ls) k) j = true := by
        intro h j hj
        rw [hrn]
        by_cases e : j = i
        · rw [e]; exact h
        · exact hedges j (by omega)
      by_cases hil2 : i < (nthAt (eSl P2).dflt ls k).l.length
      · have bad2 : eOk ls.length (nthAt (eSl P2).dflt ls k).l i = false → autoGood (rowsOf ls) B = false := fun h => bad (range_false hil2 h) hlt
        rcases Nat.eq_zero_or_pos i with h0 | h0
        · subst h0
          repeat' (first | rfl | assumption | (apply stp tt_ok; constructor) | exact Rng.mk (by omega) (by omega) | exact Bd.mk (by first | omega | (refine Nat.lt_of_lt_of_le (show _ < 1 by decide) ?_; first | omega | (rw [List.length_replicate]; omega)) | (refine Nat.lt_of_lt_of_le (show _ < 2 by decide) ?_; first | omega | (rw [List.length_replicate]; omega)) | (simp only [List.length_cons, List.length_nil]; omega)) | refine J.draw (by assumption) follows_ok (by kernel_rfl) (by decide +kernel) (by decide +kernel) ?_ | refine J.done ⟨rfl, rfl, rfl, ?_⟩ | constructor | (intro _; exfalso; omega) | intro _)
          · exact J.give0 tt_ok rfl (.cons (.tmp rfl) .nil) (by rw [bad2 (by unfold eOk; rw [decide_eq_false (by omega)]; rfl)]; rfl)
          · exact J.give0 tt_ok rfl (.cons (.tmp rfl) .nil) (by rw [bad2 (by unfold eOk; rw [decide_eq_false (by omega)]; rfl)]; rfl)
          · exact J.give0 tt_ok rfl (.cons (.tmp rfl) .nil) (by rw [bad2 (by unfold eOk; rw [decide_eq_false (by omega)]; rfl)]; rfl)
          · refine J.dropHd ?_
            refine J.keep [33, 32, 31, 5, 27, 26, 25, 3] rfl (ih2 hil2 _ _ ⟨rfl, rfl, hstep ?_⟩)
            unfold eOk; rw [decide_eq_true (by omega)]; rfl
        · have hp : IsN ((i : Int) - 1) (i - 1) := by unfold IsN; omega
          have hb0 : Nat.beq i 0 = false := by cases i with | zero => omega | succ i => rfl
          repeat' (first | rfl | assumption | (apply stp tt_ok; constructor) | exact Rng.mk (by omega) (by omega) | exact Bd.mk (by first | omega | (refine Nat.lt_of_lt_of_le (show _ < 1 by decide) ?_; first | omega | (rw [List.length_replicate]; omega)) | (refine Nat.lt_of_lt_of_le (show _ < 2 by decide) ?_; first | omega | (rw [List.length_replicate]; omega)) | (simp only [List.length_cons, List.length_nil]; omega)) | refine J.draw (by assumption) follows_ok (by kernel_rfl) (by decide +kernel) (by decide +kernel) ?_ | refine J.done ⟨rfl, rfl, rfl, ?_⟩ | constructor | (intro _; exfalso; omega) | intro _)
          · exact J.give0 tt_ok rfl (.cons (.tmp rfl) .nil) (by rw [bad2 (by unfold eOk; rw [decide_eq_false (by omega)]; rfl)]; rfl)
          · exact J.give0 tt_ok rfl (.cons (.tmp rfl) .nil) (by rw [bad2 (by unfold eOk; rw [decide_eq_false (by omega)]; rfl)]; rfl)
          · exact J.give0 tt_ok rfl (.cons (.tmp rfl) .nil) (by rw [bad2 (by unfold eOk; rw [decide_eq_false (by omega)]; rfl)]; rfl)
          · exact J.give0 tt_ok rfl (.cons (.tmp rfl) .nil) (by rw [bad2 (by unfold eOk; rw [hb0, decide_eq_false (p := _ < _) (by omega), Bool.or_false, Bool.and_false])]; rfl)
          · refine J.dropHd ?_
            refine J.keep [33, 32, 31, 5, 27, 26, 25, 3] rfl (ih2 hil2 _ _ ⟨rfl, rfl, hstep ?_⟩)
            unfold eOk; rw [decide_eq_true (by omega), hb0, decide_eq_true (by omega)]; rfl
      · have hrow : rowOk ls.length (nthAt [] (rowsOf ls) k) = true := by
          unfold rowOk
          rw [List.all_eq_true]
          intro j hj
          have hj := List.mem_range.1 hj
          rw [hrn] at hj ⊢
          exact hedges j (by omega)
        repeat' (first | rfl | assumption | (apply stp tt_ok; constructor) | exact Rng.mk (by omega) (by omega) | exact Bd.mk (by first | omega | (refine Nat.lt_of_lt_of_le (show _ < 1 by decide) ?_; first | omega | (rw [List.length_replicate]; omega)) | (refine Nat.lt_of_lt_of_le (show _ < 2 by decide) ?_; first | omega | (rw [List.length_replicate]; omega)) | (simp only [List.length_cons, List.length_nil]; omega)) | refine J.draw (by assumption) follows_ok (by kernel_rfl) (by decide +kernel) (by decide +kernel) ?_ | refine J.done ⟨rfl, rfl, rfl, ?_⟩ | constructor | (intro _; exfalso; omega) | intro _)
        refine J.keep [27, 26, 25, 3] rfl (ih hlt _ _ ⟨rfl, rfl, fun j hj => ?_⟩)
        by_cases e : j = k
        · rw [e]; exact hrow
        · exact hrows j (by omega)
    · have hall : autoGood (rowsOf ls) B = true := by
        unfold autoGood
        rw [decide_eq_true (by rw [rowsOf_length]; omega), Bool.true_and, List.all_eq_true]
        intro r hr'
        obtain ⟨j, hj, e⟩ := List.mem_iff_getElem.1 hr'
        have := hrows j (by rw [rowsOf_length] at hj; omega)
        rw [nthAt_get hj, e] at this
        rw [rowsOf_length]; exact this
      repeat' (first | rfl | assumption | (apply stp tt_ok; constructor) | exact Rng.mk (by omega) (by omega) | exact Bd.mk (by first | omega | (refine Nat.lt_of_lt_of_le (show _ < 1 by decide) ?_; first | omega | (rw [List.length_replicate]; omega)) | (refine Nat.lt_of_lt_of_le (show _ < 2 by decide) ?_; first | omega | (rw [List.length_replicate]; omega)) | (simp only [List.length_cons, List.length_nil]; omega)) | refine J.draw (by assumption) follows_ok (by kernel_rfl) (by decide +kernel) (by decide +kernel) ?_ | refine J.done ⟨rfl, rfl, rfl, ?_⟩ | constructor | (intro _; exfalso; omega) | intro _)
      exact J.give0 tt_ok rfl (.cons (.tmp rfl) .nil) (by rw [hall]; rfl)
  · refine J.give0 tt_ok rfl (.cons (.tmp rfl) .nil) ?_
    have : autoGood (rowsOf ls) B = false := by unfold autoGood; rw [decide_eq_false (by rw [rowsOf_length]; omega)]; rfl
    rw [this]; rfl
end
end Go.Proofs.YtmlgmgjakhbhjaaGreatDoor.Ab

namespace Go.Proofs.YtmlgmgjakhbhjaaGreatDoor.Ab
open Go

theorem idxB_spec {α : Type} (d : α) (p : α → Bool) : ∀ (l : List α) (k : Nat), (idxB p l k < 0 ∧ ∀ x ∈ l, p x = false) ∨ ∃ j, j < l.length ∧ idxB p l k = ((k + j : Nat) : Int) ∧ p (nthAt d l j) = true
  | [], k => .inl ⟨by simp [idxB], by simp⟩
  | x :: l, k => by
    unfold idxB
    by_cases h : p x = true
    · rw [if_pos h]
      exact .inr ⟨0, by simp, by simp, by simpa [nthAt] using h⟩
    · rw [if_neg h]
      rcases idxB_spec d p l (k + 1) with ⟨h1, h2⟩ | ⟨j, h1, h2, h3⟩
      · refine .inl ⟨h1, fun y hy => ?_⟩
        rcases List.mem_cons.1 hy with rfl | hy
        · simpa using h
        · exact h2 y hy
      · exact .inr ⟨j + 1, by simp; omega, by rw [h2]; congr 1; omega, by simpa [nthAt] using h3⟩

/-- What an automaton takes, from a state on. -/
def takesGo (E : List (List P2)) (B : List Bool) : Nat → List Int → Bool
  | s, [] => nthAt false B s
  | s, c :: cs => if idxB (fun x : P2 => decide (x.1 = c)) (nthAt [] E s) 0 < 0 then false else takesGo E B (nthAt eP.dflt (nthAt [] E s) (idxB (fun x : P2 => decide (x.1 = c)) (nthAt [] E s) 0).toNat).2.toNat cs
def takesP (E : List (List P2)) (B : List Bool) (row : List Int) : Bool := autoGood E B && takesGo E B 0 row
/-- What a net goes through, from a set on. -/
noncomputable def goesGo (n : List (List P2)) : List Int → List Int → Bool
  | S, [] => endsB S
  | S, c :: cs => goesGo n (closeP n (if 0 ≤ c then gather n S (gStep c) else [])) cs
noncomputable def goesP (n : List (List P2)) (row : List Int) : Bool := netGood n && goesGo n (closeP n [0]) row

theorem gather_nil (n : List (List P2)) (g : P2 → Option Int) : gather n [] g = [] := rfl
theorem goesGo_nil {n : List (List P2)} (hg : netGood n = true) : ∀ row, goesGo n [] row = false
  | [] => rfl
  | c :: cs => by
    unfold goesGo
    rw [gather_nil, ite_self, closeP_nil n hg]
    exact goesGo_nil hg cs
theorem takes_goes {n : List (List P2)} (hg : netGood n = true) {S : List (List Int)} {E : List (List P2)} (hm : MadeP n S E) (hlen : E.length = S.length) : ∀ (row : List Int) {i : Nat} {l : List Int}, S[i]? = some l → takesGo E (S.map endsB) i row = goesGo n l row
  | [], i, l, h => by
    have hi := (List.getElem?_eq_some_iff.1 h).1
    unfold takesGo goesGo
    rw [nthAt_get (by simpa using hi), List.getElem_map]
    rw [(List.getElem?_eq_some_iff.1 h).2]
  | c :: cs, i, l, h => by
    have hi := (List.getElem?_eq_some_iff.1 h).1
    obtain ⟨e1, e2⟩ := hm.edges i l (by omega) h
    unfold takesGo goesGo
    rcases idxB_spec eP.dflt (fun x : P2 => decide (x.1 = c)) (nthAt [] E i) 0 with ⟨h1, h2⟩ | ⟨j, h1, h2, h3⟩
    · rw [if_pos h1]
      have hc : c ∉ labelsP n l := by
        rw [← e1]
        intro hm
        obtain ⟨x, hx, e⟩ := List.mem_map.1 hm
        have := h2 x hx
        simp [e] at this
      symm
      split
      · have := stepP_none hg hc (by omega)
        unfold stepP at this
        rw [this]
        exact goesGo_nil hg cs
      · rw [closeP_nil n hg]
        exact goesGo_nil hg cs
    · rw [Nat.zero_add] at h2
      rw [if_neg (by omega), h2, Int.toNat_natCast]
      have hx : nthAt eP.dflt (nthAt [] E i) j ∈ nthAt [] E i := List.mem_of_getElem? (nthAt_lt h1)
      obtain ⟨g1, g2⟩ := e2 _ hx
      have h3 := of_decide_eq_true h3
      rw [h3] at g2
      have hcl : c ∈ labelsP n l := by rw [← e1, ← h3]; exact List.mem_map_of_mem hx
      rw [if_pos (labelsP_nonneg hg hcl)]
      exact takes_goes hg hm hlen cs g2

theorem made_good {n : List (List P2)} (hg : netGood n = true) {S : List (List Int)} {E : List (List P2)} (hm : MadeP n S E) (hlen : E.length = S.length) (h1 : 1 ≤ S.length) (h2 : S.length ≤ 2000) : autoGood E (S.map endsB) = true := by
  unfold autoGood
  rw [decide_eq_true (by rw [List.length_map]; omega), Bool.true_and, List.all_eq_true]
  intro r hr
  obtain ⟨i, hi, rfl⟩ := List.mem_iff_getElem.1 hr
  obtain ⟨e1, e2⟩ := hm.edges i S[i] hi (List.getElem?_eq_getElem (by omega))
  rw [nthAt_get hi] at e1 e2
  have hup := labelsP_up n S[i]
  rw [← e1, List.pairwise_map] at hup
  unfold rowOk
  rw [List.all_eq_true]
  intro k hk
  have hk := List.mem_range.1 hk
  have hx : E[i][k] ∈ E[i] := List.getElem_mem hk
  obtain ⟨g1, g2⟩ := e2 _ hx
  have g3 := (List.getElem?_eq_some_iff.1 g2).1
  have g4 : 0 ≤ E[i][k].1 := labelsP_nonneg hg (l := S[i]) (by rw [← e1]; exact List.mem_map_of_mem hx)
  unfold eOk
  rw [nthAt_get hk, decide_eq_true (by omega), Bool.true_and]
  cases k with
  | zero => rfl
  | succ k =>
    rw [Nat.add_sub_cancel, nthAt_get (show k < E[i].length by omega)]
    have := List.pairwise_iff_getElem.1 hup k (k + 1) (by omega) hk (by omega)
    rw [decide_eq_true this, Bool.or_true]

theorem met_all {n : List (List P2)} {S : List (List Int)} {E : List (List P2)} (hm : MadeP n S E) {met : List Bool} (h0 : isIn met 0) (hc : ∀ s, s < E.length → isIn met (s : Int) → ∀ x ∈ nthAt [] E s, isIn met x.2) : ∀ j, j < S.length → isIn met (j : Int) := by
  intro j
  induction j using Nat.strongRecOn with
  | _ j ih =>
    intro hj
    rcases Nat.eq_zero_or_pos j with rfl | hp
    · exact h0
    · obtain ⟨i, h1, h2, x, hx, e⟩ := hm.met j hp hj
      rw [← e]
      exact hc i h2 (ih i h1 (by omega)) x hx

/- ## closing a set, as goes does it -/
/-- How many are not in. -/
def outs (now : List Bool) : Nat := now.countP fun b => !b
theorem outs_set {now : List Bool} {k : Nat} (hk : k < now.length) (h : nthAt false now k = false) : outs (now.set k true) + 1 = outs now := by
  unfold outs
  induction now generalizing k with
  | nil => simp at hk
  | cons b now ih =>
    cases k with
    | zero =>
      simp only [nthAt, List.getD_cons_zero] at h
      subst h
      simp
    | succ k =>
      have := ih (k := k) (by simpa using hk) (by simpa [nthAt] using h)
      simp only [List.set_cons_succ, List.countP_cons]
      omega
/-- In a set's closing: the set is in, and only what is reached. -/
structure Cls (n : List (List P2)) (G : List Int) (now : List Bool) : Prop where
  len : now.length = n.length
  seeds : ∀ s ∈ G, isIn now s
  sound : ∀ x : Nat, x < n.length → isIn now (x : Int) → Reach n G x
theorem Cls.add {n : List (List P2)} {G : List Int} {now : List Bool} (h : Cls n G now) {k : Nat} (hk : k < n.length) (hr : Reach n G k) : Cls n G (now.set k true) where
  len := by rw [List.length_set]; exact h.len
  seeds s hs := isIn_set (by rw [h.len]; exact hk) (h.seeds s hs)
  sound x hx hin := by
    by_cases e : x = k
    · subst e; exact hr
    · refine h.sound x hx ?_
      unfold isIn at hin ⊢
      rw [nthAt_set (by rw [h.len]; exact hk)] at hin
      rw [if_neg (by simp; omega)] at hin
      exact hin
/-- Which are in. -/
def Ind (n : List (List P2)) (G : List Int) (now : List Bool) : Prop := now.length = n.length ∧ ∀ x : Nat, x < n.length → (isIn now (x : Int) ↔ (x : Int) ∈ G)
theorem Ind.cls {n : List (List P2)} {G : List Int} {now : List Bool} (h : Ind n G now) (hG : NetIn n G) : Cls n G now where
  len := h.1
  seeds s hs := by
    obtain ⟨h1, h2⟩ := hG.from' s hs
    obtain ⟨k, rfl⟩ := Int.eq_ofNat_of_zero_le h1
    exact (h.2 k (by omega)).2 hs
  sound x hx hin := .seed ((h.2 x hx).1 hin)
theorem Cls.done {n : List (List P2)} (hg : netGood n = true) {G : List Int} {now : List Bool} (h : Cls n G now) (hG : NetIn n G) (hc : ∀ s : Nat, s < n.length → isIn now (s : Int) → ∀ t, ((-1 : Int), t) ∈ nthAt [] n s → isIn now t) : Ind n (closeP n G) now := by
  refine ⟨h.len, fun x hx => ?_⟩
  rw [(closeP_set hg hG).mem]
  constructor
  · exact h.sound x hx
  · intro hr
    clear hx
    generalize (x : Int) = y at hr
    induction hr with
    | seed hs => exact h.seeds _ hs
    | step hr' he ih =>
      obtain ⟨h1, h2⟩ := hr'.in hG
      obtain ⟨k, rfl⟩ := Int.eq_ofNat_of_zero_le h1
      exact hc k (by omega) ih _ (by simpa using he)

/- ## a step, as goes does it -/
def Nx (n : List (List P2)) (now : List Bool) (c : Int) (s k : Nat) (next : List Bool) : Prop := next.length = n.length ∧ ∀ x : Nat, x < n.length →
  (isIn next (x : Int) ↔ 0 ≤ c ∧ ((∃ s', s' < s ∧ isIn now (s' : Int) ∧ (c, (x : Int)) ∈ nthAt [] n s') ∨ (isIn now (s : Int) ∧ ∃ k', k' < k ∧ k' < (nthAt [] n s).length ∧ nthAt eP.dflt (nthAt [] n s) k' = (c, (x : Int)))))
theorem isIn_replicate (m : Nat) (s : Int) : ¬ isIn (List.replicate m false) s := by
  unfold isIn nthAt
  rw [List.getD_eq_getElem?_getD, List.getElem?_replicate]
  split <;> simp
theorem Nx.zero (n : List (List P2)) (now : List Bool) (c : Int) : Nx n now c 0 0 (List.replicate n.length false) := by
  refine ⟨List.length_replicate, fun x hx => ?_⟩
  constructor
  · exact fun h => absurd h (isIn_replicate _ _)
  · rintro ⟨_, ⟨s', h, _⟩ | ⟨_, k', h, _⟩⟩ <;> omega
theorem Nx.skip {n : List (List P2)} {now next : List Bool} {c : Int} {s k : Nat} (h : Nx n now c s k next) (hne : ∀ x : Nat, nthAt eP.dflt (nthAt [] n s) k = (c, (x : Int)) → c < 0) : Nx n now c s (k + 1) next := by
  refine ⟨h.1, fun x hx => (h.2 x hx).trans ?_⟩
  constructor
  · rintro ⟨h0, h1 | ⟨h1, k', h2, h3⟩⟩
    · exact ⟨h0, .inl h1⟩
    · exact ⟨h0, .inr ⟨h1, k', by omega, h3⟩⟩
  · rintro ⟨h0, h1 | ⟨h1, k', h2, h3, h4⟩⟩
    · exact ⟨h0, .inl h1⟩
    · refine ⟨h0, .inr ⟨h1, k', ?_, h3, h4⟩⟩
      rcases Nat.lt_or_ge k' k with h | h
      · exact h
      · have : k' = k := by omega
        subst this
        have := hne x h4
        omega
theorem Nx.put {n : List (List P2)} {now next : List Bool} {c : Int} {s k t : Nat} (h : Nx n now c s k next) (h0 : 0 ≤ c) (hin : isIn now (s : Int)) (hk : k < (nthAt [] n s).length) (he : nthAt eP.dflt (nthAt [] n s) k = (c, (t : Int))) (ht : t < n.length) : Nx n now c s (k + 1) (next.set t true) := by
  refine ⟨by rw [List.length_set]; exact h.1, fun x hx => ?_⟩
  by_cases e : x = t
  · subst e
    exact ⟨fun _ => ⟨h0, .inr ⟨hin, k, by omega, hk, he⟩⟩, fun _ => isIn_self (by rw [h.1]; exact ht)⟩
  · have e2 : isIn (next.set t true) (x : Int) ↔ isIn next (x : Int) := by
      unfold isIn
      rw [nthAt_set (by rw [h.1]; exact ht), if_neg (by simp; omega)]
    rw [e2, h.2 x hx]
    constructor
    · rintro ⟨h0, h1 | ⟨h1, k', h2, h3⟩⟩
      · exact ⟨h0, .inl h1⟩
      · exact ⟨h0, .inr ⟨h1, k', by omega, h3⟩⟩
    · rintro ⟨h0, h1 | ⟨h1, k', h2, h3, h4⟩⟩
      · exact ⟨h0, .inl h1⟩
      · refine ⟨h0, .inr ⟨h1, k', ?_, h3, h4⟩⟩
        rcases Nat.lt_or_ge k' k with h | h
        · exact h
        · have : k' = k := by omega
          subst this
          rw [he] at h4
          simp only [Prod.mk.injEq, true_and] at h4
          omega
theorem Nx.row {n : List (List P2)} {now next : List Bool} {c : Int} {s k : Nat} (h : Nx n now c s k next) (hk : (nthAt [] n s).length ≤ k ∨ ¬ isIn now (s : Int)) : Nx n now c (s + 1) 0 next := by
  refine ⟨h.1, fun x hx => (h.2 x hx).trans ?_⟩
  constructor
  · rintro ⟨h0, ⟨s', h1, h2, h3⟩ | ⟨h1, k', h2, h3, h4⟩⟩
    · exact ⟨h0, .inl ⟨s', by omega, h2, h3⟩⟩
    · exact ⟨h0, .inl ⟨s, by omega, h1, by rw [← h4]; exact List.mem_of_getElem? (nthAt_lt h3)⟩⟩
  · rintro ⟨h0, ⟨s', h1, h2, h3⟩ | ⟨_, k', h2, _⟩⟩
    · rcases Nat.lt_or_ge s' s with h | h
      · exact ⟨h0, .inl ⟨s', h, h2, h3⟩⟩
      · have : s' = s := by omega
        subst this
        rcases hk with hk | hk
        · obtain ⟨k', hk', e⟩ := List.mem_iff_getElem.1 h3
          exact ⟨h0, .inr ⟨h2, k', by omega, hk', by rw [nthAt_get hk', e]⟩⟩
        · exact absurd h2 hk
    · omega
theorem Nx.done {n : List (List P2)} {S : List Int} {now next : List Bool} {c : Int} (h : Nx n now c n.length 0 next) (hn : Ind n S now) (hS : ∀ s ∈ S, 0 ≤ s ∧ s < n.length) : Ind n (if 0 ≤ c then gather n S (gStep c) else []) next := by
  refine ⟨h.1, fun x hx => (h.2 x hx).trans ?_⟩
  constructor
  · rintro ⟨h0, ⟨s', h1, h2, h3⟩ | ⟨_, k', h2, _⟩⟩
    · rw [if_pos h0, mem_gStep]
      exact ⟨s', (hn.2 s' h1).1 h2, by simpa using h3⟩
    · omega
  · intro hx
    split at hx
    · rename_i h0
      obtain ⟨s, hs, ht⟩ := mem_gStep.1 hx
      obtain ⟨h1, h2⟩ := hS s hs
      obtain ⟨k, rfl⟩ := Int.eq_ofNat_of_zero_le h1
      exact ⟨h0, .inl ⟨k, by omega, (hn.2 k (by omega)).2 hs, by simpa using ht⟩⟩
    · cases hx
end Go.Proofs.YtmlgmgjakhbhjaaGreatDoor.Ab

namespace Go.Proofs.YtmlgmgjakhbhjaaGreatDoor.Ab
open Go Go.Proofs
noncomputable section
attribute [local irreducible] J Con Lv CallJ DCon

theorem f35_ok {hk : HKT} (U : HkU hk) (M : Imm) (x : P2) (c : Int) (id : Nat) :
    Con Tryz.prog hk 35 [.agg ⟨eP.enc x⟩, .pointer (some ⟨id, 0, none⟩)] M [(id, .row [.int .i64 c] 3 .fixed)] (Gives (.bool (decide (x.1 = c))) [(id, .row [.int .i64 c] 3 .fixed)]) := by
  refine Con.of_body (U.no 35 rfl) Tryz.func35 rfl rfl Tryz.ntmps35 rfl rfl ?_
  obtain ⟨x, y⟩ := x
  repeat' (first | rfl | assumption | (apply stp tt_ok; constructor) | exact Rng.mk (by omega) (by omega) | exact Bd.mk (by first | omega | (refine Nat.lt_of_lt_of_le (show _ < 1 by decide) ?_; first | omega | (rw [List.length_replicate]; omega)) | (refine Nat.lt_of_lt_of_le (show _ < 2 by decide) ?_; first | omega | (rw [List.length_replicate]; omega)) | (simp only [List.length_cons, List.length_nil]; omega)) | refine J.draw (by assumption) follows_ok (by kernel_rfl) (by decide +kernel) (by decide +kernel) ?_ | refine J.done ⟨rfl, rfl, rfl, ?_⟩ | constructor | (intro _; exfalso; omega) | intro _)
  all_goals refine J.give tt_ok rfl (.cons (.tmp rfl) .nil) (.there .here) ?_
  · exact bT (by simp only; assumption)
  · exact bF (by simp only; assumption)

theorem autoGood_spec {E : List (List P2)} {B : List Bool} (h : autoGood E B = true) : 1 ≤ E.length ∧ E.length ≤ 2000 ∧ B.length = E.length ∧ ∀ i j, i < E.length → j < (nthAt [] E i).length → 0 ≤ (nthAt eP.dflt (nthAt [] E i) j).2 ∧ (nthAt eP.dflt (nthAt [] E i) j).2 < E.length := by
  unfold autoGood at h
  rw [Bool.and_eq_true, List.all_eq_true] at h
  obtain ⟨h1, h2⟩ := h
  have h1 := of_decide_eq_true h1
  refine ⟨h1.1, h1.2.1, h1.2.2, fun i j hi hj => ?_⟩
  have := h2 _ (List.mem_of_getElem? (nthAt_lt (d := []) hi))
  unfold rowOk at this
  have := List.all_eq_true.1 this j (List.mem_range.2 hj)
  unfold eOk at this
  rw [Bool.and_eq_true] at this
  have := of_decide_eq_true this.1
  exact this.2

theorem takesGo_nil (E : List (List P2)) (B : List Bool) (s : Nat) : takesGo E B s [] = nthAt false B s := rfl
theorem takesGo_cons (E : List (List P2)) (B : List Bool) (s : Nat) (c : Int) (cs : List Int) : takesGo E B s (c :: cs) = if idxB (fun x : P2 => decide (x.1 = c)) (nthAt [] E s) 0 < 0 then false else takesGo E B (nthAt eP.dflt (nthAt [] E s) (idxB (fun x : P2 => decide (x.1 = c)) (nthAt [] E s) 0).toNat).2.toNat cs := rfl

theorem f16_ok {hk : HKT} (U : HkU hk) (M : Imm) {a b r : Option Addr} {c d q : Nat} {ls : List (SlOf P2)} {B : List Bool} {row : List Int} (hr : Rows M eP a ls) (hb : IsSl M eB b B) (hw : IsSl M eI r row) :
    Con Tryz.prog hk 16 [.agg ⟨[.slice a ls.length c, .slice b B.length d]⟩, .slice r row.length q] M [] (Gives (.bool (takesP (rowsOf ls) B row)) []) := by
  refine Con.of_body (U.no 16 rfl) Tryz.func16 rfl rfl Tryz.ntmps16 rfl rfl ?_
  have hout := hr.out
  have hlen := hout.len
  have hblen := hb.len
  have hwlen := hw.len
  repeat' (first | rfl | assumption | (apply stp tt_ok; constructor) | exact Rng.mk (by omega) (by omega) | exact Bd.mk (by first | omega | (refine Nat.lt_of_lt_of_le (show _ < 1 by decide) ?_; first | omega | (rw [List.length_replicate]; omega)) | (refine Nat.lt_of_lt_of_le (show _ < 2 by decide) ?_; first | omega | (rw [List.length_replicate]; omega)) | (simp only [List.length_cons, List.length_nil]; omega)) | refine J.draw (by assumption) follows_ok (by kernel_rfl) (by decide +kernel) (by decide +kernel) ?_ | refine J.done ⟨rfl, rfl, rfl, ?_⟩ | constructor | (intro _; exfalso; omega) | intro _)
  refine CallJ.val (f14_ok U M hr hb) ?_
  unfold takesP
  cases hg : autoGood (rowsOf ls) B
  · repeat' (first | rfl | assumption | (apply stp tt_ok; constructor) | exact Rng.mk (by omega) (by omega) | exact Bd.mk (by first | omega | (refine Nat.lt_of_lt_of_le (show _ < 1 by decide) ?_; first | omega | (rw [List.length_replicate]; omega)) | (refine Nat.lt_of_lt_of_le (show _ < 2 by decide) ?_; first | omega | (rw [List.length_replicate]; omega)) | (simp only [List.length_cons, List.length_nil]; omega)) | refine J.draw (by assumption) follows_ok (by kernel_rfl) (by decide +kernel) (by decide +kernel) ?_ | refine J.done ⟨rfl, rfl, rfl, ?_⟩ | constructor | (intro _; exfalso; omega) | intro _)
    exact J.give0 tt_ok rfl (.cons (.tmp rfl) .nil) rfl
  · obtain ⟨g1, g2, g3, g4⟩ := autoGood_spec hg
    rw [rowsOf_length] at g1 g2 g3 g4
    rw [Bool.true_and]
    repeat' (first | rfl | assumption | (apply stp tt_ok; constructor) | exact Rng.mk (by omega) (by omega) | exact Bd.mk (by first | omega | (refine Nat.lt_of_lt_of_le (show _ < 1 by decide) ?_; first | omega | (rw [List.length_replicate]; omega)) | (refine Nat.lt_of_lt_of_le (show _ < 2 by decide) ?_; first | omega | (rw [List.length_replicate]; omega)) | (simp only [List.length_cons, List.length_nil]; omega)) | refine J.draw (by assumption) follows_ok (by kernel_rfl) (by decide +kernel) (by decide +kernel) ?_ | refine J.done ⟨rfl, rfl, rfl, ?_⟩ | constructor | (intro _; exfalso; omega) | intro _)
    rename_i id
    refine J.keep [14, 13, 12, 5, 2] rfl ?_
    refine J.forN row.length (fun k E L => ∃ s : Nat, E = [(14, .int .i64 (k : Int)), (13, .int .i64 row.length), (12, .slice r row.length q), (5, .int .i64 (s : Int)), (2, .pointer (some ⟨id, 0, none⟩))] ∧ L = [[(id, .row [.slice a ls.length c, .slice b B.length d] 27 .fixed)], []] ∧
      s < ls.length ∧ takesGo (rowsOf ls) B s (row.drop k) = takesGo (rowsOf ls) B 0 row) ⟨0, rfl, rfl, by omega, rfl⟩ ?_
    rintro k E L hk' ⟨s, rfl, rfl, hs, htk⟩ ih
    have hin := hr.at s
    have hil := hin.len
    have hrn := rowsOf_nth ls s
    by_cases hlt : k < row.length
    · have hdrop : row.drop k = nthAt eI.dflt row k :: row.drop (k + 1) := by
        rw [List.drop_eq_getElem_cons hlt, nthAt_get hlt]
      rw [hdrop, takesGo_cons, hrn] at htk
      repeat' (first | rfl | assumption | (apply stp tt_ok; constructor) | exact Rng.mk (by omega) (by omega) | exact Bd.mk (by first | omega | (refine Nat.lt_of_lt_of_le (show _ < 1 by decide) ?_; first | omega | (rw [List.length_replicate]; omega)) | (refine Nat.lt_of_lt_of_le (show _ < 2 by decide) ?_; first | omega | (rw [List.length_replicate]; omega)) | (simp only [List.length_cons, List.length_nil]; omega)) | refine J.draw (by assumption) follows_ok (by kernel_rfl) (by decide +kernel) (by decide +kernel) ?_ | refine J.done ⟨rfl, rfl, rfl, ?_⟩ | constructor | (intro _; exfalso; omega) | intro _)
      rename_i idc
      refine CallJ.same .here (f34_ok U M hin (fun x => f35_ok U M x (nthAt eI.dflt row k) idc)) ?_
      rcases idxB_spec eP.dflt (fun x : P2 => decide (x.1 = nthAt eI.dflt row k)) (nthAt (eSl P2).dflt ls s).l 0 with ⟨h1, h2⟩ | ⟨j, h1, h2, h3⟩
      · rw [if_pos h1] at htk
        repeat' (first | rfl | assumption | (apply stp tt_ok; constructor) | exact Rng.mk (by omega) (by omega) | exact Bd.mk (by first | omega | (refine Nat.lt_of_lt_of_le (show _ < 1 by decide) ?_; first | omega | (rw [List.length_replicate]; omega)) | (refine Nat.lt_of_lt_of_le (show _ < 2 by decide) ?_; first | omega | (rw [List.length_replicate]; omega)) | (simp only [List.length_cons, List.length_nil]; omega)) | refine J.draw (by assumption) follows_ok (by kernel_rfl) (by decide +kernel) (by decide +kernel) ?_ | refine J.done ⟨rfl, rfl, rfl, ?_⟩ | constructor | (intro _; exfalso; omega) | intro _)
        exact J.give0 tt_ok rfl (.cons (.tmp rfl) .nil) (by rw [← htk]; rfl)
      · rw [Nat.zero_add] at h2
        have hto := g4 s j hs (by rw [hrn]; exact h1)
        rw [hrn] at hto
        rw [if_neg (by omega), h2, Int.toNat_natCast] at htk
        rw [h2]
        obtain ⟨t, ht⟩ := Int.eq_ofNat_of_zero_le hto.1
        rw [ht, Int.toNat_natCast] at htk
        repeat' (first | rfl | assumption | (apply stp tt_ok; constructor) | exact Rng.mk (by omega) (by omega) | exact Bd.mk (by first | omega | (refine Nat.lt_of_lt_of_le (show _ < 1 by decide) ?_; first | omega | (rw [List.length_replicate]; omega)) | (refine Nat.lt_of_lt_of_le (show _ < 2 by decide) ?_; first | omega | (rw [List.length_replicate]; omega)) | (simp only [List.length_cons, List.length_nil]; omega)) | refine J.draw (by assumption) follows_ok (by kernel_rfl) (by decide +kernel) (by decide +kernel) ?_ | refine J.done ⟨rfl, rfl, rfl, ?_⟩ | constructor | (intro _; exfalso; omega) | intro _)
        refine J.dropHd ?_
        rw [ht]
        refine J.keep [14, 13, 12, 5, 2] rfl (ih hlt _ _ ⟨t, rfl, rfl, by omega, htk⟩)
    · have : k = row.length := by omega
      subst this
      rw [List.drop_length, takesGo_nil] at htk
      repeat' (first | rfl | assumption | (apply stp tt_ok; constructor) | exact Rng.mk (by omega) (by omega) | exact Bd.mk (by first | omega | (refine Nat.lt_of_lt_of_le (show _ < 1 by decide) ?_; first | omega | (rw [List.length_replicate]; omega)) | (refine Nat.lt_of_lt_of_le (show _ < 2 by decide) ?_; first | omega | (rw [List.length_replicate]; omega)) | (simp only [List.length_cons, List.length_nil]; omega)) | refine J.draw (by assumption) follows_ok (by kernel_rfl) (by decide +kernel) (by decide +kernel) ?_ | refine J.done ⟨rfl, rfl, rfl, ?_⟩ | constructor | (intro _; exfalso; omega) | intro _)
      exact J.give0 tt_ok rfl (.cons (.tmp rfl) .nil) (by rw [← htk]; rfl)
end
end Go.Proofs.YtmlgmgjakhbhjaaGreatDoor.Ab

namespace Go.Proofs.YtmlgmgjakhbhjaaGreatDoor.Ab
open Go Go.Proofs
noncomputable section
attribute [local irreducible] J Con Lv CallJ DCon

theorem endsB_iff {S : List Int} : endsB S = true ↔ (1 : Int) ∈ S := by
  unfold endsB
  rw [List.any_eq_true]
  constructor
  · rintro ⟨x, hx, h⟩
    rw [of_decide_eq_true h]; exact hx
  · exact fun h => ⟨1, h, by simp⟩

theorem ind_zero {n : List (List P2)} {m : Nat} (h0 : 0 < n.length) (hm : n.length = m) : Ind n [0] ((List.replicate m false).set 0 true) := by
  subst hm
  refine ⟨by simp, fun x hx => ?_⟩
  unfold isIn
  rw [nthAt_set (by simpa using h0)]
  by_cases e : x = 0
  · subst e; simp
  · rw [if_neg (by simp; omega)]
    constructor
    · exact fun h => absurd h (isIn_replicate _ _)
    · intro h
      have := List.mem_singleton.1 h
      omega

set_option maxHeartbeats 4000000 in
theorem f20_ok {hk : HKT} (U : HkU hk) (M : Imm) {a r : Option Addr} {c q : Nat} {ls : List (SlOf P2)} {row : List Int} (hr : Rows M eP a ls) (hw : IsSl M eI r row) (hfl : (rowsOf ls).flatten.length ≤ 1099511627776) :
    Con Tryz.prog hk 20 [.agg ⟨[.slice a ls.length c]⟩, .slice r row.length q] M [] (Gives (.bool (goesP (rowsOf ls) row)) []) := by
  refine Con.of_body (U.no 20 rfl) Tryz.func20 rfl rfl Tryz.ntmps20 rfl rfl ?_
  have hout := hr.out
  have hlen := hout.len
  have hwlen := hw.len
  have hn := U.n
  repeat' (first | rfl | assumption | (apply stp tt_ok; constructor) | exact Rng.mk (by omega) (by omega) | exact Bd.mk (by first | omega | (refine Nat.lt_of_lt_of_le (show _ < 1 by decide) ?_; first | omega | (rw [List.length_replicate]; omega)) | (refine Nat.lt_of_lt_of_le (show _ < 2 by decide) ?_; first | omega | (rw [List.length_replicate]; omega)) | (simp only [List.length_cons, List.length_nil]; omega)) | refine J.draw (by assumption) follows_ok (by kernel_rfl) (by decide +kernel) (by decide +kernel) ?_ | refine J.done ⟨rfl, rfl, rfl, ?_⟩ | constructor | (intro _; exfalso; omega) | intro _)
  refine CallJ.val (f19_ok U M hr hfl) ?_
  unfold goesP
  cases hg : netGood (rowsOf ls)
  · repeat' (first | rfl | assumption | (apply stp tt_ok; constructor) | exact Rng.mk (by omega) (by omega) | exact Bd.mk (by first | omega | (refine Nat.lt_of_lt_of_le (show _ < 1 by decide) ?_; first | omega | (rw [List.length_replicate]; omega)) | (refine Nat.lt_of_lt_of_le (show _ < 2 by decide) ?_; first | omega | (rw [List.length_replicate]; omega)) | (simp only [List.length_cons, List.length_nil]; omega)) | refine J.draw (by assumption) follows_ok (by kernel_rfl) (by decide +kernel) (by decide +kernel) ?_ | refine J.done ⟨rfl, rfl, rfl, ?_⟩ | constructor | (intro _; exfalso; omega) | intro _)
    exact J.give0 tt_ok rfl (.cons (.tmp rfl) .nil) rfl
  · obtain ⟨g1, g2, g3, g4⟩ := netGood_spec hg
    rw [rowsOf_length] at g1 g2 g4
    rw [Bool.true_and]
    repeat' (first | rfl | assumption | (apply stp tt_ok; constructor) | exact Rng.mk (by omega) (by omega) | exact Bd.mk (by first | omega | (refine Nat.lt_of_lt_of_le (show _ < 1 by decide) ?_; first | omega | (rw [List.length_replicate]; omega)) | (refine Nat.lt_of_lt_of_le (show _ < 2 by decide) ?_; first | omega | (rw [List.length_replicate]; omega)) | (simp only [List.length_cons, List.length_nil]; omega)) | refine J.draw (by assumption) follows_ok (by kernel_rfl) (by decide +kernel) (by decide +kernel) ?_ | refine J.done ⟨rfl, rfl, rfl, ?_⟩ | constructor | (intro _; exfalso; omega) | intro _)
    rename_i idn i5
    have hseed : NetIn (rowsOf ls) [0] := (mayB_spec (mayB_of hg fun s hs => by cases List.mem_singleton.1 hs; rw [rowsOf_length]; omega)).2
    refine J.keep [6, 5, 2, 1] rfl ?_
    refine J.forN row.length (fun k E L => ∃ i5 now G, E = [(6, .int .i64 (k : Int)), (5, .slice (some ⟨i5, 0, none⟩) ls.length ls.length), (2, .pointer (some ⟨idn, 0, none⟩)), (1, .slice r row.length q)] ∧
      L = [[(i5, .row (now.flatMap eB.enc) 4 .fixed)], [(idn, .row [.slice a ls.length c] 24 .fixed)], []] ∧ Ind (rowsOf ls) G now ∧ NetIn (rowsOf ls) G ∧ goesGo (rowsOf ls) (closeP (rowsOf ls) G) (row.drop k) = goesGo (rowsOf ls) (closeP (rowsOf ls) [0]) row)
      ⟨i5, _, [0], rfl, rfl, ind_zero (by rw [rowsOf_length]; omega) (rowsOf_length ls), hseed, rfl⟩ ?_
    clear hseed
    rintro k E L hk' ⟨i5, now, G, rfl, rfl, hind, hG, hgo⟩ ih
    repeat' (first | rfl | assumption | (apply stp tt_ok; constructor) | exact Rng.mk (by omega) (by omega) | exact Bd.mk (by first | omega | (refine Nat.lt_of_lt_of_le (show _ < 1 by decide) ?_; first | omega | (rw [List.length_replicate]; omega)) | (refine Nat.lt_of_lt_of_le (show _ < 2 by decide) ?_; first | omega | (rw [List.length_replicate]; omega)) | (simp only [List.length_cons, List.length_nil]; omega)) | refine J.draw (by assumption) follows_ok (by kernel_rfl) (by decide +kernel) (by decide +kernel) ?_ | refine J.done ⟨rfl, rfl, rfl, ?_⟩ | constructor | (intro _; exfalso; omega) | intro _)
    refine J.keep [7, 6, 5, 2, 1] rfl ?_
    refine J.while (fun mm E D' M' L rc' => ∃ (now : List Bool) (ch : Bool), mm = (if ch then outs now + 1 else 0) ∧ E = [(7, .bool ch), (6, .int .i64 (k : Int)), (5, .slice (some ⟨i5, 0, none⟩) ls.length ls.length), (2, .pointer (some ⟨idn, 0, none⟩)), (1, .slice r row.length q)] ∧ D' = [] ∧ M' = M ∧ rc' = .norm ∧
      L = [[(i5, .row (now.flatMap eB.enc) 4 .fixed)], [(idn, .row [.slice a ls.length c] 24 .fixed)], []] ∧ Cls (rowsOf ls) G now ∧ (ch = false → ∀ s : Nat, s < ls.length → isIn now (s : Int) → ∀ t, ((-1 : Int), t) ∈ nthAt [] (rowsOf ls) s → isIn now t))
      (m := outs now + 1) ⟨now, true, rfl, rfl, rfl, rfl, rfl, rfl, hind.cls hG, fun h => by cases h⟩ ?_
    clear hind
    rintro mm E D' M' L rc' ⟨now, ch, rfl, rfl, rfl, rfl, rfl, rfl, hcls, hdone⟩ ihw
    have hnl := hcls.len
    rw [rowsOf_length] at hnl
    cases ch
    · have hind := hcls.done hg hG (fun s hs => hdone rfl s (by rw [rowsOf_length] at hs; exact hs))
      clear hdone hcls ihw
      have hS := (closeP_in hg hG).1
      by_cases hkl : k = row.length
      · subst hkl
        rw [List.drop_length] at hgo
        have hend : nthAt eB.dflt now 1 = endsB (closeP (rowsOf ls) G) := by
          rw [Bool.eq_iff_iff, endsB_iff]
          exact hind.2 1 (by rw [rowsOf_length]; omega)
        repeat' (first | rfl | assumption | (apply stp tt_ok; constructor) | exact Rng.mk (by omega) (by omega) | exact Bd.mk (by first | omega | (refine Nat.lt_of_lt_of_le (show _ < 1 by decide) ?_; first | omega | (rw [List.length_replicate]; omega)) | (refine Nat.lt_of_lt_of_le (show _ < 2 by decide) ?_; first | omega | (rw [List.length_replicate]; omega)) | (simp only [List.length_cons, List.length_nil]; omega)) | refine J.draw (by assumption) follows_ok (by kernel_rfl) (by decide +kernel) (by decide +kernel) ?_ | refine J.done ⟨rfl, rfl, rfl, ?_⟩ | constructor | (intro _; exfalso; omega) | intro _)
        exact J.give0 tt_ok rfl (.cons (.tmp rfl) .nil) (by rw [← hgo]; show Value.bool (nthAt eB.dflt now 1) = Value.bool (endsB _); rw [hend])
      · have hk2 : k < row.length := by omega
        have hdrop : row.drop k = nthAt eI.dflt row k :: row.drop (k + 1) := by
          rw [List.drop_eq_getElem_cons hk2, nthAt_get hk2]
        rw [hdrop] at hgo
        have hgo : goesGo (rowsOf ls) (closeP (rowsOf ls) (if 0 ≤ nthAt eI.dflt row k then gather (rowsOf ls) (closeP (rowsOf ls) G) (gStep (nthAt eI.dflt row k)) else [])) (row.drop (k + 1)) = goesGo (rowsOf ls) (closeP (rowsOf ls) [0]) row := hgo
        repeat' (first | rfl | assumption | (apply stp tt_ok; constructor) | exact Rng.mk (by omega) (by omega) | exact Bd.mk (by first | omega | (refine Nat.lt_of_lt_of_le (show _ < 1 by decide) ?_; first | omega | (rw [List.length_replicate]; omega)) | (refine Nat.lt_of_lt_of_le (show _ < 2 by decide) ?_; first | omega | (rw [List.length_replicate]; omega)) | (simp only [List.length_cons, List.length_nil]; omega)) | refine J.draw (by assumption) follows_ok (by kernel_rfl) (by decide +kernel) (by decide +kernel) ?_ | refine J.done ⟨rfl, rfl, rfl, ?_⟩ | constructor | (intro _; exfalso; omega) | intro _)
        rename_i i11
        refine J.keep [12, 11, 6, 5, 2, 1] rfl ?_
        refine J.forN ls.length (fun s E L => ∃ next, E = [(12, .int .i64 (s : Int)), (11, .slice (some ⟨i11, 0, none⟩) ls.length ls.length), (6, .int .i64 (k : Int)), (5, .slice (some ⟨i5, 0, none⟩) ls.length ls.length), (2, .pointer (some ⟨idn, 0, none⟩)), (1, .slice r row.length q)] ∧
          L = [[(i11, .row (next.flatMap eB.enc) 4 .fixed)], [(i5, .row (now.flatMap eB.enc) 4 .fixed)], [(idn, .row [.slice a ls.length c] 24 .fixed)], []] ∧ Nx (rowsOf ls) now (nthAt eI.dflt row k) s 0 next)
          ⟨_, rfl, rfl, by have := Nx.zero (rowsOf ls) now (nthAt eI.dflt row k); rw [rowsOf_length] at this; exact this⟩ ?_
        rintro s E L hs' ⟨next, rfl, rfl, hnx⟩ ih8
        have hin := hr.at s
        have hil := hin.len
        have hrn := rowsOf_nth ls s
        have hxl := hnx.1
        rw [rowsOf_length] at hxl
        by_cases hlt : s < ls.length
        · repeat' (first | rfl | assumption | (apply stp tt_ok; constructor) | exact Rng.mk (by omega) (by omega) | exact Bd.mk (by first | omega | (refine Nat.lt_of_lt_of_le (show _ < 1 by decide) ?_; first | omega | (rw [List.length_replicate]; omega)) | (refine Nat.lt_of_lt_of_le (show _ < 2 by decide) ?_; first | omega | (rw [List.length_replicate]; omega)) | (simp only [List.length_cons, List.length_nil]; omega)) | refine J.draw (by assumption) follows_ok (by kernel_rfl) (by decide +kernel) (by decide +kernel) ?_ | refine J.done ⟨rfl, rfl, rfl, ?_⟩ | constructor | (intro _; exfalso; omega) | intro _)
          refine J.keep [13, 12, 11, 6, 5, 2, 1] rfl ?_
          refine J.forN (nthAt (eSl P2).dflt ls s).l.length (fun j E L => ∃ next, E = [(13, .int .i64 (j : Int)), (12, .int .i64 (s : Int)), (11, .slice (some ⟨i11, 0, none⟩) ls.length ls.length), (6, .int .i64 (k : Int)), (5, .slice (some ⟨i5, 0, none⟩) ls.length ls.length), (2, .pointer (some ⟨idn, 0, none⟩)), (1, .slice r row.length q)] ∧
            L = [[(i11, .row (next.flatMap eB.enc) 4 .fixed)], [(i5, .row (now.flatMap eB.enc) 4 .fixed)], [(idn, .row [.slice a ls.length c] 24 .fixed)], []] ∧ Nx (rowsOf ls) now (nthAt eI.dflt row k) s j next)
            ⟨_, rfl, rfl, hnx⟩ ?_
          clear hnx hxl
          rintro j E L hj' ⟨next, rfl, rfl, hnx⟩ ih10
          have hxl := hnx.1
          rw [rowsOf_length] at hxl
          by_cases hjl : j < (nthAt (eSl P2).dflt ls s).l.length
          · have hmem : nthAt eP.dflt (nthAt (eSl P2).dflt ls s).l j ∈ nthAt [] (rowsOf ls) s := by rw [hrn]; exact List.mem_of_getElem? (nthAt_lt hjl)
            have hx := g4 s _ hmem
            have hxi : IsN (nthAt eP.dflt (nthAt (eSl P2).dflt ls s).l j).2 (nthAt eP.dflt (nthAt (eSl P2).dflt ls s).l j).2.toNat := by unfold IsN; omega
            repeat' (first | rfl | assumption | (apply stp tt_ok; constructor) | exact Rng.mk (by omega) (by omega) | exact Bd.mk (by first | omega | (refine Nat.lt_of_lt_of_le (show _ < 1 by decide) ?_; first | omega | (rw [List.length_replicate]; omega)) | (refine Nat.lt_of_lt_of_le (show _ < 2 by decide) ?_; first | omega | (rw [List.length_replicate]; omega)) | (simp only [List.length_cons, List.length_nil]; omega)) | refine J.draw (by assumption) follows_ok (by kernel_rfl) (by decide +kernel) (by decide +kernel) ?_ | refine J.done ⟨rfl, rfl, rfl, ?_⟩ | constructor | (intro _; exfalso; omega) | intro _)
            cases hcs : nthAt eB.dflt now s
            · repeat' (first | rfl | assumption | (apply stp tt_ok; constructor) | exact Rng.mk (by omega) (by omega) | exact Bd.mk (by first | omega | (refine Nat.lt_of_lt_of_le (show _ < 1 by decide) ?_; first | omega | (rw [List.length_replicate]; omega)) | (refine Nat.lt_of_lt_of_le (show _ < 2 by decide) ?_; first | omega | (rw [List.length_replicate]; omega)) | (simp only [List.length_cons, List.length_nil]; omega)) | refine J.draw (by assumption) follows_ok (by kernel_rfl) (by decide +kernel) (by decide +kernel) ?_ | refine J.done ⟨rfl, rfl, rfl, ?_⟩ | constructor | (intro _; exfalso; omega) | intro _)
              refine J.keep [12, 11, 6, 5, 2, 1] rfl (ih8 hlt _ _ ⟨next, rfl, rfl, hnx.row (.inr fun h => ?_)⟩)
              have h : nthAt eB.dflt now s = true := h
              rw [hcs] at h
              cases h
            · repeat' (first | rfl | assumption | (apply stp tt_ok; constructor) | exact Rng.mk (by omega) (by omega) | exact Bd.mk (by first | omega | (refine Nat.lt_of_lt_of_le (show _ < 1 by decide) ?_; first | omega | (rw [List.length_replicate]; omega)) | (refine Nat.lt_of_lt_of_le (show _ < 2 by decide) ?_; first | omega | (rw [List.length_replicate]; omega)) | (simp only [List.length_cons, List.length_nil]; omega)) | refine J.draw (by assumption) follows_ok (by kernel_rfl) (by decide +kernel) (by decide +kernel) ?_ | refine J.done ⟨rfl, rfl, rfl, ?_⟩ | constructor | (intro _; exfalso; omega) | intro _)
              · rename_i he h0
                refine J.dropHd ?_
                refine J.keep [13, 12, 11, 6, 5, 2, 1] rfl (ih10 hjl _ _ ⟨_, rfl, rfl, hnx.put h0 hcs (by rw [hrn]; exact hjl) ?_ (by rw [rowsOf_length]; omega)⟩)
                rw [hrn, ← he, Int.toNat_of_nonneg hx.2.1]
              · rename_i he h0
                refine J.dropHd ?_
                refine J.keep [13, 12, 11, 6, 5, 2, 1] rfl (ih10 hjl _ _ ⟨_, rfl, rfl, hnx.skip fun x _ => by omega⟩)
              · rename_i he
                refine J.dropHd ?_
                refine J.keep [13, 12, 11, 6, 5, 2, 1] rfl (ih10 hjl _ _ ⟨_, rfl, rfl, hnx.skip fun x hx' => ?_⟩)
                rw [hrn] at hx'
                exact absurd (by rw [hx']) he
          · repeat' (first | rfl | assumption | (apply stp tt_ok; constructor) | exact Rng.mk (by omega) (by omega) | exact Bd.mk (by first | omega | (refine Nat.lt_of_lt_of_le (show _ < 1 by decide) ?_; first | omega | (rw [List.length_replicate]; omega)) | (refine Nat.lt_of_lt_of_le (show _ < 2 by decide) ?_; first | omega | (rw [List.length_replicate]; omega)) | (simp only [List.length_cons, List.length_nil]; omega)) | refine J.draw (by assumption) follows_ok (by kernel_rfl) (by decide +kernel) (by decide +kernel) ?_ | refine J.done ⟨rfl, rfl, rfl, ?_⟩ | constructor | (intro _; exfalso; omega) | intro _)
            exact J.keep [12, 11, 6, 5, 2, 1] rfl (ih8 hlt _ _ ⟨next, rfl, rfl, hnx.row (.inl (by rw [hrn]; omega))⟩)
        · have hsl : s = (rowsOf ls).length := by rw [rowsOf_length]; omega
          subst hsl
          have hnd := hnx.done hind hS
          repeat' (first | rfl | assumption | (apply stp tt_ok; constructor) | exact Rng.mk (by omega) (by omega) | exact Bd.mk (by first | omega | (refine Nat.lt_of_lt_of_le (show _ < 1 by decide) ?_; first | omega | (rw [List.length_replicate]; omega)) | (refine Nat.lt_of_lt_of_le (show _ < 2 by decide) ?_; first | omega | (rw [List.length_replicate]; omega)) | (simp only [List.length_cons, List.length_nil]; omega)) | refine J.draw (by assumption) follows_ok (by kernel_rfl) (by decide +kernel) (by decide +kernel) ?_ | refine J.done ⟨rfl, rfl, rfl, ?_⟩ | constructor | (intro _; exfalso; omega) | intro _)
          refine J.sel [0, 1, 1] rfl ?_
          refine J.keep [6, 5, 2, 1] rfl (ih hk2 _ _ ⟨i11, next, _, rfl, rfl, hnd, ?_, hgo⟩)
          split
          · exact gather_in hg _ _
          · exact ⟨hG.to, fun s hs => by cases hs⟩
    · repeat' (first | rfl | assumption | (apply stp tt_ok; constructor) | exact Rng.mk (by omega) (by omega) | exact Bd.mk (by first | omega | (refine Nat.lt_of_lt_of_le (show _ < 1 by decide) ?_; first | omega | (rw [List.length_replicate]; omega)) | (refine Nat.lt_of_lt_of_le (show _ < 2 by decide) ?_; first | omega | (rw [List.length_replicate]; omega)) | (simp only [List.length_cons, List.length_nil]; omega)) | refine J.draw (by assumption) follows_ok (by kernel_rfl) (by decide +kernel) (by decide +kernel) ?_ | refine J.done ⟨rfl, rfl, rfl, ?_⟩ | constructor | (intro _; exfalso; omega) | intro _)
      refine J.keep [8, 7, 6, 5, 2, 1] rfl ?_
      refine J.forN ls.length (fun s E L => ∃ (now' : List Bool) (ch : Bool), E = [(8, .int .i64 (s : Int)), (7, .bool ch), (6, .int .i64 (k : Int)), (5, .slice (some ⟨i5, 0, none⟩) ls.length ls.length), (2, .pointer (some ⟨idn, 0, none⟩)), (1, .slice r row.length q)] ∧
        L = [[(i5, .row (now'.flatMap eB.enc) 4 .fixed)], [(idn, .row [.slice a ls.length c] 24 .fixed)], []] ∧ Cls (rowsOf ls) G now' ∧ outs now' ≤ outs now ∧ (ch = true → outs now' + 1 ≤ outs now) ∧ (ch = false → ∀ s' : Nat, s' < s → isIn now' (s' : Int) → ∀ t, ((-1 : Int), t) ∈ nthAt [] (rowsOf ls) s' → isIn now' t))
        ⟨now, false, rfl, rfl, hcls, Nat.le_refl _, (fun h => by cases h), fun _ s' hs' => by omega⟩ ?_
      clear hcls hdone hnl
      rintro s E L hs' ⟨now', ch, rfl, rfl, hc', ho1, ho2, hcl⟩ ih4
      have hin := hr.at s
      have hil := hin.len
      have hrn := rowsOf_nth ls s
      have hnl := hc'.len
      rw [rowsOf_length] at hnl
      by_cases hlt : s < ls.length
      · repeat' (first | rfl | assumption | (apply stp tt_ok; constructor) | exact Rng.mk (by omega) (by omega) | exact Bd.mk (by first | omega | (refine Nat.lt_of_lt_of_le (show _ < 1 by decide) ?_; first | omega | (rw [List.length_replicate]; omega)) | (refine Nat.lt_of_lt_of_le (show _ < 2 by decide) ?_; first | omega | (rw [List.length_replicate]; omega)) | (simp only [List.length_cons, List.length_nil]; omega)) | refine J.draw (by assumption) follows_ok (by kernel_rfl) (by decide +kernel) (by decide +kernel) ?_ | refine J.done ⟨rfl, rfl, rfl, ?_⟩ | constructor | (intro _; exfalso; omega) | intro _)
        refine J.keep [9, 8, 7, 6, 5, 2, 1] rfl ?_
        refine J.forN (nthAt (eSl P2).dflt ls s).l.length (fun j E L => ∃ (now' : List Bool) (ch : Bool), E = [(9, .int .i64 (j : Int)), (8, .int .i64 (s : Int)), (7, .bool ch), (6, .int .i64 (k : Int)), (5, .slice (some ⟨i5, 0, none⟩) ls.length ls.length), (2, .pointer (some ⟨idn, 0, none⟩)), (1, .slice r row.length q)] ∧
          L = [[(i5, .row (now'.flatMap eB.enc) 4 .fixed)], [(idn, .row [.slice a ls.length c] 24 .fixed)], []] ∧ Cls (rowsOf ls) G now' ∧ outs now' ≤ outs now ∧ (ch = true → outs now' + 1 ≤ outs now) ∧ (ch = false → ∀ s' : Nat, s' < s → isIn now' (s' : Int) → ∀ t, ((-1 : Int), t) ∈ nthAt [] (rowsOf ls) s' → isIn now' t) ∧
          (ch = false → ∀ j', j' < j → (nthAt eP.dflt (nthAt (eSl P2).dflt ls s).l j').1 = -1 → isIn now' (nthAt eP.dflt (nthAt (eSl P2).dflt ls s).l j').2))
          ⟨now', ch, rfl, rfl, hc', ho1, ho2, hcl, fun _ j' hj' => by omega⟩ ?_
        clear hc' ho1 ho2 hcl hnl
        rintro j E L hj' ⟨now', ch, rfl, rfl, hc', ho1, ho2, hcl, hrow⟩ ih6
        have hnl := hc'.len
        rw [rowsOf_length] at hnl
        by_cases hjl : j < (nthAt (eSl P2).dflt ls s).l.length
        · have hmem : nthAt eP.dflt (nthAt (eSl P2).dflt ls s).l j ∈ nthAt [] (rowsOf ls) s := by rw [hrn]; exact List.mem_of_getElem? (nthAt_lt hjl)
          have hx := g4 s _ hmem
          have hxi : IsN (nthAt eP.dflt (nthAt (eSl P2).dflt ls s).l j).2 (nthAt eP.dflt (nthAt (eSl P2).dflt ls s).l j).2.toNat := by unfold IsN; omega
          repeat' (first | rfl | assumption | (apply stp tt_ok; constructor) | exact Rng.mk (by omega) (by omega) | exact Bd.mk (by first | omega | (refine Nat.lt_of_lt_of_le (show _ < 1 by decide) ?_; first | omega | (rw [List.length_replicate]; omega)) | (refine Nat.lt_of_lt_of_le (show _ < 2 by decide) ?_; first | omega | (rw [List.length_replicate]; omega)) | (simp only [List.length_cons, List.length_nil]; omega)) | refine J.draw (by assumption) follows_ok (by kernel_rfl) (by decide +kernel) (by decide +kernel) ?_ | refine J.done ⟨rfl, rfl, rfl, ?_⟩ | constructor | (intro _; exfalso; omega) | intro _)
          have stay : ∀ {b : Bool}, (b = false → (nthAt eP.dflt (nthAt (eSl P2).dflt ls s).l j).1 = -1 → isIn now' (nthAt eP.dflt (nthAt (eSl P2).dflt ls s).l j).2) → (b = false → ∀ j', j' < j → (nthAt eP.dflt (nthAt (eSl P2).dflt ls s).l j').1 = -1 → isIn now' (nthAt eP.dflt (nthAt (eSl P2).dflt ls s).l j').2) →
              b = false → ∀ j', j' < j + 1 → (nthAt eP.dflt (nthAt (eSl P2).dflt ls s).l j').1 = -1 → isIn now' (nthAt eP.dflt (nthAt (eSl P2).dflt ls s).l j').2 := by
            intro b h1 h2 hb j' hj' he
            by_cases e : j' = j
            · subst e; exact h1 hb he
            · exact h2 hb j' (by omega) he
          repeat' (first | rfl | assumption | (apply stp tt_ok; constructor) | exact Rng.mk (by omega) (by omega) | exact Bd.mk (by first | omega | (refine Nat.lt_of_lt_of_le (show _ < 1 by decide) ?_; first | omega | (rw [List.length_replicate]; omega)) | (refine Nat.lt_of_lt_of_le (show _ < 2 by decide) ?_; first | omega | (rw [List.length_replicate]; omega)) | (simp only [List.length_cons, List.length_nil]; omega)) | refine J.draw (by assumption) follows_ok (by kernel_rfl) (by decide +kernel) (by decide +kernel) ?_ | refine J.done ⟨rfl, rfl, rfl, ?_⟩ | constructor | (intro _; exfalso; omega) | intro _)
          cases hcs : nthAt eB.dflt now' s
          · repeat' (first | rfl | assumption | (apply stp tt_ok; constructor) | exact Rng.mk (by omega) (by omega) | exact Bd.mk (by first | omega | (refine Nat.lt_of_lt_of_le (show _ < 1 by decide) ?_; first | omega | (rw [List.length_replicate]; omega)) | (refine Nat.lt_of_lt_of_le (show _ < 2 by decide) ?_; first | omega | (rw [List.length_replicate]; omega)) | (simp only [List.length_cons, List.length_nil]; omega)) | refine J.draw (by assumption) follows_ok (by kernel_rfl) (by decide +kernel) (by decide +kernel) ?_ | refine J.done ⟨rfl, rfl, rfl, ?_⟩ | constructor | (intro _; exfalso; omega) | intro _)
            refine J.keep [8, 7, 6, 5, 2, 1] rfl (ih4 hlt _ _ ⟨now', ch, rfl, rfl, hc', ho1, ho2, fun h s' hs'' hin' => ?_⟩)
            by_cases e : s' = s
            · subst e
              have hin' : nthAt eB.dflt now' s' = true := hin'
              rw [hcs] at hin'
              cases hin'
            · exact hcl h s' (by omega) hin'
          · repeat' (first | rfl | assumption | (apply stp tt_ok; constructor) | exact Rng.mk (by omega) (by omega) | exact Bd.mk (by first | omega | (refine Nat.lt_of_lt_of_le (show _ < 1 by decide) ?_; first | omega | (rw [List.length_replicate]; omega)) | (refine Nat.lt_of_lt_of_le (show _ < 2 by decide) ?_; first | omega | (rw [List.length_replicate]; omega)) | (simp only [List.length_cons, List.length_nil]; omega)) | refine J.draw (by assumption) follows_ok (by kernel_rfl) (by decide +kernel) (by decide +kernel) ?_ | refine J.done ⟨rfl, rfl, rfl, ?_⟩ | constructor | (intro _; exfalso; omega) | intro _)
            · rename_i he
              cases hct : nthAt eB.dflt now' (nthAt eP.dflt (nthAt (eSl P2).dflt ls s).l j).2.toNat
              · repeat' (first | rfl | assumption | (apply stp tt_ok; constructor) | exact Rng.mk (by omega) (by omega) | exact Bd.mk (by first | omega | (refine Nat.lt_of_lt_of_le (show _ < 1 by decide) ?_; first | omega | (rw [List.length_replicate]; omega)) | (refine Nat.lt_of_lt_of_le (show _ < 2 by decide) ?_; first | omega | (rw [List.length_replicate]; omega)) | (simp only [List.length_cons, List.length_nil]; omega)) | refine J.draw (by assumption) follows_ok (by kernel_rfl) (by decide +kernel) (by decide +kernel) ?_ | refine J.done ⟨rfl, rfl, rfl, ?_⟩ | constructor | (intro _; exfalso; omega) | intro _)
                refine J.dropHd ?_
                have hset := outs_set (k := (nthAt eP.dflt (nthAt (eSl P2).dflt ls s).l j).2.toNat) (by omega) hct
                refine J.keep [9, 8, 7, 6, 5, 2, 1] rfl (ih6 hjl _ _ ⟨_, true, rfl, rfl, hc'.add (by rw [rowsOf_length]; omega) ?_, by omega, (fun _ => by omega), (fun h => by cases h), fun h => by cases h⟩)
                rw [Int.toNat_of_nonneg hx.2.1]
                refine .step (hc'.sound s (by rw [rowsOf_length]; exact hlt) hcs) ?_
                rw [Int.toNat_natCast, ← he]
                exact hmem
              · repeat' (first | rfl | assumption | (apply stp tt_ok; constructor) | exact Rng.mk (by omega) (by omega) | exact Bd.mk (by first | omega | (refine Nat.lt_of_lt_of_le (show _ < 1 by decide) ?_; first | omega | (rw [List.length_replicate]; omega)) | (refine Nat.lt_of_lt_of_le (show _ < 2 by decide) ?_; first | omega | (rw [List.length_replicate]; omega)) | (simp only [List.length_cons, List.length_nil]; omega)) | refine J.draw (by assumption) follows_ok (by kernel_rfl) (by decide +kernel) (by decide +kernel) ?_ | refine J.done ⟨rfl, rfl, rfl, ?_⟩ | constructor | (intro _; exfalso; omega) | intro _)
                refine J.dropHd ?_
                exact J.keep [9, 8, 7, 6, 5, 2, 1] rfl (ih6 hjl _ _ ⟨now', ch, rfl, rfl, hc', ho1, ho2, hcl, stay (fun _ _ => hct) hrow⟩)
            · rename_i he
              refine J.dropHd ?_
              exact J.keep [9, 8, 7, 6, 5, 2, 1] rfl (ih6 hjl _ _ ⟨now', ch, rfl, rfl, hc', ho1, ho2, hcl, stay (fun _ e => absurd e he) hrow⟩)
        · repeat' (first | rfl | assumption | (apply stp tt_ok; constructor) | exact Rng.mk (by omega) (by omega) | exact Bd.mk (by first | omega | (refine Nat.lt_of_lt_of_le (show _ < 1 by decide) ?_; first | omega | (rw [List.length_replicate]; omega)) | (refine Nat.lt_of_lt_of_le (show _ < 2 by decide) ?_; first | omega | (rw [List.length_replicate]; omega)) | (simp only [List.length_cons, List.length_nil]; omega)) | refine J.draw (by assumption) follows_ok (by kernel_rfl) (by decide +kernel) (by decide +kernel) ?_ | refine J.done ⟨rfl, rfl, rfl, ?_⟩ | constructor | (intro _; exfalso; omega) | intro _)
          refine J.keep [8, 7, 6, 5, 2, 1] rfl (ih4 hlt _ _ ⟨now', ch, rfl, rfl, hc', ho1, ho2, fun h s' hs'' hin' t ht => ?_⟩)
          by_cases e : s' = s
          · subst e
            rw [hrn] at ht
            obtain ⟨j', hj'', e2⟩ := List.mem_iff_getElem.1 ht
            have := hrow h j' (by omega)
            rw [nthAt_get hj'', e2] at this
            exact this rfl
          · exact hcl h s' (by omega) hin' t ht
      · repeat' (first | rfl | assumption | (apply stp tt_ok; constructor) | exact Rng.mk (by omega) (by omega) | exact Bd.mk (by first | omega | (refine Nat.lt_of_lt_of_le (show _ < 1 by decide) ?_; first | omega | (rw [List.length_replicate]; omega)) | (refine Nat.lt_of_lt_of_le (show _ < 2 by decide) ?_; first | omega | (rw [List.length_replicate]; omega)) | (simp only [List.length_cons, List.length_nil]; omega)) | refine J.draw (by assumption) follows_ok (by kernel_rfl) (by decide +kernel) (by decide +kernel) ?_ | refine J.done ⟨rfl, rfl, rfl, ?_⟩ | constructor | (intro _; exfalso; omega) | intro _)
        refine J.keep [7, 6, 5, 2, 1] rfl (ihw _ _ _ _ _ _ ?_ ⟨now', ch, rfl, rfl, rfl, rfl, rfl, rfl, hc', fun h s' hs'' => hcl h s' (by omega)⟩)
        cases ch
        · simp
        · have := ho2 rfl
          simp only [if_true]
          omega
end
end Go.Proofs.YtmlgmgjakhbhjaaGreatDoor.Ab

namespace Go.Proofs.YtmlgmgjakhbhjaaGreatDoor.Ab
open Go Go.Proofs
noncomputable section
attribute [local irreducible] J Con Lv CallJ DCon

set_option maxHeartbeats 4000000 in
theorem f4_ok {hk : HKT} (U : HkU hk) (W : Wakes hk) (M : Imm) {a r : Option Addr} {c q : Nat} {ls : List (SlOf P2)} {row : List Int} (hr : Rows M eP a ls) (hw : IsSl M eI r row) (hT : TabM M) :
    Con Tryz.prog hk 4 [.agg ⟨[.slice a ls.length c]⟩, .slice r row.length q] M [] (Gives (.bool true) []) := by
  refine Con.of_body (U.no 4 rfl) Tryz.func4 rfl rfl Tryz.ntmps4 rfl rfl ?_
  have hout := hr.out
  have hlen := hout.len
  have hwlen := hw.len
  have hn := U.n
  repeat' (first | rfl | assumption | (apply stp tt_ok; constructor) | exact Rng.mk (by omega) (by omega) | exact Bd.mk (by first | omega | (refine Nat.lt_of_lt_of_le (show _ < 1 by decide) ?_; first | omega | (rw [List.length_replicate]; omega)) | (refine Nat.lt_of_lt_of_le (show _ < 2 by decide) ?_; first | omega | (rw [List.length_replicate]; omega)) | (simp only [List.length_cons, List.length_nil]; omega)) | refine J.draw (by assumption) follows_ok (by kernel_rfl) (by decide +kernel) (by decide +kernel) ?_ | refine J.done ⟨rfl, rfl, rfl, ?_⟩ | constructor | (intro _; exfalso; omega) | intro _)
  rename_i idn
  refine CallJ.val (f7_ok U M hr (by omega)) ?_
  cases hL : largeB (rowsOf ls) 1500
  · have hb := largeB_small (by omega) hL
    repeat' (first | rfl | assumption | (apply stp tt_ok; constructor) | exact Rng.mk (by omega) (by omega) | exact Bd.mk (by first | omega | (refine Nat.lt_of_lt_of_le (show _ < 1 by decide) ?_; first | omega | (rw [List.length_replicate]; omega)) | (refine Nat.lt_of_lt_of_le (show _ < 2 by decide) ?_; first | omega | (rw [List.length_replicate]; omega)) | (simp only [List.length_cons, List.length_nil]; omega)) | refine J.draw (by assumption) follows_ok (by kernel_rfl) (by decide +kernel) (by decide +kernel) ?_ | refine J.done ⟨rfl, rfl, rfl, ?_⟩ | constructor | (intro _; exfalso; omega) | intro _)
    refine CallJ.val (f19_ok U M hr (by omega)) ?_
    cases hg : netGood (rowsOf ls)
    · repeat' (first | rfl | assumption | (apply stp tt_ok; constructor) | exact Rng.mk (by omega) (by omega) | exact Bd.mk (by first | omega | (refine Nat.lt_of_lt_of_le (show _ < 1 by decide) ?_; first | omega | (rw [List.length_replicate]; omega)) | (refine Nat.lt_of_lt_of_le (show _ < 2 by decide) ?_; first | omega | (rw [List.length_replicate]; omega)) | (simp only [List.length_cons, List.length_nil]; omega)) | refine J.draw (by assumption) follows_ok (by kernel_rfl) (by decide +kernel) (by decide +kernel) ?_ | refine J.done ⟨rfl, rfl, rfl, ?_⟩ | constructor | (intro _; exfalso; omega) | intro _)
      refine CallJ.val (W M) ?_
      repeat' (first | rfl | assumption | (apply stp tt_ok; constructor) | exact Rng.mk (by omega) (by omega) | exact Bd.mk (by first | omega | (refine Nat.lt_of_lt_of_le (show _ < 1 by decide) ?_; first | omega | (rw [List.length_replicate]; omega)) | (refine Nat.lt_of_lt_of_le (show _ < 2 by decide) ?_; first | omega | (rw [List.length_replicate]; omega)) | (simp only [List.length_cons, List.length_nil]; omega)) | refine J.draw (by assumption) follows_ok (by kernel_rfl) (by decide +kernel) (by decide +kernel) ?_ | refine J.done ⟨rfl, rfl, rfl, ?_⟩ | constructor | (intro _; exfalso; omega) | intro _)
      exact J.give0 tt_ok rfl (.cons (.tmp rfl) .nil) rfl
    · repeat' (first | rfl | assumption | (apply stp tt_ok; constructor) | exact Rng.mk (by omega) (by omega) | exact Bd.mk (by first | omega | (refine Nat.lt_of_lt_of_le (show _ < 1 by decide) ?_; first | omega | (rw [List.length_replicate]; omega)) | (refine Nat.lt_of_lt_of_le (show _ < 2 by decide) ?_; first | omega | (rw [List.length_replicate]; omega)) | (simp only [List.length_cons, List.length_nil]; omega)) | refine J.draw (by assumption) follows_ok (by kernel_rfl) (by decide +kernel) (by decide +kernel) ?_ | refine J.done ⟨rfl, rfl, rfl, ?_⟩ | constructor | (intro _; exfalso; omega) | intro _)
      · refine CallJ.val (W M) ?_
        repeat' (first | rfl | assumption | (apply stp tt_ok; constructor) | exact Rng.mk (by omega) (by omega) | exact Bd.mk (by first | omega | (refine Nat.lt_of_lt_of_le (show _ < 1 by decide) ?_; first | omega | (rw [List.length_replicate]; omega)) | (refine Nat.lt_of_lt_of_le (show _ < 2 by decide) ?_; first | omega | (rw [List.length_replicate]; omega)) | (simp only [List.length_cons, List.length_nil]; omega)) | refine J.draw (by assumption) follows_ok (by kernel_rfl) (by decide +kernel) (by decide +kernel) ?_ | refine J.done ⟨rfl, rfl, rfl, ?_⟩ | constructor | (intro _; exfalso; omega) | intro _)
        exact J.give0 tt_ok rfl (.cons (.tmp rfl) .nil) rfl
      · refine CallJ.ret0 (f10_ok U M hr hT 150) ?_
        intro v l' hpost
        have hpost : f10Post (rowsOf ls) 150 v l' := hpost
        unfold f10Post at hpost
        rw [if_pos hg] at hpost
        cases h1 : subsetP (rowsOf ls) 150 with
        | none =>
          rw [h1] at hpost
          obtain ⟨rfl, rfl⟩ := hpost
          repeat' (first | rfl | assumption | (apply stp tt_ok; constructor) | exact Rng.mk (by omega) (by omega) | exact Bd.mk (by first | omega | (refine Nat.lt_of_lt_of_le (show _ < 1 by decide) ?_; first | omega | (rw [List.length_replicate]; omega)) | (refine Nat.lt_of_lt_of_le (show _ < 2 by decide) ?_; first | omega | (rw [List.length_replicate]; omega)) | (simp only [List.length_cons, List.length_nil]; omega)) | refine J.draw (by assumption) follows_ok (by kernel_rfl) (by decide +kernel) (by decide +kernel) ?_ | refine J.done ⟨rfl, rfl, rfl, ?_⟩ | constructor | (intro _; exfalso; omega) | intro _)
          refine CallJ.val (W _) ?_
          repeat' (first | rfl | assumption | (apply stp tt_ok; constructor) | exact Rng.mk (by omega) (by omega) | exact Bd.mk (by first | omega | (refine Nat.lt_of_lt_of_le (show _ < 1 by decide) ?_; first | omega | (rw [List.length_replicate]; omega)) | (refine Nat.lt_of_lt_of_le (show _ < 2 by decide) ?_; first | omega | (rw [List.length_replicate]; omega)) | (simp only [List.length_cons, List.length_nil]; omega)) | refine J.draw (by assumption) follows_ok (by kernel_rfl) (by decide +kernel) (by decide +kernel) ?_ | refine J.done ⟨rfl, rfl, rfl, ?_⟩ | constructor | (intro _; exfalso; omega) | intro _)
          exact J.give0 tt_ok rfl (.cons (.tmp rfl) .nil) rfl
        | some p =>
          obtain ⟨S, E⟩ := p
          rw [h1] at hpost
          obtain ⟨u, rfl, hA⟩ := hpost
          obtain ⟨s1, s2, s3, s4, s5, _, _⟩ := subsetP_spec hg h1
          obtain ⟨hmade, hS0⟩ := subsetP_made h1
          have bE : E.length ≤ 1099511627776 := by omega
          have bR : ∀ r ∈ E, r.length ≤ 1099511627776 := fun r hr => by have := s5 r hr; omega
          have bB : (S.map endsB).length ≤ 1099511627776 := by rw [List.length_map]; omega
          refine J.freezeAuto hA .here bE bR bB fun N1 hN1 a1 c1 ls1 b1 d1 hu hE1 hr1 hb1 => ?_
          subst hu
          have hl1 : ls1.length = S.length := by rw [← s4, ← hE1]; simp
          have hrN := hr.mono hN1
          have hwN := hw.mono hN1
          have hout1 := hr1.out
          have hgood : autoGood (rowsOf ls1) (S.map endsB) = true := by rw [hE1]; exact made_good hg hmade s4 s1 s2
          obtain ⟨_, _, _, g4⟩ := autoGood_spec hgood
          rw [rowsOf_length] at g4
          have htg : takesP (rowsOf ls1) (S.map endsB) row = goesP (rowsOf ls) row := by
            unfold takesP goesP
            rw [hgood, hg, hE1, takes_goes hg hmade s4 row hS0]
          repeat' (first | rfl | assumption | (apply stp tt_ok; constructor) | exact Rng.mk (by omega) (by omega) | exact Bd.mk (by first | omega | (refine Nat.lt_of_lt_of_le (show _ < 1 by decide) ?_; first | omega | (rw [List.length_replicate]; omega)) | (refine Nat.lt_of_lt_of_le (show _ < 2 by decide) ?_; first | omega | (rw [List.length_replicate]; omega)) | (simp only [List.length_cons, List.length_nil]; omega)) | refine J.draw (by assumption) follows_ok (by kernel_rfl) (by decide +kernel) (by decide +kernel) ?_ | refine J.done ⟨rfl, rfl, rfl, ?_⟩ | constructor | (intro _; exfalso; omega) | intro _)
          refine CallJ.val (f14_ok U N1 hr1 hb1) ?_
          rw [hgood]
          repeat' (first | rfl | assumption | (apply stp tt_ok; constructor) | exact Rng.mk (by omega) (by omega) | exact Bd.mk (by first | omega | (refine Nat.lt_of_lt_of_le (show _ < 1 by decide) ?_; first | omega | (rw [List.length_replicate]; omega)) | (refine Nat.lt_of_lt_of_le (show _ < 2 by decide) ?_; first | omega | (rw [List.length_replicate]; omega)) | (simp only [List.length_cons, List.length_nil]; omega)) | refine J.draw (by assumption) follows_ok (by kernel_rfl) (by decide +kernel) (by decide +kernel) ?_ | refine J.done ⟨rfl, rfl, rfl, ?_⟩ | constructor | (intro _; exfalso; omega) | intro _)
          rename_i id5 h00 hne idm
          refine J.keep [8, 7, 5, 2, 1] rfl ?_
          refine J.while (fun mm E D' M' L rc' => ∃ (met : List Bool) (ch : Bool), mm = (if ch then outs met + 1 else 0) ∧ E = [(8, .bool ch), (7, .slice (some ⟨idm, 0, none⟩) ls1.length ls1.length), (5, .pointer (some ⟨id5, 0, none⟩)), (2, .pointer (some ⟨idn, 0, none⟩)), (1, .slice r row.length q)] ∧ D' = [] ∧ M' = N1 ∧ rc' = .norm ∧
            L = [[(idm, .row (met.flatMap eB.enc) 4 .fixed)], [(id5, .row [.slice a1 ls1.length c1, .slice b1 (S.map endsB).length d1] 27 .fixed)], [(idn, .row [.slice a ls.length c] 24 .fixed)], []] ∧ met.length = ls1.length ∧ isIn met 0 ∧ (ch = false → ∀ s : Nat, s < ls1.length → isIn met (s : Int) → ∀ x ∈ nthAt [] (rowsOf ls1) s, isIn met x.2))
            (m := outs ((List.replicate ls1.length false).set 0 true) + 1) ⟨_, true, rfl, rfl, rfl, rfl, rfl, rfl, by simp, isIn_self (by rw [List.length_replicate]; omega), fun h => by cases h⟩ ?_
          rintro mm E' D' M' L rc' ⟨met, ch, rfl, rfl, rfl, rfl, rfl, rfl, hml, hm0, hdone⟩ ihw
          cases ch
          · have hall : ∀ j, j < ls1.length → nthAt eB.dflt met j = true := fun j hj => met_all hmade hm0 (fun s hs hin x hx => hdone rfl s (by omega) hin x (by rw [hE1]; exact hx)) j (by omega)
            clear hdone hm0 ihw
            repeat' (first | rfl | assumption | (apply stp tt_ok; constructor) | exact Rng.mk (by omega) (by omega) | exact Bd.mk (by first | omega | (refine Nat.lt_of_lt_of_le (show _ < 1 by decide) ?_; first | omega | (rw [List.length_replicate]; omega)) | (refine Nat.lt_of_lt_of_le (show _ < 2 by decide) ?_; first | omega | (rw [List.length_replicate]; omega)) | (simp only [List.length_cons, List.length_nil]; omega)) | refine J.draw (by assumption) follows_ok (by kernel_rfl) (by decide +kernel) (by decide +kernel) ?_ | refine J.done ⟨rfl, rfl, rfl, ?_⟩ | constructor | (intro _; exfalso; omega) | intro _)
            refine J.keep [12, 7, 5, 2, 1] rfl ?_
            refine J.forN ls1.length (fun s E L => E = [(12, .int .i64 (s : Int)), (7, .slice (some ⟨idm, 0, none⟩) ls1.length ls1.length), (5, .pointer (some ⟨id5, 0, none⟩)), (2, .pointer (some ⟨idn, 0, none⟩)), (1, .slice r row.length q)] ∧
              L = [[(idm, .row (met.flatMap eB.enc) 4 .fixed)], [(id5, .row [.slice a1 ls1.length c1, .slice b1 (S.map endsB).length d1] 27 .fixed)], [(idn, .row [.slice a ls.length c] 24 .fixed)], []]) ⟨rfl, rfl⟩ ?_
            rintro s E' L hs' ⟨rfl, rfl⟩ ih
            by_cases hlt : s < ls1.length
            · repeat' (first | rfl | assumption | (apply stp tt_ok; constructor) | exact Rng.mk (by omega) (by omega) | exact Bd.mk (by first | omega | (refine Nat.lt_of_lt_of_le (show _ < 1 by decide) ?_; first | omega | (rw [List.length_replicate]; omega)) | (refine Nat.lt_of_lt_of_le (show _ < 2 by decide) ?_; first | omega | (rw [List.length_replicate]; omega)) | (simp only [List.length_cons, List.length_nil]; omega)) | refine J.draw (by assumption) follows_ok (by kernel_rfl) (by decide +kernel) (by decide +kernel) ?_ | refine J.done ⟨rfl, rfl, rfl, ?_⟩ | constructor | (intro _; exfalso; omega) | intro _)
              rw [hall s hlt]
              repeat' (first | rfl | assumption | (apply stp tt_ok; constructor) | exact Rng.mk (by omega) (by omega) | exact Bd.mk (by first | omega | (refine Nat.lt_of_lt_of_le (show _ < 1 by decide) ?_; first | omega | (rw [List.length_replicate]; omega)) | (refine Nat.lt_of_lt_of_le (show _ < 2 by decide) ?_; first | omega | (rw [List.length_replicate]; omega)) | (simp only [List.length_cons, List.length_nil]; omega)) | refine J.draw (by assumption) follows_ok (by kernel_rfl) (by decide +kernel) (by decide +kernel) ?_ | refine J.done ⟨rfl, rfl, rfl, ?_⟩ | constructor | (intro _; exfalso; omega) | intro _)
              exact J.keep [12, 7, 5, 2, 1] rfl (ih hlt _ _ ⟨rfl, rfl⟩)
            · repeat' (first | rfl | assumption | (apply stp tt_ok; constructor) | exact Rng.mk (by omega) (by omega) | exact Bd.mk (by first | omega | (refine Nat.lt_of_lt_of_le (show _ < 1 by decide) ?_; first | omega | (rw [List.length_replicate]; omega)) | (refine Nat.lt_of_lt_of_le (show _ < 2 by decide) ?_; first | omega | (rw [List.length_replicate]; omega)) | (simp only [List.length_cons, List.length_nil]; omega)) | refine J.draw (by assumption) follows_ok (by kernel_rfl) (by decide +kernel) (by decide +kernel) ?_ | refine J.done ⟨rfl, rfl, rfl, ?_⟩ | constructor | (intro _; exfalso; omega) | intro _)
              refine J.drawL tt_ok 2 hn follows_ok (by kernel_rfl) (by decide +kernel) (by decide +kernel) rfl rfl rfl rfl ?_
              repeat' (first | rfl | assumption | (apply stp tt_ok; constructor) | exact Rng.mk (by omega) (by omega) | exact Bd.mk (by first | omega | (refine Nat.lt_of_lt_of_le (show _ < 1 by decide) ?_; first | omega | (rw [List.length_replicate]; omega)) | (refine Nat.lt_of_lt_of_le (show _ < 2 by decide) ?_; first | omega | (rw [List.length_replicate]; omega)) | (simp only [List.length_cons, List.length_nil]; omega)) | refine J.draw (by assumption) follows_ok (by kernel_rfl) (by decide +kernel) (by decide +kernel) ?_ | refine J.done ⟨rfl, rfl, rfl, ?_⟩ | constructor | (intro _; exfalso; omega) | intro _)
              refine CallJ.val (f16_ok U _ hr1 hb1 hwN) ?_
              rw [htg]
              repeat' (first | rfl | assumption | (apply stp tt_ok; constructor) | exact Rng.mk (by omega) (by omega) | exact Bd.mk (by first | omega | (refine Nat.lt_of_lt_of_le (show _ < 1 by decide) ?_; first | omega | (rw [List.length_replicate]; omega)) | (refine Nat.lt_of_lt_of_le (show _ < 2 by decide) ?_; first | omega | (rw [List.length_replicate]; omega)) | (simp only [List.length_cons, List.length_nil]; omega)) | refine J.draw (by assumption) follows_ok (by kernel_rfl) (by decide +kernel) (by decide +kernel) ?_ | refine J.done ⟨rfl, rfl, rfl, ?_⟩ | constructor | (intro _; exfalso; omega) | intro _)
              refine CallJ.val (f20_ok U _ hrN hwN (by omega)) ?_
              repeat' (first | rfl | assumption | (apply stp tt_ok; constructor) | exact Rng.mk (by omega) (by omega) | exact Bd.mk (by first | omega | (refine Nat.lt_of_lt_of_le (show _ < 1 by decide) ?_; first | omega | (rw [List.length_replicate]; omega)) | (refine Nat.lt_of_lt_of_le (show _ < 2 by decide) ?_; first | omega | (rw [List.length_replicate]; omega)) | (simp only [List.length_cons, List.length_nil]; omega)) | refine J.draw (by assumption) follows_ok (by kernel_rfl) (by decide +kernel) (by decide +kernel) ?_ | refine J.done ⟨rfl, rfl, rfl, ?_⟩ | constructor | (intro _; exfalso; omega) | intro _)
              · refine CallJ.val (W _) ?_
                repeat' (first | rfl | assumption | (apply stp tt_ok; constructor) | exact Rng.mk (by omega) (by omega) | exact Bd.mk (by first | omega | (refine Nat.lt_of_lt_of_le (show _ < 1 by decide) ?_; first | omega | (rw [List.length_replicate]; omega)) | (refine Nat.lt_of_lt_of_le (show _ < 2 by decide) ?_; first | omega | (rw [List.length_replicate]; omega)) | (simp only [List.length_cons, List.length_nil]; omega)) | refine J.draw (by assumption) follows_ok (by kernel_rfl) (by decide +kernel) (by decide +kernel) ?_ | refine J.done ⟨rfl, rfl, rfl, ?_⟩ | constructor | (intro _; exfalso; omega) | intro _)
                exact J.give0 tt_ok rfl (.cons (.tmp rfl) .nil) rfl
              · rename_i hne
                exact absurd rfl hne
          · repeat' (first | rfl | assumption | (apply stp tt_ok; constructor) | exact Rng.mk (by omega) (by omega) | exact Bd.mk (by first | omega | (refine Nat.lt_of_lt_of_le (show _ < 1 by decide) ?_; first | omega | (rw [List.length_replicate]; omega)) | (refine Nat.lt_of_lt_of_le (show _ < 2 by decide) ?_; first | omega | (rw [List.length_replicate]; omega)) | (simp only [List.length_cons, List.length_nil]; omega)) | refine J.draw (by assumption) follows_ok (by kernel_rfl) (by decide +kernel) (by decide +kernel) ?_ | refine J.done ⟨rfl, rfl, rfl, ?_⟩ | constructor | (intro _; exfalso; omega) | intro _)
            refine J.keep [9, 8, 7, 5, 2, 1] rfl ?_
            refine J.forN ls1.length (fun s E L => ∃ (met' : List Bool) (ch : Bool), E = [(9, .int .i64 (s : Int)), (8, .bool ch), (7, .slice (some ⟨idm, 0, none⟩) ls1.length ls1.length), (5, .pointer (some ⟨id5, 0, none⟩)), (2, .pointer (some ⟨idn, 0, none⟩)), (1, .slice r row.length q)] ∧
              L = [[(idm, .row (met'.flatMap eB.enc) 4 .fixed)], [(id5, .row [.slice a1 ls1.length c1, .slice b1 (S.map endsB).length d1] 27 .fixed)], [(idn, .row [.slice a ls.length c] 24 .fixed)], []] ∧ met'.length = ls1.length ∧ isIn met' 0 ∧ outs met' ≤ outs met ∧ (ch = true → outs met' + 1 ≤ outs met) ∧
              (ch = false → ∀ s' : Nat, s' < s → isIn met' (s' : Int) → ∀ x ∈ nthAt [] (rowsOf ls1) s', isIn met' x.2))
              ⟨met, false, rfl, rfl, hml, hm0, Nat.le_refl _, (fun h => by cases h), fun _ s' hs' => by omega⟩ ?_
            clear hml hm0 hdone
            rintro s E' L hs' ⟨met', ch, rfl, rfl, hml, hm0, ho1, ho2, hcl⟩ ih4
            have hin := hr1.at s
            have hil := hin.len
            have hrn := rowsOf_nth ls1 s
            by_cases hlt : s < ls1.length
            · repeat' (first | rfl | assumption | (apply stp tt_ok; constructor) | exact Rng.mk (by omega) (by omega) | exact Bd.mk (by first | omega | (refine Nat.lt_of_lt_of_le (show _ < 1 by decide) ?_; first | omega | (rw [List.length_replicate]; omega)) | (refine Nat.lt_of_lt_of_le (show _ < 2 by decide) ?_; first | omega | (rw [List.length_replicate]; omega)) | (simp only [List.length_cons, List.length_nil]; omega)) | refine J.draw (by assumption) follows_ok (by kernel_rfl) (by decide +kernel) (by decide +kernel) ?_ | refine J.done ⟨rfl, rfl, rfl, ?_⟩ | constructor | (intro _; exfalso; omega) | intro _)
              refine J.keep [10, 9, 8, 7, 5, 2, 1] rfl ?_
              refine J.forN (nthAt (eSl P2).dflt ls1 s).l.length (fun j E L => ∃ (met' : List Bool) (ch : Bool), E = [(10, .int .i64 (j : Int)), (9, .int .i64 (s : Int)), (8, .bool ch), (7, .slice (some ⟨idm, 0, none⟩) ls1.length ls1.length), (5, .pointer (some ⟨id5, 0, none⟩)), (2, .pointer (some ⟨idn, 0, none⟩)), (1, .slice r row.length q)] ∧
                L = [[(idm, .row (met'.flatMap eB.enc) 4 .fixed)], [(id5, .row [.slice a1 ls1.length c1, .slice b1 (S.map endsB).length d1] 27 .fixed)], [(idn, .row [.slice a ls.length c] 24 .fixed)], []] ∧ met'.length = ls1.length ∧ isIn met' 0 ∧ outs met' ≤ outs met ∧ (ch = true → outs met' + 1 ≤ outs met) ∧
                (ch = false → ∀ s' : Nat, s' < s → isIn met' (s' : Int) → ∀ x ∈ nthAt [] (rowsOf ls1) s', isIn met' x.2) ∧ (ch = false → ∀ j', j' < j → isIn met' (nthAt eP.dflt (nthAt (eSl P2).dflt ls1 s).l j').2))
                ⟨met', ch, rfl, rfl, hml, hm0, ho1, ho2, hcl, fun _ j' hj' => by omega⟩ ?_
              clear hml hm0 ho1 ho2 hcl
              rintro j E' L hj' ⟨met', ch, rfl, rfl, hml, hm0, ho1, ho2, hcl, hrow⟩ ih6
              by_cases hjl : j < (nthAt (eSl P2).dflt ls1 s).l.length
              · have hx := g4 s j hlt (by rw [hrn]; exact hjl)
                rw [hrn] at hx
                have hxi : IsN (nthAt eP.dflt (nthAt (eSl P2).dflt ls1 s).l j).2 (nthAt eP.dflt (nthAt (eSl P2).dflt ls1 s).l j).2.toNat := by unfold IsN; omega
                repeat' (first | rfl | assumption | (apply stp tt_ok; constructor) | exact Rng.mk (by omega) (by omega) | exact Bd.mk (by first | omega | (refine Nat.lt_of_lt_of_le (show _ < 1 by decide) ?_; first | omega | (rw [List.length_replicate]; omega)) | (refine Nat.lt_of_lt_of_le (show _ < 2 by decide) ?_; first | omega | (rw [List.length_replicate]; omega)) | (simp only [List.length_cons, List.length_nil]; omega)) | refine J.draw (by assumption) follows_ok (by kernel_rfl) (by decide +kernel) (by decide +kernel) ?_ | refine J.done ⟨rfl, rfl, rfl, ?_⟩ | constructor | (intro _; exfalso; omega) | intro _)
                cases hcs : nthAt eB.dflt met' s
                · repeat' (first | rfl | assumption | (apply stp tt_ok; constructor) | exact Rng.mk (by omega) (by omega) | exact Bd.mk (by first | omega | (refine Nat.lt_of_lt_of_le (show _ < 1 by decide) ?_; first | omega | (rw [List.length_replicate]; omega)) | (refine Nat.lt_of_lt_of_le (show _ < 2 by decide) ?_; first | omega | (rw [List.length_replicate]; omega)) | (simp only [List.length_cons, List.length_nil]; omega)) | refine J.draw (by assumption) follows_ok (by kernel_rfl) (by decide +kernel) (by decide +kernel) ?_ | refine J.done ⟨rfl, rfl, rfl, ?_⟩ | constructor | (intro _; exfalso; omega) | intro _)
                  refine J.keep [9, 8, 7, 5, 2, 1] rfl (ih4 hlt _ _ ⟨met', ch, rfl, rfl, hml, hm0, ho1, ho2, fun h s' hs'' hin' => ?_⟩)
                  by_cases e : s' = s
                  · subst e
                    have hin' : nthAt eB.dflt met' s' = true := hin'
                    rw [hcs] at hin'
                    cases hin'
                  · exact hcl h s' (by omega) hin'
                · repeat' (first | rfl | assumption | (apply stp tt_ok; constructor) | exact Rng.mk (by omega) (by omega) | exact Bd.mk (by first | omega | (refine Nat.lt_of_lt_of_le (show _ < 1 by decide) ?_; first | omega | (rw [List.length_replicate]; omega)) | (refine Nat.lt_of_lt_of_le (show _ < 2 by decide) ?_; first | omega | (rw [List.length_replicate]; omega)) | (simp only [List.length_cons, List.length_nil]; omega)) | refine J.draw (by assumption) follows_ok (by kernel_rfl) (by decide +kernel) (by decide +kernel) ?_ | refine J.done ⟨rfl, rfl, rfl, ?_⟩ | constructor | (intro _; exfalso; omega) | intro _)
                  cases hct : nthAt eB.dflt met' (nthAt eP.dflt (nthAt (eSl P2).dflt ls1 s).l j).2.toNat
                  · repeat' (first | rfl | assumption | (apply stp tt_ok; constructor) | exact Rng.mk (by omega) (by omega) | exact Bd.mk (by first | omega | (refine Nat.lt_of_lt_of_le (show _ < 1 by decide) ?_; first | omega | (rw [List.length_replicate]; omega)) | (refine Nat.lt_of_lt_of_le (show _ < 2 by decide) ?_; first | omega | (rw [List.length_replicate]; omega)) | (simp only [List.length_cons, List.length_nil]; omega)) | refine J.draw (by assumption) follows_ok (by kernel_rfl) (by decide +kernel) (by decide +kernel) ?_ | refine J.done ⟨rfl, rfl, rfl, ?_⟩ | constructor | (intro _; exfalso; omega) | intro _)
                    have hset := outs_set (k := (nthAt eP.dflt (nthAt (eSl P2).dflt ls1 s).l j).2.toNat) (by omega) hct
                    exact J.keep [10, 9, 8, 7, 5, 2, 1] rfl (ih6 hjl _ _ ⟨_, true, rfl, rfl, by rw [List.length_set]; exact hml, isIn_set (by omega) hm0, by omega, (fun _ => by omega), (fun h => by cases h), fun h => by cases h⟩)
                  · repeat' (first | rfl | assumption | (apply stp tt_ok; constructor) | exact Rng.mk (by omega) (by omega) | exact Bd.mk (by first | omega | (refine Nat.lt_of_lt_of_le (show _ < 1 by decide) ?_; first | omega | (rw [List.length_replicate]; omega)) | (refine Nat.lt_of_lt_of_le (show _ < 2 by decide) ?_; first | omega | (rw [List.length_replicate]; omega)) | (simp only [List.length_cons, List.length_nil]; omega)) | refine J.draw (by assumption) follows_ok (by kernel_rfl) (by decide +kernel) (by decide +kernel) ?_ | refine J.done ⟨rfl, rfl, rfl, ?_⟩ | constructor | (intro _; exfalso; omega) | intro _)
                    refine J.keep [10, 9, 8, 7, 5, 2, 1] rfl (ih6 hjl _ _ ⟨met', ch, rfl, rfl, hml, hm0, ho1, ho2, hcl, fun h j' hj'' => ?_⟩)
                    by_cases e : j' = j
                    · subst e; exact hct
                    · exact hrow h j' (by omega)
              · repeat' (first | rfl | assumption | (apply stp tt_ok; constructor) | exact Rng.mk (by omega) (by omega) | exact Bd.mk (by first | omega | (refine Nat.lt_of_lt_of_le (show _ < 1 by decide) ?_; first | omega | (rw [List.length_replicate]; omega)) | (refine Nat.lt_of_lt_of_le (show _ < 2 by decide) ?_; first | omega | (rw [List.length_replicate]; omega)) | (simp only [List.length_cons, List.length_nil]; omega)) | refine J.draw (by assumption) follows_ok (by kernel_rfl) (by decide +kernel) (by decide +kernel) ?_ | refine J.done ⟨rfl, rfl, rfl, ?_⟩ | constructor | (intro _; exfalso; omega) | intro _)
                refine J.keep [9, 8, 7, 5, 2, 1] rfl (ih4 hlt _ _ ⟨met', ch, rfl, rfl, hml, hm0, ho1, ho2, fun h s' hs'' hin' x hx => ?_⟩)
                by_cases e : s' = s
                · subst e
                  rw [hrn] at hx
                  obtain ⟨j', hj'', e2⟩ := List.mem_iff_getElem.1 hx
                  have := hrow h j' (by omega)
                  rw [nthAt_get hj'', e2] at this
                  exact this
                · exact hcl h s' (by omega) hin' x hx
            · repeat' (first | rfl | assumption | (apply stp tt_ok; constructor) | exact Rng.mk (by omega) (by omega) | exact Bd.mk (by first | omega | (refine Nat.lt_of_lt_of_le (show _ < 1 by decide) ?_; first | omega | (rw [List.length_replicate]; omega)) | (refine Nat.lt_of_lt_of_le (show _ < 2 by decide) ?_; first | omega | (rw [List.length_replicate]; omega)) | (simp only [List.length_cons, List.length_nil]; omega)) | refine J.draw (by assumption) follows_ok (by kernel_rfl) (by decide +kernel) (by decide +kernel) ?_ | refine J.done ⟨rfl, rfl, rfl, ?_⟩ | constructor | (intro _; exfalso; omega) | intro _)
              refine J.keep [8, 7, 5, 2, 1] rfl (ihw _ _ _ _ _ _ ?_ ⟨met', ch, rfl, rfl, rfl, rfl, rfl, rfl, hml, hm0, fun h s' hs'' => hcl h s' (by omega)⟩)
              cases ch
              · simp
              · have := ho2 rfl
                simp only [if_true]
                omega
  · repeat' (first | rfl | assumption | (apply stp tt_ok; constructor) | exact Rng.mk (by omega) (by omega) | exact Bd.mk (by first | omega | (refine Nat.lt_of_lt_of_le (show _ < 1 by decide) ?_; first | omega | (rw [List.length_replicate]; omega)) | (refine Nat.lt_of_lt_of_le (show _ < 2 by decide) ?_; first | omega | (rw [List.length_replicate]; omega)) | (simp only [List.length_cons, List.length_nil]; omega)) | refine J.draw (by assumption) follows_ok (by kernel_rfl) (by decide +kernel) (by decide +kernel) ?_ | refine J.done ⟨rfl, rfl, rfl, ?_⟩ | constructor | (intro _; exfalso; omega) | intro _)
    refine CallJ.val (W M) ?_
    repeat' (first | rfl | assumption | (apply stp tt_ok; constructor) | exact Rng.mk (by omega) (by omega) | exact Bd.mk (by first | omega | (refine Nat.lt_of_lt_of_le (show _ < 1 by decide) ?_; first | omega | (rw [List.length_replicate]; omega)) | (refine Nat.lt_of_lt_of_le (show _ < 2 by decide) ?_; first | omega | (rw [List.length_replicate]; omega)) | (simp only [List.length_cons, List.length_nil]; omega)) | refine J.draw (by assumption) follows_ok (by kernel_rfl) (by decide +kernel) (by decide +kernel) ?_ | refine J.done ⟨rfl, rfl, rfl, ?_⟩ | constructor | (intro _; exfalso; omega) | intro _)
    exact J.give0 tt_ok rfl (.cons (.tmp rfl) .nil) rfl
end
end Go.Proofs.YtmlgmgjakhbhjaaGreatDoor.Ab

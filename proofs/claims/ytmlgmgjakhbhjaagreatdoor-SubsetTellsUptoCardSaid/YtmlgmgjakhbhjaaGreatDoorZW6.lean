/- Plain laws, 8: labels put in their places; a net's automaton without a cap in the midst of a state. Walks, 23: copies of one's own. Walks, 24: the reference: a set's labels. Walks, 25: a copy of an automaton of one's own. Walks, 26: the reference: a net's automaton. Walks, 27: SubsetTells. -/
import Derived.Test.YtmlgmgjakhbhjaaGreatDoorZW5
import Derived.Test.YtmlgmgjakhbhjaaGreatDoorZW3
import Derived.Test.YtmlgmgjakhbhjaaGreatDoorZJ3
namespace Go.Proofs.YtmlgmgjakhbhjaaGreatDoor.Ab
open Go

/- ## labels, one put in behind the other -/
theorem insAt_up {out : List Int} {x : Int} {p : Nat} (h : out.Pairwise (· < ·)) (hp : p ≤ out.length) (h1 : ∀ j, j < p → nthAt 0 out j < x) (h2 : p < out.length → x < nthAt 0 out p) : (out.take p ++ x :: out.drop p).Pairwise (· < ·) := by
  rw [List.pairwise_append, List.pairwise_cons]
  have hget := List.pairwise_iff_getElem.1 h
  have key : ∀ y ∈ out.take p, y < x := by
    intro y hy
    obtain ⟨j, hj, rfl⟩ := List.mem_iff_getElem.1 hy
    rw [List.length_take] at hj
    have := h1 j (by omega)
    rw [nthAt_get (by omega)] at this
    rw [List.getElem_take]
    exact this
  have key2 : ∀ y ∈ out.drop p, x < y := by
    intro y hy
    obtain ⟨j, hj, rfl⟩ := List.mem_iff_getElem.1 hy
    rw [List.length_drop] at hj
    have hpl : p < out.length := by omega
    have h3 := h2 hpl
    rw [nthAt_get hpl] at h3
    rw [List.getElem_drop]
    rcases Nat.eq_zero_or_pos j with rfl | hj0
    · exact h3
    · have := hget p (p + j) hpl (by omega) (by omega)
      omega
  refine ⟨h.sublist (List.take_sublist _ _), ⟨key2, h.sublist (List.drop_sublist _ _)⟩, fun a ha b hb => ?_⟩
  rcases List.mem_cons.1 hb with rfl | hb
  · exact key a ha
  · have := key a ha
    have := key2 b hb
    omega
theorem mem_insAt {out : List Int} {x y : Int} {p : Nat} : y ∈ out.take p ++ x :: out.drop p ↔ y = x ∨ y ∈ out := by
  have h : y ∈ out ↔ y ∈ out.take p ∨ y ∈ out.drop p := by rw [← List.mem_append, List.take_append_drop]
  rw [h, List.mem_append, List.mem_cons]
  constructor
  · rintro (h | h | h)
    · exact .inr (.inl h)
    · exact .inl h
    · exact .inr (.inr h)
  · rintro (h | h | h)
    · exact .inr (.inl h)
    · exact .inl h
    · exact .inr (.inr h)
/-- The labels of the first i states of l, and of the first k edges of the next. -/
structure Lb (n : List (List P2)) (l : List Int) (i k : Nat) (out : List Int) : Prop where
  up : out.Pairwise (· < ·)
  mem : ∀ c, c ∈ out ↔ c ≠ -1 ∧ ((∃ i', i' < i ∧ i' < l.length ∧ ∃ t, (c, t) ∈ nthAt [] n (nthAt 0 l i').toNat) ∨ (∃ k', k' < k ∧ k' < (nthAt [] n (nthAt 0 l i).toNat).length ∧ (nthAt eP.dflt (nthAt [] n (nthAt 0 l i).toNat) k').1 = c))
  le : out.length ≤ i * 8000 + k
theorem Lb.zero (n : List (List P2)) (l : List Int) : Lb n l 0 0 [] := by
  refine ⟨List.Pairwise.nil, fun c => ?_, Nat.le_refl _⟩
  constructor
  · intro h; cases h
  · rintro ⟨_, ⟨_, h, _⟩ | ⟨_, h, _⟩⟩ <;> omega
theorem Lb.skip {n : List (List P2)} {l : List Int} {i k : Nat} {out : List Int} (h : Lb n l i k out) (hs : (nthAt eP.dflt (nthAt [] n (nthAt 0 l i).toNat) k).1 = -1 ∨ (nthAt eP.dflt (nthAt [] n (nthAt 0 l i).toNat) k).1 ∈ out) : Lb n l i (k + 1) out := by
  refine ⟨h.up, fun c => (h.mem c).trans ?_, by have := h.le; omega⟩
  constructor
  · rintro ⟨h0, h1 | ⟨k', h2, h3⟩⟩
    · exact ⟨h0, .inl h1⟩
    · exact ⟨h0, .inr ⟨k', by omega, h3⟩⟩
  · rintro ⟨h0, h1 | ⟨k', h2, h3, h4⟩⟩
    · exact ⟨h0, .inl h1⟩
    · rcases Nat.lt_or_ge k' k with hlt | hge
      · exact ⟨h0, .inr ⟨k', hlt, h3, h4⟩⟩
      · have : k' = k := by omega
        subst this
        rw [h4] at hs
        rcases hs with e | e
        · exact absurd e h0
        · exact (h.mem c).1 e
theorem Lb.put {n : List (List P2)} {l : List Int} {i k p : Nat} {out : List Int} {x : Int} (h : Lb n l i k out) (hk : k < (nthAt [] n (nthAt 0 l i).toNat).length) (hx : (nthAt eP.dflt (nthAt [] n (nthAt 0 l i).toNat) k).1 = x) (hx1 : x ≠ -1)
    (hp : p ≤ out.length) (h1 : ∀ j, j < p → nthAt 0 out j < x) (h2 : p < out.length → x < nthAt 0 out p) : Lb n l i (k + 1) (out.take p ++ x :: out.drop p) := by
  refine ⟨insAt_up h.up hp h1 h2, fun c => ?_, ?_⟩
  · rw [mem_insAt, h.mem]
    constructor
    · rintro (rfl | ⟨h0, h3 | ⟨k', h4, h5⟩⟩)
      · exact ⟨hx1, .inr ⟨k, by omega, hk, hx⟩⟩
      · exact ⟨h0, .inl h3⟩
      · exact ⟨h0, .inr ⟨k', by omega, h5⟩⟩
    · rintro ⟨h0, h3 | ⟨k', h4, h5, h6⟩⟩
      · exact .inr ⟨h0, .inl h3⟩
      · rcases Nat.lt_or_ge k' k with hlt | hge
        · exact .inr ⟨h0, .inr ⟨k', hlt, h5, h6⟩⟩
        · have : k' = k := by omega
          subst this
          exact .inl (by rw [← h6, hx])
  · have := h.le
    simp only [List.length_append, List.length_take, List.length_cons, List.length_drop]
    omega
theorem le_row {a i k m : Nat} (h : a ≤ i * m + k) (h2 : k ≤ m) : a ≤ (i + 1) * m + 0 := by
  rw [Nat.succ_mul]
  generalize i * m = q at *
  omega
theorem Lb.row {n : List (List P2)} {l : List Int} {i k : Nat} {out : List Int} (h : Lb n l i k out) (hi : i < l.length) (hk : (nthAt [] n (nthAt 0 l i).toNat).length ≤ k) (hk2 : k ≤ 8000) : Lb n l (i + 1) 0 out := by
  refine ⟨h.up, fun c => (h.mem c).trans ?_, le_row h.le hk2⟩
  constructor
  · rintro ⟨h0, ⟨i', h1, h2⟩ | ⟨k', h2, h3, h4⟩⟩
    · exact ⟨h0, .inl ⟨i', by omega, h2⟩⟩
    · refine ⟨h0, .inl ⟨i, by omega, hi, (nthAt eP.dflt (nthAt [] n (nthAt 0 l i).toNat) k').2, ?_⟩⟩
      rw [← h4]
      exact List.mem_of_getElem? (nthAt_lt h3)
  · rintro ⟨h0, ⟨i', h1, h2, t, h3⟩ | ⟨k', h2, _⟩⟩
    · rcases Nat.lt_or_ge i' i with hlt | hge
      · exact ⟨h0, .inl ⟨i', hlt, h2, t, h3⟩⟩
      · have : i' = i := by omega
        subst this
        obtain ⟨k', hk', e⟩ := List.mem_iff_getElem.1 h3
        exact ⟨h0, .inr ⟨k', by omega, hk', by rw [nthAt_get hk', e]⟩⟩
    · omega
theorem Lb.done {n : List (List P2)} {l : List Int} {out : List Int} (h : Lb n l l.length 0 out) : out = labelsP n l := by
  refine rising_ext _ _ h.up (labelsP_up _ _) fun c => ?_
  rw [h.mem, mem_labelsP]
  constructor
  · rintro ⟨h0, ⟨i', h1, h2, t, h3⟩ | ⟨k', h2, _⟩⟩
    · exact ⟨h0, _, List.mem_of_getElem? (nthAt_lt h2), t, h3⟩
    · omega
  · rintro ⟨h0, s, hs, t, ht⟩
    obtain ⟨j, hj, rfl⟩ := List.mem_iff_getElem.1 hs
    exact ⟨h0, .inl ⟨j, hj, hj, t, by rw [nthAt_get hj]; exact ht⟩⟩

/- ## a state's edges, whatever the cap -/
theorem stepP_in {n : List (List P2)} (hg : netGood n = true) (l : List Int) (c : Int) : (∀ x ∈ stepP n l c, 0 ≤ x ∧ x < n.length) ∧ (stepP n l c).length ≤ 2000 := by
  have h := closeP_set hg (gather_in hg l c)
  have h1 : ∀ x ∈ stepP n l c, 0 ≤ x ∧ x < n.length := fun x hx => Reach.in (gather_in hg l c) ((h.mem x).1 hx)
  refine ⟨h1, Nat.le_trans (nodup_le n.length _ ?_ fun x hx => h1 x hx) (netGood_spec hg).2.1⟩
  exact h.up.imp fun h => by omega
noncomputable def flU (n : List (List P2)) (l : List Int) : List Int → List (List Int) → List P2 → List P2 × List (List Int)
  | [], S, row => (row, S)
  | c :: cs, S, row => match placeOf (stepP n l c) S 0 with
    | some i => flU n l cs S (row ++ [(c, (i : Int))])
    | none => flU n l cs (S ++ [stepP n l c]) (row ++ [(c, (S.length : Int))])
theorem flU_le (n : List (List P2)) (l : List Int) : ∀ (cs : List Int) (S : List (List Int)) (row : List P2), S.length ≤ (flU n l cs S row).2.length
  | [], S, row => Nat.le_refl _
  | c :: cs, S, row => by
    unfold flU
    split
    · exact flU_le n l cs _ _
    · have := flU_le n l cs (S ++ [stepP n l c]) (row ++ [(c, (S.length : Int))])
      rw [List.length_append] at this
      omega
theorem flP_flU {n : List (List P2)} {most : Int} {l : List Int} : ∀ (cs : List Int) {S : List (List Int)} {row : List P2}, (S.length : Int) ≤ most → flP n most l cs S row = if ((flU n l cs S row).2.length : Int) ≤ most then some (flU n l cs S row) else none
  | [], S, row, h => by
    unfold flP flU
    rw [if_pos h]
  | c :: cs, S, row, h => by
    unfold flP stP flU
    cases hp : placeOf (stepP n l c) S 0 with
    | some i =>
      simp only
      exact flP_flU cs h
    | none =>
      simp only
      by_cases hm : most ≤ (S.length : Int)
      · rw [if_pos hm]
        have := flU_le n l cs (S ++ [stepP n l c]) (row ++ [(c, (S.length : Int))])
        rw [List.length_append, List.length_singleton] at this
        rw [if_neg (by omega)]
      · rw [if_neg hm]
        simp only
        exact flP_flU cs (by rw [List.length_append, List.length_singleton]; omega)

/-- How far the reference is: its sets, the edges of the states behind it. -/
structure RefAt (n : List (List P2)) (most mm : Int) (s : Nat) (S : List (List Int)) (Ed : List (List P2)) : Prop where
  len : Ed.length = s
  pos : 1 ≤ S.length
  le : s ≤ S.length
  cap : s = 0 ∨ (s : Int) ≤ mm
  fst : S[0]? = some (closeP n [0])
  is : subsetP n most = if (S.length : Int) ≤ mm then ofP n mm (2001 - s) S Ed else none
  ins : SetsIn n S
theorem RefAt.start {n : List (List P2)} (hg : netGood n = true) (most : Int) : RefAt n most (min most 2000) 0 [closeP n [0]] [] := by
  have hin : NetIn n [0] := (mayB_spec (mayB_of hg (l := [0]) fun s hs => by
      have := (netGood_spec hg).1
      cases List.mem_singleton.1 hs; omega)).2
  have h := closeP_set hg hin
  have h1 : ∀ x ∈ closeP n [0], 0 ≤ x ∧ x < n.length := fun x hx => Reach.in hin ((h.mem x).1 hx)
  refine ⟨rfl, Nat.le_refl _, Nat.zero_le _, .inl rfl, rfl, ?_, ?_⟩
  · unfold subsetP stP
    simp only [placeOf, List.length_nil, List.length_singleton, List.nil_append]
    by_cases hm : min most 2000 ≤ ((0 : Nat) : Int)
    · rw [if_pos hm, if_neg (by omega)]
    · rw [if_neg hm, if_pos (by omega)]
  · intro m hm
    cases List.mem_singleton.1 hm
    refine ⟨h1, Nat.le_trans (nodup_le n.length _ (h.up.imp fun h => by omega) fun x hx => h1 x hx) (netGood_spec hg).2.1⟩
theorem flU_in {n : List (List P2)} (hg : netGood n = true) (l : List Int) : ∀ (cs : List Int) (S : List (List Int)) (row : List P2), SetsIn n S → SetsIn n (flU n l cs S row).2
  | [], S, row, h => h
  | c :: cs, S, row, h => by
    unfold flU
    split
    · exact flU_in hg l cs _ _ h
    · refine flU_in hg l cs _ _ fun m hm => ?_
      rcases List.mem_append.1 hm with hm | hm
      · exact h m hm
      · cases List.mem_singleton.1 hm
        exact stepP_in hg l c
theorem flU_pre (n : List (List P2)) (l : List Int) : ∀ (cs : List Int) (S : List (List Int)) (row : List P2), S <+: (flU n l cs S row).2
  | [], S, row => List.prefix_refl _
  | c :: cs, S, row => by
    unfold flU
    split
    · exact flU_pre n l cs _ _
    · exact (List.prefix_append _ _).trans (flU_pre n l cs _ _)
theorem RefAt.step {n : List (List P2)} (hg : netGood n = true) {most : Int} {s : Nat} {S : List (List Int)} {Ed : List (List P2)} {l : List Int} (h : RefAt n most (min most 2000) s S Ed) (hs : S[s]? = some l) (hc : (S.length : Int) ≤ min most 2000) :
    RefAt n most (min most 2000) (s + 1) (flU n l (labelsP n l) S []).2 (Ed ++ [(flU n l (labelsP n l) S []).1]) := by
  have hlt := (List.getElem?_eq_some_iff.1 hs).1
  have hle := flU_le n l (labelsP n l) S []
  refine ⟨by rw [List.length_append, List.length_singleton, h.len], Nat.le_trans h.pos hle, by omega, .inr (by omega), pre_get (flU_pre _ _ _ _ _) h.fst, ?_, flU_in hg _ _ _ _ h.ins⟩
  rw [h.is, if_pos hc, show 2001 - s = (2001 - (s + 1)) + 1 by omega]
  conv => lhs; unfold ofP
  rw [h.len, hs]
  simp only [flP_flU _ hc]
  by_cases hm : ((flU n l (labelsP n l) S []).2.length : Int) ≤ min most 2000
  · rw [if_pos hm, if_pos hm]
  · rw [if_neg hm, if_neg hm]
theorem RefAt.fail {n : List (List P2)} {most mm : Int} {s : Nat} {S : List (List Int)} {Ed : List (List P2)} (h : RefAt n most mm s S Ed) (hc : ¬ (S.length : Int) ≤ mm) : subsetP n most = none := by rw [h.is, if_neg hc]
theorem RefAt.done {n : List (List P2)} {most mm : Int} {s : Nat} {S : List (List Int)} {Ed : List (List P2)} (h : RefAt n most mm s S Ed) (hs : S.length ≤ s) : subsetP n most = some (S, Ed) := by
  have h1 := h.pos
  rw [h.is, if_pos (by rcases h.cap with h2 | h2 <;> omega)]
  cases hk : 2001 - s with
  | zero => rfl
  | succ k =>
    unfold ofP
    rw [h.len, List.getElem?_eq_none hs]
end Go.Proofs.YtmlgmgjakhbhjaaGreatDoor.Ab

namespace Go.Proofs.YtmlgmgjakhbhjaaGreatDoor.Ab
open Go Go.Proofs
noncomputable section

/-- A row of rows of one's own, of which some hold nothing, wherever they lie. -/
def RowOwn (g : Seg × SlOf P2) : Prop := (Own 48 eP g.1 g.2.l ∧ g.2.a = segA g.1) ∨ (g.1 = [] ∧ g.2.l = [])
def EdgesOwn (v : Value) (l' : Seg) (E : List (List P2)) : Prop :=
  ∃ (ss : Seg) (G : List (Seg × SlOf P2)), v = .slice (segA ss) (G.map Prod.snd).length (segC ss) ∧ l' = ss ++ G.flatMap Prod.fst ∧ Own 46 (eSl P2) ss (G.map Prod.snd) ∧ (∀ g ∈ G, RowOwn g) ∧ G.map (fun g => g.2.l) = E
/-- They are written no more. -/
theorem J.freezeEdges {P : Program} {hk : HKT} {n : Nat} {Q : LPost} {K : List KI} {Ev : Env} {D : Dl} {M : Imm} {L R : List Seg} {rc : RC} {u : Value} {l' : Seg} {E : List (List P2)} (ho : EdgesOwn u l' E) (hp : Pick L l' R) (hE : E.length ≤ 1099511627776) (hr : ∀ r ∈ E, r.length ≤ 1099511627776)
    (h : ∀ N, MLe M N → ∀ (a : Option Addr) (c : Nat) (ls : List (SlOf P2)), u = .slice a ls.length c → rowsOf ls = E → Rows N eP a ls → J P hk n Q K Ev D N R rc) : J P hk n Q K Ev D M L rc := by
  refine J.nd fun hnd => ?_
  have hnd' : ((l' ++ R.flatten).map (·.1)).Nodup := (hp.perm.map _).nodup_iff.1 hnd
  rw [List.map_append, List.nodup_append] at hnd'
  obtain ⟨ss, G, rfl, rfl, h1, h2, h3⟩ := ho
  have hlen : G.length = E.length := by rw [← h3, List.length_map]
  refine J.freeze _ hp.perm fun hle => h _ hle (segA ss) (segC ss) (G.map Prod.snd) rfl ?_ ⟨?_, ?_⟩
  · rw [← h3]; simp [rowsOf]
  · exact isSl_part h1 (fun p hp => List.mem_append_left _ hp) hnd'.1 (fun _ => rfl) (by rw [List.length_map]; omega)
  · intro x hx
    obtain ⟨g, hg, rfl⟩ := List.mem_map.1 hx
    rcases h2 g hg with ⟨h4, h5⟩ | ⟨_, h5⟩
    · rw [h5]
      exact isSl_part h4 (fun p hp => List.mem_append_right _ (List.mem_flatMap.2 ⟨g, hg, hp⟩)) hnd'.1 (fun _ => rfl) (hr _ (by rw [← h3]; exact List.mem_map_of_mem (f := fun g : Seg × SlOf P2 => g.2.l) hg))
    · rw [h5]; exact IsSl.empty _ _ _
attribute [local irreducible] J Con Lv CallJ DCon

set_option maxHeartbeats 1000000 in
theorem f9_ok {hk : HKT} (U : HkU hk) (M : Imm) {a : Option Addr} {c : Nat} {ls : List (SlOf P2)} (hr : Rows M eP a ls) (hls : ls.length ≤ 1000000) (hrl : ∀ r ∈ rowsOf ls, r.length ≤ 1000000) :
    Con Tryz.prog hk 9 [.slice a ls.length c] M [] (Returns fun v l' => EdgesOwn v l' (rowsOf ls)) := by
  refine Con.of_body (U.no 9 rfl) Tryz.func9 rfl rfl Tryz.ntmps9 rfl rfl ?_
  have hout := hr.out
  have hlen := hout.len
  repeat' (first | rfl | assumption | (apply stp tt_ok; constructor) | exact Rng.mk (by omega) (by omega) | exact Bd.mk (by first | omega | (refine Nat.lt_of_lt_of_le (show _ < 1 by decide) ?_; first | omega | (rw [List.length_replicate]; omega)) | (refine Nat.lt_of_lt_of_le (show _ < 2 by decide) ?_; first | omega | (rw [List.length_replicate]; omega)) | (simp only [List.length_cons, List.length_nil]; omega)) | refine J.draw (by assumption) follows_ok (by kernel_rfl) (by decide +kernel) (by decide +kernel) ?_ | refine J.done ⟨rfl, rfl, rfl, ?_⟩ | constructor | (intro _; exfalso; omega) | intro _)
  refine J.addNil ?_
  refine J.keep [4, 3, 0] rfl ?_
  refine J.forN ls.length (fun k E L => ∃ (ss : Seg) (G : List (Seg × SlOf P2)), E = [(4, .int .i64 (k : Int)), (3, .slice (segA ss) (G.map Prod.snd).length (segC ss)), (0, .slice a ls.length c)] ∧ L = [ss, G.flatMap Prod.fst] ∧ Own 46 (eSl P2) ss (G.map Prod.snd) ∧ (∀ g ∈ G, RowOwn g) ∧ G.map (fun g => g.2.l) = (rowsOf ls).take k)
    ⟨[], [], rfl, rfl, Own.nil _ _, fun g hg => by (cases hg), rfl⟩ ?_
  rintro k E L hk' ⟨ss, G, rfl, rfl, hown, hG, hGl⟩ ih
  have hGlen : G.length ≤ k := by
    have := congrArg List.length hGl
    rw [List.length_map, List.length_take] at this
    omega
  have hGm : (G.map Prod.snd).length = G.length := List.length_map _
  by_cases hlt : k < ls.length
  · have hin := hr.at k
    have hil := hin.len
    have hrn := rowsOf_nth ls k
    have hrk := hrl _ (List.mem_of_getElem? (nthAt_lt (d := []) (show k < (rowsOf ls).length by rw [rowsOf_length]; exact hlt)))
    rw [hrn] at hrk
    have htake : (rowsOf ls).take (k + 1) = (rowsOf ls).take k ++ [(nthAt (eSl P2).dflt ls k).l] := by
      rw [take_succ_nth (d := []) (by rw [rowsOf_length]; exact hlt), hrn]
    repeat' (first | rfl | assumption | (apply stp tt_ok; constructor) | exact Rng.mk (by omega) (by omega) | exact Bd.mk (by first | omega | (refine Nat.lt_of_lt_of_le (show _ < 1 by decide) ?_; first | omega | (rw [List.length_replicate]; omega)) | (refine Nat.lt_of_lt_of_le (show _ < 2 by decide) ?_; first | omega | (rw [List.length_replicate]; omega)) | (simp only [List.length_cons, List.length_nil]; omega)) | refine J.draw (by assumption) follows_ok (by kernel_rfl) (by decide +kernel) (by decide +kernel) ?_ | refine J.done ⟨rfl, rfl, rfl, ?_⟩ | ((fail_if_success (apply AppJ.c)); constructor) | (intro _; exfalso; omega) | intro _)
    refine AppJ.c (e := eP) (l := []) (xs := (nthAt (eSl P2).dflt ls k).l) .here rfl rfl (.imm hin rfl) (fun _ => rfl) rfl (Bd.mk (by simp only [List.length_nil]; omega)) ?_ ?_
    · intro hnil
      rw [hnil] at htake
      repeat' (first | rfl | assumption | (apply stp tt_ok; constructor) | exact Rng.mk (by omega) (by omega) | exact Bd.mk (by first | omega | (refine Nat.lt_of_lt_of_le (show _ < 1 by decide) ?_; first | omega | (rw [List.length_replicate]; omega)) | (refine Nat.lt_of_lt_of_le (show _ < 2 by decide) ?_; first | omega | (rw [List.length_replicate]; omega)) | (simp only [List.length_cons, List.length_nil]; omega)) | refine J.draw (by assumption) follows_ok (by kernel_rfl) (by decide +kernel) (by decide +kernel) ?_ | refine J.done ⟨rfl, rfl, rfl, ?_⟩ | ((fail_if_success (apply AppJ.c)); (fail_if_success (apply AppJ.o)); constructor) | (intro _; exfalso; omega) | intro _)
      rename_i i1 i2
      refine AppJ.o hown rfl (.there (.there .here)) (.tmp (x := ⟨some ⟨_, 0, none⟩, 0, []⟩) .here rfl (.any rfl)) (fun _ => rfl) (fun _ => rfl) rfl (Bd.mk (by rw [hGm]; simp only [List.length_cons, List.length_nil]; omega)) fun s' hs' => ?_
      repeat' (first | rfl | assumption | (apply stp tt_ok; constructor) | exact Rng.mk (by omega) (by omega) | exact Bd.mk (by first | omega | (refine Nat.lt_of_lt_of_le (show _ < 1 by decide) ?_; first | omega | (rw [List.length_replicate]; omega)) | (refine Nat.lt_of_lt_of_le (show _ < 2 by decide) ?_; first | omega | (rw [List.length_replicate]; omega)) | (simp only [List.length_cons, List.length_nil]; omega)) | refine J.draw (by assumption) follows_ok (by kernel_rfl) (by decide +kernel) (by decide +kernel) ?_ | refine J.done ⟨rfl, rfl, rfl, ?_⟩ | constructor | (intro _; exfalso; omega) | intro _)
      refine J.keep [4, 3, 0] rfl ?_
      refine J.sel [2, 2] rfl ?_
      refine ih hlt _ _ ⟨s', G ++ [([], ⟨some ⟨i1, 0, none⟩, 0, []⟩)], ?_, ?_, ?_, ?_, ?_⟩
      · rw [List.map_append]; rfl
      · rw [List.flatMap_append]; simp
      · rw [List.map_append]; exact hs'
      · intro g hg
        rcases List.mem_append.1 hg with hg | hg
        · exact hG g hg
        · obtain rfl := List.mem_singleton.1 hg
          exact .inr ⟨rfl, rfl⟩
      · rw [List.map_append, hGl, htake]; rfl
    · intro hne s2 hs2
      repeat' (first | rfl | assumption | (apply stp tt_ok; constructor) | exact Rng.mk (by omega) (by omega) | exact Bd.mk (by first | omega | (refine Nat.lt_of_lt_of_le (show _ < 1 by decide) ?_; first | omega | (rw [List.length_replicate]; omega)) | (refine Nat.lt_of_lt_of_le (show _ < 2 by decide) ?_; first | omega | (rw [List.length_replicate]; omega)) | (simp only [List.length_cons, List.length_nil]; omega)) | refine J.draw (by assumption) follows_ok (by kernel_rfl) (by decide +kernel) (by decide +kernel) ?_ | refine J.done ⟨rfl, rfl, rfl, ?_⟩ | ((fail_if_success (apply AppJ.c)); constructor) | (intro _; exfalso; omega) | intro _)
      rename_i s3 hs3
      refine J.keep [4, 3, 0] rfl ?_
      refine J.sel [3, 1, 2] rfl ?_
      refine J.perm (L' := [s3, List.flatMap Prod.fst (G ++ [(s2, (⟨segA s2, segC s2, [] ++ (nthAt (eSl P2).dflt ls k).l⟩ : SlOf P2))])]) (by
        rw [List.flatMap_append]
        simp only [List.flatMap_cons, List.flatMap_nil, List.append_nil, List.flatten_cons, List.flatten_nil]
        exact List.Perm.append_left _ List.perm_append_comm) ?_
      refine ih hlt _ _ ⟨s3, G ++ [(s2, ⟨segA s2, segC s2, [] ++ (nthAt (eSl P2).dflt ls k).l⟩)], ?_, rfl, ?_, ?_, ?_⟩
      · rw [List.map_append]; rfl
      · rw [List.map_append]; exact hs3
      · intro g hg
        rcases List.mem_append.1 hg with hg | hg
        · exact hG g hg
        · obtain rfl := List.mem_singleton.1 hg
          exact .inl ⟨hs2, rfl⟩
      · rw [List.map_append, hGl, htake]; rfl
  · have hkl : (rowsOf ls).take k = rowsOf ls := List.take_of_length_le (by rw [rowsOf_length]; omega)
    rw [hkl] at hGl
    repeat' (first | rfl | assumption | (apply stp tt_ok; constructor) | exact Rng.mk (by omega) (by omega) | exact Bd.mk (by first | omega | (refine Nat.lt_of_lt_of_le (show _ < 1 by decide) ?_; first | omega | (rw [List.length_replicate]; omega)) | (refine Nat.lt_of_lt_of_le (show _ < 2 by decide) ?_; first | omega | (rw [List.length_replicate]; omega)) | (simp only [List.length_cons, List.length_nil]; omega)) | refine J.draw (by assumption) follows_ok (by kernel_rfl) (by decide +kernel) (by decide +kernel) ?_ | refine J.done ⟨rfl, rfl, rfl, ?_⟩ | constructor | (intro _; exfalso; omega) | intro _)
    exact J.rets tt_ok rfl (.cons (.tmp rfl) .nil) rfl (s := ss ++ G.flatMap Prod.fst) (R := []) (by simp) ⟨ss, G, rfl, rfl, hown, hG, hGl⟩
end
end Go.Proofs.YtmlgmgjakhbhjaaGreatDoor.Ab

namespace Go.Proofs.YtmlgmgjakhbhjaaGreatDoor.Ab
open Go Go.Proofs
noncomputable section
attribute [local irreducible] J Con Lv CallJ DCon

set_option maxHeartbeats 4000000 in
theorem f29_ok {hk : HKT} (U : HkU hk) (M : Imm) {a b : Option Addr} {c d : Nat} {ls : List (SlOf P2)} {l : List Int} (hr : Rows M eP a ls) (hl : IsSl M eI b l) (hg : mayB (rowsOf ls) l = true) (hl2 : l.length ≤ 2000) :
    Con Tryz.prog hk 29 [.agg ⟨[.slice a ls.length c]⟩, .slice b l.length d] M []
      (Returns fun v l' => v = .agg ⟨[.slice (segA l') (labelsP (rowsOf ls) l).length (segC l'), .bool true]⟩ ∧ Own 3 eI l' (labelsP (rowsOf ls) l)) := by
  refine Con.of_body (U.no 29 rfl) Tryz.func29 rfl rfl Tryz.ntmps29 rfl rfl ?_
  have hout := hr.out
  have hlen := hout.len
  have hll := hl.len
  obtain ⟨hgn, hG⟩ := mayB_spec hg
  obtain ⟨_, g2, g3, g4⟩ := netGood_spec hgn
  have hfl : (rowsOf ls).flatten.length ≤ 1099511627776 := by omega
  rw [rowsOf_length] at g2 g4
  have hn := U.n
  repeat' (first | rfl | assumption | (apply stp tt_ok; constructor) | exact Rng.mk (by omega) (by omega) | exact Bd.mk (by first | omega | (refine Nat.lt_of_lt_of_le (show _ < 1 by decide) ?_; first | omega | (rw [List.length_replicate]; omega)) | (refine Nat.lt_of_lt_of_le (show _ < 2 by decide) ?_; first | omega | (rw [List.length_replicate]; omega)) | (simp only [List.length_cons, List.length_nil]; omega)) | refine J.draw (by assumption) follows_ok (by kernel_rfl) (by decide +kernel) (by decide +kernel) ?_ | refine J.done ⟨rfl, rfl, rfl, ?_⟩ | constructor | (intro _; exfalso; omega) | intro _)
  refine CallJ.val (f57_ok U M hr hl hfl) ?_
  rw [hg]
  repeat' (first | rfl | assumption | (apply stp tt_ok; constructor) | exact Rng.mk (by omega) (by omega) | exact Bd.mk (by first | omega | (refine Nat.lt_of_lt_of_le (show _ < 1 by decide) ?_; first | omega | (rw [List.length_replicate]; omega)) | (refine Nat.lt_of_lt_of_le (show _ < 2 by decide) ?_; first | omega | (rw [List.length_replicate]; omega)) | (simp only [List.length_cons, List.length_nil]; omega)) | refine J.draw (by assumption) follows_ok (by kernel_rfl) (by decide +kernel) (by decide +kernel) ?_ | refine J.done ⟨rfl, rfl, rfl, ?_⟩ | constructor | (intro _; exfalso; omega) | intro _)
  rename_i id2 id4
  refine J.sel [2, 0, 0] rfl ?_
  refine J.keep [6, 5, 4, 2, 1] rfl ?_
  refine J.forN l.length (fun i E L => ∃ (s : Seg) (out : List Int), E = [(6, .int .i64 (i : Int)), (5, .slice (segA s) out.length (segC s)), (4, .pointer (some ⟨id4, 0, none⟩)), (2, .pointer (some ⟨id2, 0, none⟩)), (1, .slice b l.length d)] ∧
    L = [s, [(id4, .row [.slice none 0 0, .bool false] 74 .fixed)], [(id2, .row [.slice a ls.length c] 24 .fixed)]] ∧ Own 3 eI s out ∧ Lb (rowsOf ls) l i 0 out)
    ⟨[], [], rfl, rfl, Own.nil _ _, Lb.zero _ _⟩ ?_
  rintro i E L hi' ⟨s, out, rfl, rfl, hown, hlb⟩ ih
  by_cases hlt : i < l.length
  · have hx := hG.from' _ (List.mem_of_getElem? (nthAt_lt (d := 0) hlt))
    rw [rowsOf_length] at hx
    have hxi : IsN (nthAt eI.dflt l i) (nthAt 0 l i).toNat := by unfold IsN; show nthAt 0 l i = _; omega
    have hin := hr.at (nthAt 0 l i).toNat
    have hil := hin.len
    have hrn := rowsOf_nth ls (nthAt 0 l i).toNat
    have hrl := row_le (rowsOf ls) (nthAt 0 l i).toNat
    rw [hrn] at hrl
    have hlb0 := hlb.le
    repeat' (first | rfl | assumption | (apply stp tt_ok; constructor) | exact Rng.mk (by omega) (by omega) | exact Bd.mk (by first | omega | (refine Nat.lt_of_lt_of_le (show _ < 1 by decide) ?_; first | omega | (rw [List.length_replicate]; omega)) | (refine Nat.lt_of_lt_of_le (show _ < 2 by decide) ?_; first | omega | (rw [List.length_replicate]; omega)) | (simp only [List.length_cons, List.length_nil]; omega)) | refine J.draw (by assumption) follows_ok (by kernel_rfl) (by decide +kernel) (by decide +kernel) ?_ | refine J.done ⟨rfl, rfl, rfl, ?_⟩ | constructor | (intro _; exfalso; omega) | intro _)
    refine J.keep [7, 6, 5, 4, 2, 1] rfl ?_
    refine J.forN (nthAt (eSl P2).dflt ls (nthAt 0 l i).toNat).l.length (fun k E L => ∃ (s : Seg) (out : List Int), E = [(7, .int .i64 (k : Int)), (6, .int .i64 (i : Int)), (5, .slice (segA s) out.length (segC s)), (4, .pointer (some ⟨id4, 0, none⟩)), (2, .pointer (some ⟨id2, 0, none⟩)), (1, .slice b l.length d)] ∧
      L = [s, [(id4, .row [.slice none 0 0, .bool false] 74 .fixed)], [(id2, .row [.slice a ls.length c] 24 .fixed)]] ∧ Own 3 eI s out ∧ Lb (rowsOf ls) l i k out)
      ⟨s, out, rfl, rfl, hown, hlb⟩ ?_
    clear hlb hown hlb0
    rintro k E L hk' ⟨s, out, rfl, rfl, hown, hlb⟩ ih2
    have hle := hlb.le
    by_cases hkl : k < (nthAt (eSl P2).dflt ls (nthAt 0 l i).toNat).l.length
    · have hxe : (nthAt eP.dflt (nthAt [] (rowsOf ls) (nthAt 0 l i).toNat) k).1 = (nthAt eP.dflt (nthAt (eSl P2).dflt ls (nthAt 0 l i).toNat).l k).1 := by rw [hrn]
      have hkr : k < (nthAt [] (rowsOf ls) (nthAt 0 l i).toNat).length := by rw [hrn]; exact hkl
      repeat' (first | rfl | assumption | (apply stp tt_ok; constructor) | exact Rng.mk (by omega) (by omega) | exact Bd.mk (by first | omega | (refine Nat.lt_of_lt_of_le (show _ < 1 by decide) ?_; first | omega | (rw [List.length_replicate]; omega)) | (refine Nat.lt_of_lt_of_le (show _ < 2 by decide) ?_; first | omega | (rw [List.length_replicate]; omega)) | (simp only [List.length_cons, List.length_nil]; omega)) | refine J.draw (by assumption) follows_ok (by kernel_rfl) (by decide +kernel) (by decide +kernel) ?_ | refine J.done ⟨rfl, rfl, rfl, ?_⟩ | constructor | (intro _; exfalso; omega) | intro _)
      generalize (nthAt eP.dflt (nthAt (eSl P2).dflt ls (nthAt 0 l i).toNat).l k).1 = x at *
      refine J.keep [9, 8, 7, 6, 5, 4, 2, 1] rfl ?_
      refine J.forN out.length (fun p E L => E = [(9, .int .i64 (p : Int)), (8, .int .i64 x), (7, .int .i64 (k : Int)), (6, .int .i64 (i : Int)), (5, .slice (segA s) out.length (segC s)), (4, .pointer (some ⟨id4, 0, none⟩)), (2, .pointer (some ⟨id2, 0, none⟩)), (1, .slice b l.length d)] ∧
        L = [s, [(id4, .row [.slice none 0 0, .bool false] 74 .fixed)], [(id2, .row [.slice a ls.length c] 24 .fixed)]] ∧ ∀ j, j < p → nthAt 0 out j < x)
        ⟨rfl, rfl, fun j hj => by omega⟩ ?_
      rintro p E L hp' ⟨rfl, rfl, hsm⟩ ih3
      have put : ∀ (hx1 : x ≠ -1) (h2 : p < out.length → x < nthAt 0 out p), Lb (rowsOf ls) l i (k + 1) (out.take p ++ x :: out.drop p) := fun hx1 h2 => hlb.put hkr hxe hx1 (by omega) hsm h2
      by_cases hpl : p < out.length
      · repeat' (first | rfl | assumption | (apply stp tt_ok; constructor) | exact Rng.mk (by omega) (by omega) | exact Bd.mk (by first | omega | (refine Nat.lt_of_lt_of_le (show _ < 1 by decide) ?_; first | omega | (rw [List.length_replicate]; omega)) | (refine Nat.lt_of_lt_of_le (show _ < 2 by decide) ?_; first | omega | (rw [List.length_replicate]; omega)) | (simp only [List.length_cons, List.length_nil]; omega)) | refine J.draw (by assumption) follows_ok (by kernel_rfl) (by decide +kernel) (by decide +kernel) ?_ | refine J.done ⟨rfl, rfl, rfl, ?_⟩ | constructor | (intro _; exfalso; omega) | intro _)
        · rename_i hlx
          refine J.keep [9, 8, 7, 6, 5, 4, 2, 1] rfl (ih3 hpl _ _ ⟨rfl, rfl, fun j hj => ?_⟩)
          by_cases e : j = p
          · subst e; exact hlx
          · exact hsm j (by omega)
        · rename_i h1
          exact J.keep [7, 6, 5, 4, 2, 1] rfl (ih2 hkl _ _ ⟨s, out, rfl, rfl, hown, hlb.skip (.inl (by rw [hxe]; exact h1))⟩)
        · rename_i h1
          exact J.keep [7, 6, 5, 4, 2, 1] rfl (ih2 hkl _ _ ⟨s, out, rfl, rfl, hown, hlb.skip (.inr (by rw [hxe, ← h1]; exact List.mem_of_getElem? (nthAt_lt (d := 0) hpl)))⟩)
        · rename_i hnl hx1 _ hne
          have hnl : ¬ nthAt 0 out p < x := hnl
          have hne : nthAt 0 out p ≠ x := hne
          have H2 : p < out.length → x < nthAt 0 out p := fun _ => by omega
          refine J.keep [9, 8, 7, 6, 5, 4, 2, 1] rfl ?_
          refine J.drawC [0, 1, 2, 3, 4, 6, 7, 8, 5, 9, 10, 11] follows_ok (by kernel_rfl) (by kernel_rfl) rfl ?_
          refine stp tt_ok (.op rfl (.take (.mv rfl rfl ?_)))
          refine stp tt_ok (.op rfl (.take (.mv rfl rfl ?_)))
          refine stp tt_ok (.op rfl (.take (.mv rfl rfl ?_)))
          refine J.slHi tt_ok (by rfl) (by rfl) (by rfl) (by rfl) (by rfl) (by rfl) (by rfl) hown .here (fun _ => rfl) (by rfl) (by rfl) (by omega) (by omega) ?_
          refine stp tt_ok (.op rfl (.take (.mv rfl rfl ?_)))
          refine stp tt_ok (.op rfl (.take (.mv rfl rfl ?_)))
          refine stp tt_ok (.op rfl (.take (.mv rfl rfl ?_)))
          refine J.slLo tt_ok (by rfl) (by rfl) (by rfl) (by rfl) (by rfl) (by rfl) hown .here (fun _ => rfl) (by rfl) (by rfl) (by omega) fun w hw => ?_
          refine stp tt_ok (.op rfl (.take (.buildSlice rfl rfl rfl rfl rfl rfl rfl fun _ => ?_)))
          refine J.appLit (el := eI) (l := [x]) tt_ok (by rfl) (by rfl) (by rfl) (by rfl) (by rfl) (by rfl) (by rfl) (by rfl) (by rfl) (fun _ => rfl) (by rfl) .here (by rfl) (by rfl) hw.there (by simp only [List.length_cons, List.length_nil, List.length_drop]; omega) fun s1 w1 hw1 => ?_
          refine J.appHi tt_ok (by rfl) (by rfl) (by rfl) (by rfl) (by rfl) (by rfl) (by rfl) (by rfl) (by rfl) (fun _ => rfl) (by rfl) hown (.there (.there .here)) (by omega) hw1 (by simp) (by simp only [List.length_append, List.length_cons, List.length_nil, List.length_drop]; omega) fun s2 hs2 => ?_
          repeat' (first | rfl | assumption | (apply stp tt_ok; constructor) | exact Rng.mk (by omega) (by omega) | exact Bd.mk (by first | omega | (refine Nat.lt_of_lt_of_le (show _ < 1 by decide) ?_; first | omega | (rw [List.length_replicate]; omega)) | (refine Nat.lt_of_lt_of_le (show _ < 2 by decide) ?_; first | omega | (rw [List.length_replicate]; omega)) | (simp only [List.length_cons, List.length_nil]; omega)) | refine J.draw (by assumption) follows_ok (by kernel_rfl) (by decide +kernel) (by decide +kernel) ?_ | refine J.done ⟨rfl, rfl, rfl, ?_⟩ | constructor | (intro _; exfalso; omega) | intro _)
          refine J.keep [7, 6, 5, 4, 2, 1] rfl ?_
          exact J.sel [0, 3, 3] rfl (ih2 hkl _ _ ⟨s2, out.take p ++ x :: out.drop p, rfl, rfl, hs2, put hx1 H2⟩)
      · repeat' (first | rfl | assumption | (apply stp tt_ok; constructor) | exact Rng.mk (by omega) (by omega) | exact Bd.mk (by first | omega | (refine Nat.lt_of_lt_of_le (show _ < 1 by decide) ?_; first | omega | (rw [List.length_replicate]; omega)) | (refine Nat.lt_of_lt_of_le (show _ < 2 by decide) ?_; first | omega | (rw [List.length_replicate]; omega)) | (simp only [List.length_cons, List.length_nil]; omega)) | refine J.draw (by assumption) follows_ok (by kernel_rfl) (by decide +kernel) (by decide +kernel) ?_ | refine J.done ⟨rfl, rfl, rfl, ?_⟩ | constructor | (intro _; exfalso; omega) | intro _)
        · rename_i h1
          exact J.keep [7, 6, 5, 4, 2, 1] rfl (ih2 hkl _ _ ⟨s, out, rfl, rfl, hown, hlb.skip (.inl (by rw [hxe]; exact h1))⟩)
        · rename_i hx1 _
          have H2 : p < out.length → x < nthAt 0 out p := fun h => absurd h hpl
          refine J.keep [9, 8, 7, 6, 5, 4, 2, 1] rfl ?_
          refine J.drawC [0, 1, 2, 3, 4, 6, 7, 8, 5, 9, 10, 11] follows_ok (by kernel_rfl) (by kernel_rfl) rfl ?_
          refine stp tt_ok (.op rfl (.take (.mv rfl rfl ?_)))
          refine stp tt_ok (.op rfl (.take (.mv rfl rfl ?_)))
          refine stp tt_ok (.op rfl (.take (.mv rfl rfl ?_)))
          refine J.slHi tt_ok (by rfl) (by rfl) (by rfl) (by rfl) (by rfl) (by rfl) (by rfl) hown .here (fun _ => rfl) (by rfl) (by rfl) (by omega) (by omega) ?_
          refine stp tt_ok (.op rfl (.take (.mv rfl rfl ?_)))
          refine stp tt_ok (.op rfl (.take (.mv rfl rfl ?_)))
          refine stp tt_ok (.op rfl (.take (.mv rfl rfl ?_)))
          refine J.slLo tt_ok (by rfl) (by rfl) (by rfl) (by rfl) (by rfl) (by rfl) hown .here (fun _ => rfl) (by rfl) (by rfl) (by omega) fun w hw => ?_
          refine stp tt_ok (.op rfl (.take (.buildSlice rfl rfl rfl rfl rfl rfl rfl fun _ => ?_)))
          refine J.appLit (el := eI) (l := [x]) tt_ok (by rfl) (by rfl) (by rfl) (by rfl) (by rfl) (by rfl) (by rfl) (by rfl) (by rfl) (fun _ => rfl) (by rfl) .here (by rfl) (by rfl) hw.there (by simp only [List.length_cons, List.length_nil, List.length_drop]; omega) fun s1 w1 hw1 => ?_
          refine J.appHi tt_ok (by rfl) (by rfl) (by rfl) (by rfl) (by rfl) (by rfl) (by rfl) (by rfl) (by rfl) (fun _ => rfl) (by rfl) hown (.there (.there .here)) (by omega) hw1 (by simp) (by simp only [List.length_append, List.length_cons, List.length_nil, List.length_drop]; omega) fun s2 hs2 => ?_
          repeat' (first | rfl | assumption | (apply stp tt_ok; constructor) | exact Rng.mk (by omega) (by omega) | exact Bd.mk (by first | omega | (refine Nat.lt_of_lt_of_le (show _ < 1 by decide) ?_; first | omega | (rw [List.length_replicate]; omega)) | (refine Nat.lt_of_lt_of_le (show _ < 2 by decide) ?_; first | omega | (rw [List.length_replicate]; omega)) | (simp only [List.length_cons, List.length_nil]; omega)) | refine J.draw (by assumption) follows_ok (by kernel_rfl) (by decide +kernel) (by decide +kernel) ?_ | refine J.done ⟨rfl, rfl, rfl, ?_⟩ | constructor | (intro _; exfalso; omega) | intro _)
          refine J.keep [7, 6, 5, 4, 2, 1] rfl ?_
          exact J.sel [0, 3, 3] rfl (ih2 hkl _ _ ⟨s2, out.take p ++ x :: out.drop p, rfl, rfl, hs2, put hx1 H2⟩)
    · repeat' (first | rfl | assumption | (apply stp tt_ok; constructor) | exact Rng.mk (by omega) (by omega) | exact Bd.mk (by first | omega | (refine Nat.lt_of_lt_of_le (show _ < 1 by decide) ?_; first | omega | (rw [List.length_replicate]; omega)) | (refine Nat.lt_of_lt_of_le (show _ < 2 by decide) ?_; first | omega | (rw [List.length_replicate]; omega)) | (simp only [List.length_cons, List.length_nil]; omega)) | refine J.draw (by assumption) follows_ok (by kernel_rfl) (by decide +kernel) (by decide +kernel) ?_ | refine J.done ⟨rfl, rfl, rfl, ?_⟩ | constructor | (intro _; exfalso; omega) | intro _)
      exact J.keep [6, 5, 4, 2, 1] rfl (ih hlt _ _ ⟨s, out, rfl, rfl, hown, hlb.row hlt (by rw [hrn]; omega) (by omega)⟩)
  · have : i = l.length := by omega
    subst this
    have := hlb.done
    subst this
    repeat' (first | rfl | assumption | (apply stp tt_ok; constructor) | exact Rng.mk (by omega) (by omega) | exact Bd.mk (by first | omega | (refine Nat.lt_of_lt_of_le (show _ < 1 by decide) ?_; first | omega | (rw [List.length_replicate]; omega)) | (refine Nat.lt_of_lt_of_le (show _ < 2 by decide) ?_; first | omega | (rw [List.length_replicate]; omega)) | (simp only [List.length_cons, List.length_nil]; omega)) | refine J.draw (by assumption) follows_ok (by kernel_rfl) (by decide +kernel) (by decide +kernel) ?_ | refine J.done ⟨rfl, rfl, rfl, ?_⟩ | constructor | (intro _; exfalso; omega) | intro _)
    exact J.rets tt_ok rfl (.cons (.cell rfl (.pt (.there .here) rfl rfl rfl rfl)) .nil) rfl (s := s) (R := [[(id4, .row [.slice (segA s) (labelsP (rowsOf ls) l).length (segC s), .bool true] 74 .fixed)], [(id2, .row [.slice a ls.length c] 24 .fixed)]]) (by simp) ⟨rfl, hown⟩
end
end Go.Proofs.YtmlgmgjakhbhjaaGreatDoor.Ab

namespace Go.Proofs.YtmlgmgjakhbhjaaGreatDoor.Ab
open Go Go.Proofs
noncomputable section

/-- A row of bools of one's own, or nothing, wherever it lies. -/
def BoolsOwn (u : Value) (l : Seg) (B : List Bool) : Prop := (Own 4 eB l B ∧ u = .slice (segA l) B.length (segC l)) ∨ (B = [] ∧ l = [] ∧ ∃ id, u = .slice (some ⟨id, 0, none⟩) 0 0)
def AutoCopy (v : Value) (l' : Seg) (E : List (List P2)) (B : List Bool) : Prop := ∃ u1 u2 l1 l2, v = .agg ⟨[u1, u2]⟩ ∧ l' = l2 ++ l1 ∧ EdgesOwn u1 l1 E ∧ BoolsOwn u2 l2 B
theorem J.freezeCopy {P : Program} {hk : HKT} {n : Nat} {Q : LPost} {K : List KI} {Ev : Env} {D : Dl} {M : Imm} {L R : List Seg} {rc : RC} {u : Value} {l' : Seg} {E : List (List P2)} {B : List Bool} (ho : AutoCopy u l' E B) (hp : Pick L l' R) (hE : E.length ≤ 1099511627776) (hr : ∀ r ∈ E, r.length ≤ 1099511627776) (hB : B.length ≤ 1099511627776)
    (h : ∀ N, MLe M N → ∀ (a : Option Addr) (c : Nat) (ls : List (SlOf P2)) (b : Option Addr) (d : Nat), u = .agg ⟨[.slice a ls.length c, .slice b B.length d]⟩ → rowsOf ls = E → Rows N eP a ls → IsSl N eB b B → J P hk n Q K Ev D N R rc) : J P hk n Q K Ev D M L rc := by
  refine J.nd fun hnd => ?_
  have hnd' : ((l' ++ R.flatten).map (·.1)).Nodup := (hp.perm.map _).nodup_iff.1 hnd
  rw [List.map_append, List.nodup_append] at hnd'
  obtain ⟨u1, u2, l1, l2, rfl, rfl, ⟨ss, G, rfl, rfl, h1, h2, h3⟩, hb⟩ := ho
  have hlen : G.length = E.length := by rw [← h3, List.length_map]
  have hrows : ∀ N, N = Ab.freeze M (l2 ++ (ss ++ G.flatMap Prod.fst)) → Rows N eP (segA ss) (G.map Prod.snd) := by
    rintro N rfl
    refine ⟨?_, ?_⟩
    · exact isSl_part h1 (fun p hp => List.mem_append_right _ (List.mem_append_left _ hp)) hnd'.1 (fun _ => rfl) (by rw [List.length_map]; omega)
    · intro x hx
      obtain ⟨g, hg, rfl⟩ := List.mem_map.1 hx
      rcases h2 g hg with ⟨h4, h5⟩ | ⟨_, h5⟩
      · rw [h5]
        exact isSl_part h4 (fun p hp => List.mem_append_right _ (List.mem_append_right _ (List.mem_flatMap.2 ⟨g, hg, hp⟩))) hnd'.1 (fun _ => rfl) (hr _ (by rw [← h3]; exact List.mem_map_of_mem (f := fun g : Seg × SlOf P2 => g.2.l) hg))
      · rw [h5]; exact IsSl.empty _ _ _
  rcases hb with ⟨hb, rfl⟩ | ⟨rfl, rfl, id, rfl⟩
  · exact J.freeze _ hp.perm fun hle => h _ hle (segA ss) (segC ss) (G.map Prod.snd) (segA l2) (segC l2) rfl (by rw [← h3]; simp [rowsOf]) (hrows _ rfl) (isSl_part hb (fun p hp => List.mem_append_left _ hp) hnd'.1 (fun _ => rfl) hB)
  · exact J.freeze _ hp.perm fun hle => h _ hle (segA ss) (segC ss) (G.map Prod.snd) (some ⟨id, 0, none⟩) 0 rfl (by rw [← h3]; simp [rowsOf]) (hrows _ rfl) (IsSl.empty _ _ _)
theorem perm_swap2 (x l : Seg) (r : List Seg) : (x :: l :: r).flatten.Perm (([] ++ l) ++ (x :: r).flatten) := by
  simp only [List.flatten_cons, List.nil_append]
  rw [← List.append_assoc, ← List.append_assoc]
  exact List.Perm.append_right _ List.perm_append_comm
theorem perm_swap3 (s x l : Seg) (r : List Seg) : (s :: x :: l :: r).flatten.Perm ((s ++ l) ++ (x :: r).flatten) := by
  have := perm_swap2 x l r
  simp only [List.flatten_cons, List.nil_append, List.append_assoc] at this ⊢
  exact List.Perm.append_left _ this
attribute [local irreducible] J Con Lv CallJ DCon DrawP

set_option maxHeartbeats 1000000 in
theorem f12_ok {hk : HKT} (U : HkU hk) (M : Imm) {a b : Option Addr} {c d : Nat} {ls : List (SlOf P2)} {B : List Bool} (hr : Rows M eP a ls) (hb : IsSl M eB b B) (hls : ls.length ≤ 1000000) (hrl : ∀ r ∈ rowsOf ls, r.length ≤ 1000000) (hB : B.length ≤ 1000000) :
    Con Tryz.prog hk 12 [.agg ⟨[.slice a ls.length c, .slice b B.length d]⟩] M [] (Returns fun v l' => AutoCopy v l' (rowsOf ls) B) := by
  refine Con.of_body (U.no 12 rfl) Tryz.func12 rfl rfl Tryz.ntmps12 rfl rfl ?_
  have hn := U.n
  have hbl := hb.len
  repeat' (first | rfl | assumption | (apply stp tt_ok; constructor) | exact Rng.mk (by omega) (by omega) | exact Bd.mk (by first | omega | (refine Nat.lt_of_lt_of_le (show _ < 1 by decide) ?_; first | omega | (rw [List.length_replicate]; omega)) | (refine Nat.lt_of_lt_of_le (show _ < 2 by decide) ?_; first | omega | (rw [List.length_replicate]; omega)) | (simp only [List.length_cons, List.length_nil]; omega)) | refine J.draw (by assumption) follows_ok (by kernel_rfl) (by decide +kernel) (by decide +kernel) ?_ | refine J.done ⟨rfl, rfl, rfl, ?_⟩ | constructor | (intro _; exfalso; omega) | intro _)
  rename_i id1 id2
  refine J.drawP (fun i => Nat.beq i 5) [(id1, .row [.slice a ls.length c, .slice b B.length d] 27 .fixed)] follows_ok (by kernel_rfl) (.cons (.there .here) .nil) ?_
  refine DrawP.segN tt_ok hn 2 [] rfl rfl (by decide +kernel) ?_
  repeat' (first | rfl | assumption | (apply stp tt_ok; constructor) | exact Rng.mk (by omega) (by omega) | exact Bd.mk (by first | omega | (refine Nat.lt_of_lt_of_le (show _ < 1 by decide) ?_; first | omega | (rw [List.length_replicate]; omega)) | (refine Nat.lt_of_lt_of_le (show _ < 2 by decide) ?_; first | omega | (rw [List.length_replicate]; omega)) | (simp only [List.length_cons, List.length_nil]; omega)) | refine J.draw (by assumption) follows_ok (by kernel_rfl) (by decide +kernel) (by decide +kernel) ?_ | refine J.done ⟨rfl, rfl, rfl, ?_⟩ | constructor | (intro _; exfalso; omega) | intro _)
  refine DrawP.segE hn rfl (by decide +kernel) ?_
  repeat' (first | rfl | assumption | (apply stp tt_ok; constructor) | exact Rng.mk (by omega) (by omega) | exact Bd.mk (by first | omega | (refine Nat.lt_of_lt_of_le (show _ < 1 by decide) ?_; first | omega | (rw [List.length_replicate]; omega)) | (refine Nat.lt_of_lt_of_le (show _ < 2 by decide) ?_; first | omega | (rw [List.length_replicate]; omega)) | (simp only [List.length_cons, List.length_nil]; omega)) | refine J.draw (by assumption) follows_ok (by kernel_rfl) (by decide +kernel) (by decide +kernel) ?_ | refine J.done ⟨rfl, rfl, rfl, ?_⟩ | constructor | (intro _; exfalso; omega) | intro _)
  refine CallJ.ret0 (f9_ok U M hr hls hrl) ?_
  rintro v l' ho
  have ho2 := ho
  obtain ⟨ss, G, rfl, hll, _⟩ := ho2
  repeat' (first | rfl | assumption | (apply stp tt_ok; constructor) | exact Rng.mk (by omega) (by omega) | exact Bd.mk (by first | omega | (refine Nat.lt_of_lt_of_le (show _ < 1 by decide) ?_; first | omega | (rw [List.length_replicate]; omega)) | (refine Nat.lt_of_lt_of_le (show _ < 2 by decide) ?_; first | omega | (rw [List.length_replicate]; omega)) | (simp only [List.length_cons, List.length_nil]; omega)) | refine J.draw (by assumption) follows_ok (by kernel_rfl) (by decide +kernel) (by decide +kernel) ?_ | refine J.done ⟨rfl, rfl, rfl, ?_⟩ | constructor | (intro _; exfalso; omega) | intro _)
  refine DrawP.segN tt_ok hn 3 [5] rfl rfl (by decide +kernel) ?_
  repeat' (first | rfl | assumption | (apply stp tt_ok; constructor) | exact Rng.mk (by omega) (by omega) | exact Bd.mk (by first | omega | (refine Nat.lt_of_lt_of_le (show _ < 1 by decide) ?_; first | omega | (rw [List.length_replicate]; omega)) | (refine Nat.lt_of_lt_of_le (show _ < 2 by decide) ?_; first | omega | (rw [List.length_replicate]; omega)) | (simp only [List.length_cons, List.length_nil]; omega)) | refine J.draw (by assumption) follows_ok (by kernel_rfl) (by decide +kernel) (by decide +kernel) ?_ | refine J.done ⟨rfl, rfl, rfl, ?_⟩ | constructor | (intro _; exfalso; omega) | intro _)
  refine DrawP.segE hn rfl (by decide +kernel) ?_
  repeat' (first | rfl | assumption | (apply stp tt_ok; constructor) | exact Rng.mk (by omega) (by omega) | exact Bd.mk (by first | omega | (refine Nat.lt_of_lt_of_le (show _ < 1 by decide) ?_; first | omega | (rw [List.length_replicate]; omega)) | (refine Nat.lt_of_lt_of_le (show _ < 2 by decide) ?_; first | omega | (rw [List.length_replicate]; omega)) | (simp only [List.length_cons, List.length_nil]; omega)) | refine J.draw (by assumption) follows_ok (by kernel_rfl) (by decide +kernel) (by decide +kernel) ?_ | refine J.done ⟨rfl, rfl, rfl, ?_⟩ | ((fail_if_success (apply AppJ.c)); constructor) | (intro _; exfalso; omega) | intro _)
  have fin : ∀ (u2 : Value) (l2 : Seg), BoolsOwn u2 l2 B → AutoCopy (.agg ⟨[.slice (segA ss) (G.map Prod.snd).length (segC ss), u2]⟩) (l2 ++ l') (rowsOf ls) B := fun u2 l2 h2 => ⟨_, u2, l', l2, rfl, rfl, ho, h2⟩
  refine AppJ.c (e := eB) (l := []) (xs := B) .here rfl rfl (.imm hb rfl) (fun _ => rfl) rfl (Bd.mk (by simp only [List.length_nil]; omega)) ?_ ?_
  · intro hnil
    subst hnil
    repeat' (first | rfl | assumption | (apply stp tt_ok; constructor) | exact Rng.mk (by omega) (by omega) | exact Bd.mk (by first | omega | (refine Nat.lt_of_lt_of_le (show _ < 1 by decide) ?_; first | omega | (rw [List.length_replicate]; omega)) | (refine Nat.lt_of_lt_of_le (show _ < 2 by decide) ?_; first | omega | (rw [List.length_replicate]; omega)) | (simp only [List.length_cons, List.length_nil]; omega)) | refine J.draw (by assumption) follows_ok (by kernel_rfl) (by decide +kernel) (by decide +kernel) ?_ | refine J.done ⟨rfl, rfl, rfl, ?_⟩ | constructor | (intro _; exfalso; omega) | intro _)
    refine DrawP.segN tt_ok hn 1 [] rfl rfl (by decide +kernel) ?_
    repeat' (first | rfl | assumption | (apply stp tt_ok; constructor) | exact Rng.mk (by omega) (by omega) | exact Bd.mk (by first | omega | (refine Nat.lt_of_lt_of_le (show _ < 1 by decide) ?_; first | omega | (rw [List.length_replicate]; omega)) | (refine Nat.lt_of_lt_of_le (show _ < 2 by decide) ?_; first | omega | (rw [List.length_replicate]; omega)) | (simp only [List.length_cons, List.length_nil]; omega)) | refine J.draw (by assumption) follows_ok (by kernel_rfl) (by decide +kernel) (by decide +kernel) ?_ | refine J.done ⟨rfl, rfl, rfl, ?_⟩ | constructor | (intro _; exfalso; omega) | intro _)
    refine DrawP.segE hn rfl (by decide +kernel) ?_
    repeat' (first | rfl | assumption | (apply stp tt_ok; constructor) | exact Rng.mk (by omega) (by omega) | exact Bd.mk (by first | omega | (refine Nat.lt_of_lt_of_le (show _ < 1 by decide) ?_; first | omega | (rw [List.length_replicate]; omega)) | (refine Nat.lt_of_lt_of_le (show _ < 2 by decide) ?_; first | omega | (rw [List.length_replicate]; omega)) | (simp only [List.length_cons, List.length_nil]; omega)) | refine J.draw (by assumption) follows_ok (by kernel_rfl) (by decide +kernel) (by decide +kernel) ?_ | refine J.done ⟨rfl, rfl, rfl, ?_⟩ | constructor | (intro _; exfalso; omega) | intro _)
    refine DrawP.done rfl ?_
    repeat' (first | rfl | assumption | (apply stp tt_ok; constructor) | exact Rng.mk (by omega) (by omega) | exact Bd.mk (by first | omega | (refine Nat.lt_of_lt_of_le (show _ < 1 by decide) ?_; first | omega | (rw [List.length_replicate]; omega)) | (refine Nat.lt_of_lt_of_le (show _ < 2 by decide) ?_; first | omega | (rw [List.length_replicate]; omega)) | (simp only [List.length_cons, List.length_nil]; omega)) | refine J.draw (by assumption) follows_ok (by kernel_rfl) (by decide +kernel) (by decide +kernel) ?_ | refine J.done ⟨rfl, rfl, rfl, ?_⟩ | constructor | (intro _; exfalso; omega) | intro _)
    rename_i id3
    exact J.rets tt_ok rfl (.cons (.cell rfl (.pt (.there (.there .here)) rfl rfl rfl rfl)) .nil) rfl (s := [] ++ l') (R := [[(id3, .row [] 4 .fixed)], [(id2, .row [.slice (segA ss) (G.map Prod.snd).length (segC ss), .slice (some ⟨id3, 0, none⟩) 0 0] 27 .fixed)], [(id1, .row [.slice a ls.length c, .slice b 0 d] 27 .fixed)]]) (perm_swap2 _ _ _) (fin _ _ (.inr ⟨rfl, rfl, id3, rfl⟩))
  · intro hne s hs
    repeat' (first | rfl | assumption | (apply stp tt_ok; constructor) | exact Rng.mk (by omega) (by omega) | exact Bd.mk (by first | omega | (refine Nat.lt_of_lt_of_le (show _ < 1 by decide) ?_; first | omega | (rw [List.length_replicate]; omega)) | (refine Nat.lt_of_lt_of_le (show _ < 2 by decide) ?_; first | omega | (rw [List.length_replicate]; omega)) | (simp only [List.length_cons, List.length_nil]; omega)) | refine J.draw (by assumption) follows_ok (by kernel_rfl) (by decide +kernel) (by decide +kernel) ?_ | refine J.done ⟨rfl, rfl, rfl, ?_⟩ | constructor | (intro _; exfalso; omega) | intro _)
    refine DrawP.segN tt_ok hn 1 [] rfl rfl (by decide +kernel) ?_
    repeat' (first | rfl | assumption | (apply stp tt_ok; constructor) | exact Rng.mk (by omega) (by omega) | exact Bd.mk (by first | omega | (refine Nat.lt_of_lt_of_le (show _ < 1 by decide) ?_; first | omega | (rw [List.length_replicate]; omega)) | (refine Nat.lt_of_lt_of_le (show _ < 2 by decide) ?_; first | omega | (rw [List.length_replicate]; omega)) | (simp only [List.length_cons, List.length_nil]; omega)) | refine J.draw (by assumption) follows_ok (by kernel_rfl) (by decide +kernel) (by decide +kernel) ?_ | refine J.done ⟨rfl, rfl, rfl, ?_⟩ | constructor | (intro _; exfalso; omega) | intro _)
    refine DrawP.segE hn rfl (by decide +kernel) ?_
    repeat' (first | rfl | assumption | (apply stp tt_ok; constructor) | exact Rng.mk (by omega) (by omega) | exact Bd.mk (by first | omega | (refine Nat.lt_of_lt_of_le (show _ < 1 by decide) ?_; first | omega | (rw [List.length_replicate]; omega)) | (refine Nat.lt_of_lt_of_le (show _ < 2 by decide) ?_; first | omega | (rw [List.length_replicate]; omega)) | (simp only [List.length_cons, List.length_nil]; omega)) | refine J.draw (by assumption) follows_ok (by kernel_rfl) (by decide +kernel) (by decide +kernel) ?_ | refine J.done ⟨rfl, rfl, rfl, ?_⟩ | constructor | (intro _; exfalso; omega) | intro _)
    refine DrawP.done rfl ?_
    repeat' (first | rfl | assumption | (apply stp tt_ok; constructor) | exact Rng.mk (by omega) (by omega) | exact Bd.mk (by first | omega | (refine Nat.lt_of_lt_of_le (show _ < 1 by decide) ?_; first | omega | (rw [List.length_replicate]; omega)) | (refine Nat.lt_of_lt_of_le (show _ < 2 by decide) ?_; first | omega | (rw [List.length_replicate]; omega)) | (simp only [List.length_cons, List.length_nil]; omega)) | refine J.draw (by assumption) follows_ok (by kernel_rfl) (by decide +kernel) (by decide +kernel) ?_ | refine J.done ⟨rfl, rfl, rfl, ?_⟩ | constructor | (intro _; exfalso; omega) | intro _)
    rename_i id3
    exact J.rets tt_ok rfl (.cons (.cell rfl (.pt (.there (.there (.there .here))) rfl rfl rfl rfl)) .nil) rfl (s := s ++ l') (R := [[(id3, .row [] 4 .fixed)], [(id2, .row [.slice (segA ss) (G.map Prod.snd).length (segC ss), .slice (segA s) ([] ++ B).length (segC s)] 27 .fixed)], [(id1, .row [.slice a ls.length c, .slice b B.length d] 27 .fixed)]]) (perm_swap3 _ _ _ _) (fin _ _ (.inl ⟨hs, rfl⟩))
end
end Go.Proofs.YtmlgmgjakhbhjaaGreatDoor.Ab

namespace Go.Proofs.YtmlgmgjakhbhjaaGreatDoor.Ab
open Go Go.Proofs
noncomputable section

/-- A call that two groups are lent to, and that gives a value, and nothing else. -/
theorem CallJ.lend2 {P : Program} {hk : FuncId → Option (List Value → Heap → AEnd)} {n : Nat} {Q : LPost} {K : List KI} {D : Dl} {M : Imm} {L : List Seg} {rc : RC} {a : Array Oper} {rest : List Oper} {E : Env} {dst : Option Tmp} {f : FuncId} {args : List Value}
    {u : Value} {s1 s2 : Seg} {R1 R2 : List Seg} (hp1 : Pick L s1 R1) (hp2 : Pick R1 s2 R2) (c : MLe M (freeze M s1) → (s1.map (·.1)).Nodup → MLe (freeze M s1) (freeze (freeze M s1) s2) → Con P hk f args (freeze (freeze M s1) s2) [] (Gives u []))
    (hr : J P hk n Q (.ops a rest :: K) (E.put dst u) D M L rc) : CallJ P hk n Q K D M L rc a rest E dst f args := by
  have hp : L.flatten.Perm (s1 ++ (s2 ++ []) ++ R2.flatten) := by
    refine hp1.perm.trans ?_
    rw [List.append_nil, List.append_assoc]
    exact List.Perm.append_left _ hp2.perm
  refine CallJ.mk (l0 := s1 ++ (s2 ++ [])) (R := R2) hp (Con.lend s1 fun h1 h2 => Con.lend s2 fun h3 _ => c h1 h2 h3) ?_ ?_
  · rintro v l'' ⟨l', rfl, l2, rfl, hv, rfl⟩
    subst hv
    refine hr.perm ?_
    simpa using hp.symm
  · rintro v l'' ⟨l', rfl, l2, rfl, hv⟩
    exact hv.elim

theorem perm_none (L : List Seg) : L.flatten.Perm (([] : Seg) ++ L.flatten) := List.Perm.refl _
theorem perm_mid (x y z es ps rs : Seg) (r : List Seg) : (x :: y :: z :: es :: ps :: rs :: r).flatten.Perm ((es ++ (ps ++ rs)) ++ (x :: y :: z :: r).flatten) := by
  simp only [List.flatten_cons]
  rw [show x ++ (y ++ (z ++ (es ++ (ps ++ (rs ++ r.flatten))))) = (x ++ (y ++ z)) ++ ((es ++ (ps ++ rs)) ++ r.flatten) by simp, show (es ++ (ps ++ rs)) ++ (x ++ (y ++ (z ++ r.flatten))) = ((es ++ (ps ++ rs)) ++ (x ++ (y ++ z))) ++ r.flatten by simp, ← List.append_assoc]
  exact List.Perm.append_right _ List.perm_append_comm
theorem take_pre {α : Type} {S S' : List α} {s : Nat} {l : α} (h : S <+: S') (hs : S[s]? = some l) : S'.take (s + 1) = S.take s ++ [l] := by
  obtain ⟨t, rfl⟩ := h
  have hlt := (List.getElem?_eq_some_iff.1 hs).1
  rw [List.take_append_of_le_length (by omega), List.take_add_one, hs]
  rfl
/-- A row of sets: as it was written down, or grown. -/
def SetsRow (kd : Kind) (cs m : Nat) : Prop := (kd = .opn ∧ cs = OPEN) ∨ (kd = .fixed ∧ cs = m)
theorem SetsRow.live {kd : Kind} {cs m : Nat} (h : SetsRow kd cs m) : isDead kd = false := by
  rcases h with ⟨rfl, _⟩ | ⟨rfl, _⟩ <;> rfl
theorem placeOf_no {l : List Int} : ∀ {S : List (List Int)} {i : Nat}, (∀ j, j < S.length → nthAt [] S j ≠ l) → placeOf l S i = none
  | [], _, _ => rfl
  | m :: S, i, h => by
    unfold placeOf
    rw [if_neg fun e => h 0 (by simp) e.symm]
    exact placeOf_no fun j hj => h (j + 1) (by simp; omega)
theorem placeOf_at {l : List Int} : ∀ {S : List (List Int)} {i p : Nat}, p < S.length → nthAt [] S p = l → (∀ j, j < p → nthAt [] S j ≠ l) → placeOf l S i = some (i + p)
  | [], _, _, h, _, _ => by simp at h
  | m :: S, i, 0, _, h, _ => by
    unfold placeOf
    rw [if_pos (show l = m from h.symm)]; rfl
  | m :: S, i, p + 1, hp, h, hn => by
    unfold placeOf
    rw [if_neg fun e => hn 0 (by omega) e.symm, placeOf_at (p := p) (by simp at hp; omega) h fun j hj => hn (j + 1) (by omega)]
    congr 1; omega
def setsG (G : List (Seg × List Int)) : List (List Int) := G.map (·.2)
def edgesG (R : List (Seg × List P2)) : List (List P2) := R.map (·.2)
theorem nth_sets {G : List (Seg × List Int)} {p : Nat} (h : p < G.length) : nthAt (eSl Int).dflt (G.map slOf) p = slOf G[p] ∧ nthAt [] (setsG G) p = G[p].2 ∧ (setsG G)[p]? = some G[p].2 := by
  unfold setsG
  refine ⟨?_, ?_, ?_⟩
  · rw [nthAt_get (by simpa using h)]; simp
  · rw [nthAt_get (by simpa using h)]; simp
  · simp [h]
attribute [local irreducible] J Con Lv CallJ DCon

set_option maxHeartbeats 4000000 in
theorem f11_ok {hk : HKT} (U : HkU hk) (M : Imm) {a : Option Addr} {c : Nat} {ls : List (SlOf P2)} (hr : Rows M eP a ls) (hfl : (rowsOf ls).flatten.length ≤ 1099511627776) (most : Int) :
    Con Tryz.prog hk 11 [.agg ⟨[.slice a ls.length c]⟩, .int .i64 most] M [] (Returns (f10Post (rowsOf ls) most)) := by
  refine Con.of_body (U.no 11 rfl) Tryz.func11 rfl rfl Tryz.ntmps11 rfl rfl ?_
  have hn := U.n
  have hout := hr.out
  have hlen := hout.len
  repeat' (first | rfl | assumption | (apply stp tt_ok; constructor) | exact Rng.mk (by omega) (by omega) | exact Bd.mk (by first | omega | (refine Nat.lt_of_lt_of_le (show _ < 1 by decide) ?_; first | omega | (rw [List.length_replicate]; omega)) | (refine Nat.lt_of_lt_of_le (show _ < 2 by decide) ?_; first | omega | (rw [List.length_replicate]; omega)) | (simp only [List.length_cons, List.length_nil]; omega)) | refine J.draw (by assumption) follows_ok (by kernel_rfl) (by decide +kernel) (by decide +kernel) ?_ | refine J.done ⟨rfl, rfl, rfl, ?_⟩ | constructor | (intro _; exfalso; omega) | intro _)
  refine CallJ.val (f19_ok U M hr hfl) ?_
  cases hg : netGood (rowsOf ls)
  · repeat' (first | rfl | assumption | (apply stp tt_ok; constructor) | exact Rng.mk (by omega) (by omega) | exact Bd.mk (by first | omega | (refine Nat.lt_of_lt_of_le (show _ < 1 by decide) ?_; first | omega | (rw [List.length_replicate]; omega)) | (refine Nat.lt_of_lt_of_le (show _ < 2 by decide) ?_; first | omega | (rw [List.length_replicate]; omega)) | (simp only [List.length_cons, List.length_nil]; omega)) | refine J.draw (by assumption) follows_ok (by kernel_rfl) (by decide +kernel) (by decide +kernel) ?_ | refine J.done ⟨rfl, rfl, rfl, ?_⟩ | constructor | (intro _; exfalso; omega) | intro _)
    rename_i id2 id4
    exact J.rets tt_ok rfl (.cons (.cell rfl (.pt .here rfl rfl rfl rfl)) (.cons (.tmp rfl) .nil)) rfl (s := []) (R := [[(id4, .row [.slice none 0 0, .slice none 0 0] 27 .fixed)], [(id2, .row [.slice a ls.length c] 24 .fixed)]]) (by simp) (by simp [f10Post, hg, resV])
  · repeat' (first | rfl | assumption | (apply stp tt_ok; constructor) | exact Rng.mk (by omega) (by omega) | exact Bd.mk (by first | omega | (refine Nat.lt_of_lt_of_le (show _ < 1 by decide) ?_; first | omega | (rw [List.length_replicate]; omega)) | (refine Nat.lt_of_lt_of_le (show _ < 2 by decide) ?_; first | omega | (rw [List.length_replicate]; omega)) | (simp only [List.length_cons, List.length_nil]; omega)) | refine J.draw (by assumption) follows_ok (by kernel_rfl) (by decide +kernel) (by decide +kernel) ?_ | refine J.done ⟨rfl, rfl, rfl, ?_⟩ | constructor | (intro _; exfalso; omega) | intro _)
    rename_i id2 id4 i0
    have hmay0 : mayB (rowsOf ls) [0] = true := mayB_of hg fun s hs => by
      have := (netGood_spec hg).1
      cases List.mem_singleton.1 hs; omega
    refine CallJ.lendR (s := [(i0, _)]) (R := _) .here (fun hle _ => f28_ok U _ (l := [0]) (hr.mono hle) (isSl_row (t := 3) rfl (freeze_one M i0 _ 3 .fixed rfl) (fun _ => rfl) (by simp)) hmay0) ?_
    rintro v tl ⟨rfl, hto⟩
    repeat' (first | rfl | assumption | (apply stp tt_ok; constructor) | exact Rng.mk (by omega) (by omega) | exact Bd.mk (by first | omega | (refine Nat.lt_of_lt_of_le (show _ < 1 by decide) ?_; first | omega | (rw [List.length_replicate]; omega)) | (refine Nat.lt_of_lt_of_le (show _ < 2 by decide) ?_; first | omega | (rw [List.length_replicate]; omega)) | (simp only [List.length_cons, List.length_nil]; omega)) | refine J.draw (by assumption) follows_ok (by kernel_rfl) (by decide +kernel) (by decide +kernel) ?_ | refine J.done ⟨rfl, rfl, rfl, ?_⟩ | constructor | (intro _; exfalso; omega) | intro _)
    rename_i ids id7
    refine J.sel [1, 1, 0, 1, 1] rfl ?_
    refine J.perm (L' := [[(ids, .row ((([(tl, closeP (rowsOf ls) [0])] : List (Seg × List Int)).map slOf).flatMap (eSl Int).enc) 28 .fixed)], segs [(tl, closeP (rowsOf ls) [0])], [(id7, .row [.slice none 0 0, .slice none 0 0] 27 .fixed)], [], [], [], [(id4, .row [.slice none 0 0, .slice none 0 0] 27 .fixed)], [(id2, .row [.slice a ls.length c] 24 .fixed)]]) (List.Perm.of_eq (by simp [segs, slOf, eSl, zerosL])) ?_
    refine J.keep [8, 7, 6, 5, 4, 2, 1] rfl ?_
    refine J.forN 2001 (fun s E L => ∃ (ids cs : Nat) (kd : Kind) (G : List (Seg × List Int)) (es ps : Seg) (R : List (Seg × List P2)) (B : List Bool),
      E = [(8, .int .i64 (s : Int)), (7, .pointer (some ⟨id7, 0, none⟩)), (6, .slice (some ⟨ids, 0, none⟩) (G.map slOf).length cs), (5, .int .i64 0), (4, .pointer (some ⟨id4, 0, none⟩)), (2, .pointer (some ⟨id2, 0, none⟩)), (1, .int .i64 (min most 2000))] ∧
      L = [[(ids, .row ((G.map slOf).flatMap (eSl Int).enc) 28 kd)], segs G, [(id7, .row [.slice (segA es) (R.map slOf).length (segC es), .slice (segA ps) B.length (segC ps)] 27 .fixed)], es, ps, segs R, [(id4, .row [.slice none 0 0, .slice none 0 0] 27 .fixed)], [(id2, .row [.slice a ls.length c] 24 .fixed)]] ∧
      SetsRow kd cs (G.map slOf).length ∧ AllOwn 3 eI G ∧ Own 46 (eSl P2) es (R.map slOf) ∧ Own 4 eB ps B ∧ AllOwn 48 eP R ∧ B = ((setsG G).take s).map endsB ∧ RefAt (rowsOf ls) most (min most 2000) s (setsG G) (edgesG R))
      ⟨ids, 1, .fixed, [(tl, closeP (rowsOf ls) [0])], [], [], [], [], rfl, rfl, .inr ⟨rfl, rfl⟩, (fun g hg => by cases List.mem_singleton.1 hg; exact hto), Own.nil _ _, Own.nil _ _, (fun g hg => by cases hg), rfl, RefAt.start hg most⟩ ?_
    clear hto
    rintro s E L hs' ⟨ids, cs, kd, G, es, ps, R, B, rfl, rfl, hkd, hG, hes, hps, hR, hB, hat⟩ ih
    have hdead := hkd.live
    have hG1 : (G.map slOf).length = G.length := List.length_map _
    have hG2 : (setsG G).length = G.length := List.length_map _
    have hR1 : (R.map slOf).length = R.length := List.length_map _
    have hRs : R.length = s := by rw [← hat.len]; exact (List.length_map _).symm
    have hBl : B.length ≤ s := by rw [hB, List.length_map, List.length_take]; omega
    have hGle := hat.le
    rw [hG2] at hGle
    by_cases hlt : s < G.length
    · obtain ⟨n1, n2, n3⟩ := nth_sets hlt
      repeat' (first | rfl | assumption | (apply stp tt_ok; constructor) | exact Rng.mk (by omega) (by omega) | exact Bd.mk (by first | omega | (refine Nat.lt_of_lt_of_le (show _ < 1 by decide) ?_; first | omega | (rw [List.length_replicate]; omega)) | (refine Nat.lt_of_lt_of_le (show _ < 2 by decide) ?_; first | omega | (rw [List.length_replicate]; omega)) | (simp only [List.length_cons, List.length_nil]; omega)) | refine J.draw (by assumption) follows_ok (by kernel_rfl) (by decide +kernel) (by decide +kernel) ?_ | refine J.done ⟨rfl, rfl, rfl, ?_⟩ | constructor | (intro _; exfalso; omega) | intro _)
      · rename_i hgt
        refine J.rets tt_ok rfl (.cons (.cell rfl (.pt (.there (.there (.there (.there (.there (.there .here)))))) rfl rfl rfl rfl)) (.cons (.tmp rfl) .nil)) rfl (s := []) (perm_none _) ?_
        rw [f10Post, if_pos hg, hat.fail (by rw [hG2]; omega)]
        exact ⟨rfl, rfl⟩
      · rename_i hcap
        rw [n1]
        obtain ⟨hl1, hl2⟩ := hat.ins _ (List.mem_of_getElem? n3)
        have hmay := mayB_of hg hl1
        have hlab := labelsP_le (rowsOf ls) G[s].2
        have hlab2 : G[s].2.length * (rowsOf ls).flatten.length ≤ 2000 * 8000 := Nat.mul_le_mul hl2 (netGood_spec hg).2.2.1
        have hgG : G[s] ∈ G := List.getElem_mem hlt
        have call := fun (hle : MLe M (freeze M (segs G))) (hnd : ((segs G).map (·.1)).Nodup) => f29_ok U _ (d := segC G[s].1) (c := c) (hr.mono hle) (isSl_segs (M := M) hG hnd (fun _ => rfl) hgG (by omega)) hmay hl2
        refine CallJ.lendR (s := segs G) (R := _) (.there .here) call ?_
        clear call
        rintro v lb ⟨rfl, hlb⟩
        have hstep := hat.step hg n3 (by rw [hG2]; omega)
        have hpos : ∀ x ∈ labelsP (rowsOf ls) G[s].2, 0 ≤ x := fun x hx => labelsP_nonneg hg hx
        generalize labelsP (rowsOf ls) G[s].2 = labs at *
        have hin := hat.ins
        have hpre := flU_pre (rowsOf ls) G[s].2 labs (setsG G) []
        have hGs : G.length ≤ 2000 := by omega
        clear hgG n1 n2
        generalize G[s].2 = l0 at *
        generalize hwh : flU (rowsOf ls) l0 labs (setsG G) [] = whole at *
        have htk := take_pre hpre n3
        repeat' (first | rfl | assumption | (apply stp tt_ok; constructor) | exact Rng.mk (by omega) (by omega) | exact Bd.mk (by first | omega | (refine Nat.lt_of_lt_of_le (show _ < 1 by decide) ?_; first | omega | (rw [List.length_replicate]; omega)) | (refine Nat.lt_of_lt_of_le (show _ < 2 by decide) ?_; first | omega | (rw [List.length_replicate]; omega)) | (simp only [List.length_cons, List.length_nil]; omega)) | refine J.draw (by assumption) follows_ok (by kernel_rfl) (by decide +kernel) (by decide +kernel) ?_ | refine J.done ⟨rfl, rfl, rfl, ?_⟩ | constructor | (intro _; exfalso; omega) | intro _)
        refine J.addNil ?_
        refine J.keep [11, 10, 9, 8, 7, 6, 5, 4, 2, 1] rfl ?_
        refine J.forN labs.length (fun k E L => ∃ (ids cs : Nat) (kd : Kind) (G' : List (Seg × List Int)) (eg : Seg) (row : List P2),
          E = [(11, .int .i64 (k : Int)), (10, .slice (segA lb) labs.length (segC lb)), (9, .slice (segA eg) row.length (segC eg)), (8, .int .i64 (s : Int)), (7, .pointer (some ⟨id7, 0, none⟩)), (6, .slice (some ⟨ids, 0, none⟩) (G'.map slOf).length cs), (5, .int .i64 0), (4, .pointer (some ⟨id4, 0, none⟩)), (2, .pointer (some ⟨id2, 0, none⟩)), (1, .int .i64 (min most 2000))] ∧
          L = [eg, lb, [(ids, .row ((G'.map slOf).flatMap (eSl Int).enc) 28 kd)], segs G', [(id7, .row [.slice (segA es) (R.map slOf).length (segC es), .slice (segA ps) B.length (segC ps)] 27 .fixed)], es, ps, segs R, [(id4, .row [.slice none 0 0, .slice none 0 0] 27 .fixed)], [(id2, .row [.slice a ls.length c] 24 .fixed)]] ∧
          SetsRow kd cs (G'.map slOf).length ∧ AllOwn 3 eI G' ∧ Own 48 eP eg row ∧ whole = flU (rowsOf ls) l0 (labs.drop k) (setsG G') row ∧ SetsIn (rowsOf ls) (setsG G') ∧ (setsG G')[s]? = some l0 ∧ row.length = k ∧ G'.length ≤ 2000 + k)
          ⟨ids, cs, kd, G, [], [], rfl, rfl, hkd, hG, Own.nil _ _, hwh.symm, hin, n3, rfl, by omega⟩ ?_
        have hs2 : s < 2000 := by omega
        clear hwh hkd hG hdead hG1 hG2 hGle hlt n3 hat hcap hin hGs
        rintro k E L hk' ⟨ids, cs, kd, G', eg, row, rfl, rfl, hkd, hG, heg, hfl2, hin, n3, hrk, hGk⟩ ih2
        have hdead := hkd.live
        have hG1 : (G'.map slOf).length = G'.length := List.length_map _
        have hG2 : (setsG G').length = G'.length := List.length_map _
        have hlt : s < G'.length := by have := (List.getElem?_eq_some_iff.1 n3).1; omega
        obtain ⟨n1, n2, n4⟩ := nth_sets hlt
        have n5 : G'[s].2 = l0 := by rw [n4] at n3; exact Option.some.inj n3
        have hgG : G'[s] ∈ G' := List.getElem_mem hlt
        by_cases hkl : k < labs.length
        · have hlabk : 0 ≤ nthAt eI.dflt labs k := hpos _ (List.mem_of_getElem? (nthAt_lt hkl))
          have hdrop : labs.drop k = nthAt eI.dflt labs k :: labs.drop (k + 1) := by rw [List.drop_eq_getElem_cons hkl, nthAt_get hkl]
          rw [hdrop] at hfl2
          repeat' (first | rfl | assumption | (apply stp tt_ok; constructor) | exact Rng.mk (by omega) (by omega) | exact Bd.mk (by first | omega | (refine Nat.lt_of_lt_of_le (show _ < 1 by decide) ?_; first | omega | (rw [List.length_replicate]; omega)) | (refine Nat.lt_of_lt_of_le (show _ < 2 by decide) ?_; first | omega | (rw [List.length_replicate]; omega)) | (simp only [List.length_cons, List.length_nil]; omega)) | refine J.draw (by assumption) follows_ok (by kernel_rfl) (by decide +kernel) (by decide +kernel) ?_ | refine J.done ⟨rfl, rfl, rfl, ?_⟩ | constructor | (intro _; exfalso; omega) | intro _)
          rw [n1]
          have call := fun (hle : MLe M (freeze M (segs G'))) (hnd : ((segs G').map (·.1)).Nodup) => f30_ok U _ (d := segC G'[s].1) (c := c) (hr.mono hle) (isSl_segs (M := M) hG hnd (fun _ => rfl) hgG (by rw [n5]; omega)) (by rw [n5]; exact hmay) hlabk
          refine CallJ.lendR (s := segs G') (R := _) (.there (.there (.there .here))) call ?_
          clear call
          rintro v tl ⟨rfl, htl⟩
          rw [n5] at htl ⊢
          obtain ⟨hx1, hx2⟩ := stepP_in hg l0 (nthAt eI.dflt labs k)
          unfold flU at hfl2
          generalize stepP (rowsOf ls) l0 (nthAt eI.dflt labs k) = x at *
          repeat' (first | rfl | assumption | (apply stp tt_ok; constructor) | exact Rng.mk (by omega) (by omega) | exact Bd.mk (by first | omega | (refine Nat.lt_of_lt_of_le (show _ < 1 by decide) ?_; first | omega | (rw [List.length_replicate]; omega)) | (refine Nat.lt_of_lt_of_le (show _ < 2 by decide) ?_; first | omega | (rw [List.length_replicate]; omega)) | (simp only [List.length_cons, List.length_nil]; omega)) | refine J.draw (by assumption) follows_ok (by kernel_rfl) (by decide +kernel) (by decide +kernel) ?_ | refine J.done ⟨rfl, rfl, rfl, ?_⟩ | constructor | (intro _; exfalso; omega) | intro _)
          refine J.keep [13, 12, 11, 10, 9, 8, 7, 6, 5, 4, 2, 1] rfl ?_
          refine J.forN G'.length (fun p E L => E = [(13, .int .i64 (p : Int)), (12, .slice (segA tl) x.length (segC tl)), (11, .int .i64 (k : Int)), (10, .slice (segA lb) labs.length (segC lb)), (9, .slice (segA eg) row.length (segC eg)), (8, .int .i64 (s : Int)), (7, .pointer (some ⟨id7, 0, none⟩)), (6, .slice (some ⟨ids, 0, none⟩) (G'.map slOf).length cs), (5, .int .i64 0), (4, .pointer (some ⟨id4, 0, none⟩)), (2, .pointer (some ⟨id2, 0, none⟩)), (1, .int .i64 (min most 2000))] ∧
            L = [tl, eg, lb, [(ids, .row ((G'.map slOf).flatMap (eSl Int).enc) 28 kd)], segs G', [(id7, .row [.slice (segA es) (R.map slOf).length (segC es), .slice (segA ps) B.length (segC ps)] 27 .fixed)], es, ps, segs R, [(id4, .row [.slice none 0 0, .slice none 0 0] 27 .fixed)], [(id2, .row [.slice a ls.length c] 24 .fixed)]] ∧ ∀ j, j < p → nthAt [] (setsG G') j ≠ x)
            ⟨rfl, rfl, fun j hj => by omega⟩ ?_
          rintro p E L hp' ⟨rfl, rfl, hno⟩ ih3
          by_cases hpl : p < G'.length
          · obtain ⟨m1, m2, m3⟩ := nth_sets hpl
            have hgp : G'[p] ∈ G' := List.getElem_mem hpl
            have hgl := (hin _ (List.mem_of_getElem? m3)).2
            repeat' (first | rfl | assumption | (apply stp tt_ok; constructor) | exact Rng.mk (by omega) (by omega) | exact Bd.mk (by first | omega | (refine Nat.lt_of_lt_of_le (show _ < 1 by decide) ?_; first | omega | (rw [List.length_replicate]; omega)) | (refine Nat.lt_of_lt_of_le (show _ < 2 by decide) ?_; first | omega | (rw [List.length_replicate]; omega)) | (simp only [List.length_cons, List.length_nil]; omega)) | refine J.draw (by assumption) follows_ok (by kernel_rfl) (by decide +kernel) (by decide +kernel) ?_ | refine J.done ⟨rfl, rfl, rfl, ?_⟩ | constructor | (intro _; exfalso; omega) | intro _)
            rw [m1]
            have call := fun (hle : MLe M (freeze M (segs G'))) (hnd : ((segs G').map (·.1)).Nodup) (hle2 : MLe (freeze M (segs G')) (freeze (freeze M (segs G')) tl)) => f31_ok U _ (c := segC G'[p].1) (d := segC tl) ((isSl_segs (M := M) hG hnd (fun _ => rfl) hgp (by omega)).mono hle2) (isSl_lent htl (fun _ => rfl) (by omega))
            refine CallJ.lend2 (s1 := segs G') (s2 := tl) (R1 := _) (R2 := _) (.there (.there (.there (.there .here)))) .here call ?_
            clear call
            cases hd : decide (G'[p].2 = x)
            · have hd := of_decide_eq_false hd
              repeat' (first | rfl | assumption | (apply stp tt_ok; constructor) | exact Rng.mk (by omega) (by omega) | exact Bd.mk (by first | omega | (refine Nat.lt_of_lt_of_le (show _ < 1 by decide) ?_; first | omega | (rw [List.length_replicate]; omega)) | (refine Nat.lt_of_lt_of_le (show _ < 2 by decide) ?_; first | omega | (rw [List.length_replicate]; omega)) | (simp only [List.length_cons, List.length_nil]; omega)) | refine J.draw (by assumption) follows_ok (by kernel_rfl) (by decide +kernel) (by decide +kernel) ?_ | refine J.done ⟨rfl, rfl, rfl, ?_⟩ | constructor | (intro _; exfalso; omega) | intro _)
              refine J.keep [13, 12, 11, 10, 9, 8, 7, 6, 5, 4, 2, 1] rfl (ih3 hpl _ _ ⟨rfl, rfl, fun j hj => ?_⟩)
              by_cases e : j = p
              · subst e; rw [m2]; exact hd
              · exact hno j (by omega)
            · have hd := of_decide_eq_true hd
              rw [placeOf_at (p := p) (by omega) (by rw [m2, hd]) hno] at hfl2
              simp only [Nat.zero_add] at hfl2
              repeat' (first | rfl | assumption | (apply stp tt_ok; constructor) | exact Rng.mk (by omega) (by omega) | exact Bd.mk (by first | omega | (refine Nat.lt_of_lt_of_le (show _ < 1 by decide) ?_; first | omega | (rw [List.length_replicate]; omega)) | (refine Nat.lt_of_lt_of_le (show _ < 2 by decide) ?_; first | omega | (rw [List.length_replicate]; omega)) | (simp only [List.length_cons, List.length_nil]; omega)) | refine J.draw (by assumption) follows_ok (by kernel_rfl) (by decide +kernel) (by decide +kernel) ?_ | refine J.done ⟨rfl, rfl, rfl, ?_⟩ | constructor | (intro _; exfalso; omega) | intro _)
              rename_i i90 sg hsg
              refine J.keep [11, 10, 9, 8, 7, 6, 5, 4, 2, 1] rfl ?_
              refine J.sel [2, 2, 2, 2, 2, 2, 2, 2, 2, 2] rfl ?_
              exact ih2 hkl _ _ ⟨ids, cs, kd, G', sg, row ++ [(nthAt eI.dflt labs k, (p : Int))], rfl, rfl, hkd, hG, hsg, hfl2, hin, n3, by simp [hrk], by omega⟩
          · rw [placeOf_no (fun j hj => hno j (by omega))] at hfl2
            simp only at hfl2
            obtain rfl : p = G'.length := by omega
            rw [hG2] at hfl2
            have hmap : (G' ++ [(tl, x)]).map slOf = G'.map slOf ++ [slOf (tl, x)] := by simp
            have hset : setsG (G' ++ [(tl, x)]) = setsG G' ++ [x] := by simp [setsG]
            have hin' : SetsIn (rowsOf ls) (setsG (G' ++ [(tl, x)])) := by
              rw [hset]
              intro m hm
              rcases List.mem_append.1 hm with hm | hm
              · exact hin m hm
              · cases List.mem_singleton.1 hm
                exact ⟨hx1, hx2⟩
            have n3' : (setsG (G' ++ [(tl, x)]))[s]? = some l0 := by
              rw [hset, List.getElem?_append_left (by omega), n3]
            have hG' : AllOwn 3 eI (G' ++ [(tl, x)]) := hG.add htl
            rw [← hset] at hfl2
            have hne : G'.map slOf ≠ [] := fun h => by
              have := congrArg List.length h
              rw [hG1] at this
              simp only [List.length_nil] at this
              omega
            repeat' (first | rfl | assumption | (apply stp tt_ok; constructor) | exact Rng.mk (by omega) (by omega) | exact Bd.mk (by first | omega | (refine Nat.lt_of_lt_of_le (show _ < 1 by decide) ?_; first | omega | (rw [List.length_replicate]; omega)) | (refine Nat.lt_of_lt_of_le (show _ < 2 by decide) ?_; first | omega | (rw [List.length_replicate]; omega)) | (simp only [List.length_cons, List.length_nil]; omega)) | refine J.draw (by assumption) follows_ok (by kernel_rfl) (by decide +kernel) (by decide +kernel) ?_ | refine J.done ⟨rfl, rfl, rfl, ?_⟩ | ((fail_if_success (apply AppJ.c)); (fail_if_success (apply AppJ.o)); constructor) | (intro _; exfalso; omega) | intro _)
            rcases hkd with ⟨rfl, rfl⟩ | ⟨rfl, rfl⟩
            · refine AppJ.o (e := eSl Int) (s := [(ids, .row ((G'.map slOf).flatMap (eSl Int).enc) 28 .opn)]) (l := G'.map slOf) (.inr ⟨ids, rfl, hne⟩) rfl (.there (.there (.there (.there .here)))) (.tmp (x := slOf (tl, x)) .here rfl (.any rfl)) (fun _ => rfl) (fun _ => rfl) rfl (Bd.mk (by rw [hG1]; simp only [List.length_cons, List.length_nil]; omega)) fun s' hs' => ?_
              rcases hs' with ⟨_, h⟩ | ⟨ids', rfl, _⟩
              · simp at h
              repeat' (first | rfl | assumption | (apply stp tt_ok; constructor) | exact Rng.mk (by omega) (by omega) | exact Bd.mk (by first | omega | (refine Nat.lt_of_lt_of_le (show _ < 1 by decide) ?_; first | omega | (rw [List.length_replicate]; omega)) | (refine Nat.lt_of_lt_of_le (show _ < 2 by decide) ?_; first | omega | (rw [List.length_replicate]; omega)) | (simp only [List.length_cons, List.length_nil]; omega)) | refine J.draw (by assumption) follows_ok (by kernel_rfl) (by decide +kernel) (by decide +kernel) ?_ | refine J.done ⟨rfl, rfl, rfl, ?_⟩ | constructor | (intro _; exfalso; omega) | intro _)
              rename_i i90 sg hsg
              refine J.keep [11, 10, 9, 8, 7, 6, 5, 4, 2, 1] rfl ?_
              refine J.sel [3, 3, 3, 3, 2, 2, 2, 2, 2, 2, 2] rfl ?_
              refine J.perm (L' := [sg, lb, [(ids', .row (((G' ++ [(tl, x)]).map slOf).flatMap (eSl Int).enc) 28 .opn)], segs (G' ++ [(tl, x)]), [(id7, .row [.slice (segA es) (R.map slOf).length (segC es), .slice (segA ps) B.length (segC ps)] 27 .fixed)], es, ps, segs R, [(id4, .row [.slice none 0 0, .slice none 0 0] 27 .fixed)], [(id2, .row [.slice a ls.length c] 24 .fixed)]]) (List.Perm.of_eq (by rw [hmap, segs_app, segs_one]; simp)) ?_
              exact ih2 hkl _ _ ⟨ids', OPEN, .opn, G' ++ [(tl, x)], sg, row ++ [(nthAt eI.dflt labs k, (G'.length : Int))], by rw [hmap]; rfl, rfl, .inl ⟨rfl, rfl⟩, hG', hsg, hfl2, hin', n3', by simp [hrk], by simp only [List.length_append, List.length_cons, List.length_nil]; omega⟩
            · refine AppJ.c (e := eSl Int) (l := G'.map slOf) (xs := [slOf (tl, x)]) (.there (.there (.there (.there .here)))) rfl rfl (.tmp (x := slOf (tl, x)) .here rfl (.any rfl)) (fun _ => rfl) rfl (Bd.mk (by rw [hG1]; simp only [List.length_cons, List.length_nil]; omega)) (fun h => by simp at h) fun _ s' hs' => ?_
              rcases hs' with ⟨_, h⟩ | ⟨ids', rfl, _⟩
              · simp at h
              repeat' (first | rfl | assumption | (apply stp tt_ok; constructor) | exact Rng.mk (by omega) (by omega) | exact Bd.mk (by first | omega | (refine Nat.lt_of_lt_of_le (show _ < 1 by decide) ?_; first | omega | (rw [List.length_replicate]; omega)) | (refine Nat.lt_of_lt_of_le (show _ < 2 by decide) ?_; first | omega | (rw [List.length_replicate]; omega)) | (simp only [List.length_cons, List.length_nil]; omega)) | refine J.draw (by assumption) follows_ok (by kernel_rfl) (by decide +kernel) (by decide +kernel) ?_ | refine J.done ⟨rfl, rfl, rfl, ?_⟩ | constructor | (intro _; exfalso; omega) | intro _)
              rename_i i90 sg hsg
              refine J.keep [11, 10, 9, 8, 7, 6, 5, 4, 2, 1] rfl ?_
              refine J.sel [4, 4, 1, 4, 2, 3, 3, 3, 3, 3, 3] rfl ?_
              refine J.perm (L' := [sg, lb, [(ids', .row (((G' ++ [(tl, x)]).map slOf).flatMap (eSl Int).enc) 28 .opn)], segs (G' ++ [(tl, x)]), [(id7, .row [.slice (segA es) (R.map slOf).length (segC es), .slice (segA ps) B.length (segC ps)] 27 .fixed)], es, ps, segs R, [(id4, .row [.slice none 0 0, .slice none 0 0] 27 .fixed)], [(id2, .row [.slice a ls.length c] 24 .fixed)]]) (List.Perm.of_eq (by rw [hmap, segs_app, segs_one]; simp)) ?_
              exact ih2 hkl _ _ ⟨ids', OPEN, .opn, G' ++ [(tl, x)], sg, row ++ [(nthAt eI.dflt labs k, (G'.length : Int))], by rw [hmap]; rfl, rfl, .inl ⟨rfl, rfl⟩, hG', hsg, hfl2, hin', n3', by simp [hrk], by simp only [List.length_append, List.length_cons, List.length_nil]; omega⟩
        · have hdk : labs.drop k = [] := List.drop_eq_nil_of_le (by omega)
          rw [hdk] at hfl2
          unfold flU at hfl2
          subst hfl2
          simp only at hstep htk
          repeat' (first | rfl | assumption | (apply stp tt_ok; constructor) | exact Rng.mk (by omega) (by omega) | exact Bd.mk (by first | omega | (refine Nat.lt_of_lt_of_le (show _ < 1 by decide) ?_; first | omega | (rw [List.length_replicate]; omega)) | (refine Nat.lt_of_lt_of_le (show _ < 2 by decide) ?_; first | omega | (rw [List.length_replicate]; omega)) | (simp only [List.length_cons, List.length_nil]; omega)) | refine J.draw (by assumption) follows_ok (by kernel_rfl) (by decide +kernel) (by decide +kernel) ?_ | refine J.done ⟨rfl, rfl, rfl, ?_⟩ | constructor | (intro _; exfalso; omega) | intro _)
          rename_i i95 s' hs'
          refine J.keep [8, 7, 6, 5, 4, 2, 1] rfl ?_
          refine J.sel [3, 3, 3, 3, 3, 3, 1, 2, 2] rfl ?_
          refine J.drawS tt_ok 7 [1] hn follows_ok (by kernel_rfl) (by decide +kernel) (by decide +kernel) rfl rfl rfl ?_
          repeat' (first | rfl | assumption | (apply stp tt_ok; constructor) | exact Rng.mk (by omega) (by omega) | exact Bd.mk (by first | omega | (refine Nat.lt_of_lt_of_le (show _ < 1 by decide) ?_; first | omega | (rw [List.length_replicate]; omega)) | (refine Nat.lt_of_lt_of_le (show _ < 2 by decide) ?_; first | omega | (rw [List.length_replicate]; omega)) | (simp only [List.length_cons, List.length_nil]; omega)) | refine J.draw (by assumption) follows_ok (by kernel_rfl) (by decide +kernel) (by decide +kernel) ?_ | refine J.done ⟨rfl, rfl, rfl, ?_⟩ | constructor | (intro _; exfalso; omega) | intro _)
          rw [n1]
          have call := fun (hle : MLe M (freeze M (segs G'))) (hnd : ((segs G').map (·.1)).Nodup) => f32_ok U _ (d := segC G'[s].1) (c := c) (hr.mono hle) (isSl_segs (M := M) hG hnd (fun _ => rfl) hgG (by rw [n5]; omega)) (by rw [n5]; exact hmay)
          refine CallJ.lend (s := segs G') (R := _) (.there .here) call ?_
          clear call
          rw [n5]
          repeat' (first | rfl | assumption | (apply stp tt_ok; constructor) | exact Rng.mk (by omega) (by omega) | exact Bd.mk (by first | omega | (refine Nat.lt_of_lt_of_le (show _ < 1 by decide) ?_; first | omega | (rw [List.length_replicate]; omega)) | (refine Nat.lt_of_lt_of_le (show _ < 2 by decide) ?_; first | omega | (rw [List.length_replicate]; omega)) | (simp only [List.length_cons, List.length_nil]; omega)) | refine J.draw (by assumption) follows_ok (by kernel_rfl) (by decide +kernel) (by decide +kernel) ?_ | refine J.done ⟨rfl, rfl, rfl, ?_⟩ | constructor | (intro _; exfalso; omega) | intro _)
          rename_i i106 ps' hps'
          refine J.keep [8, 7, 6, 5, 4, 2, 1] rfl ?_
          refine J.sel [1, 1, 1, 1, 1, 1, 1, 1, 1] rfl ?_
          have hmap : (R ++ [(eg, row)]).map slOf = R.map slOf ++ [slOf (eg, row)] := by simp
          refine J.perm (L' := [[(ids, .row ((G'.map slOf).flatMap (eSl Int).enc) 28 kd)], segs G', [(id7, .row [.slice (segA s') ((R ++ [(eg, row)]).map slOf).length (segC s'), .slice (segA ps') (B ++ [endsB l0]).length (segC ps')] 27 .fixed)], s', ps', segs (R ++ [(eg, row)]), [(id4, .row [.slice none 0 0, .slice none 0 0] 27 .fixed)], [(id2, .row [.slice a ls.length c] 24 .fixed)]]) (List.Perm.of_eq (by rw [hmap, segs_app, segs_one]; simp [slOf])) ?_
          exact ih (by omega) _ _ ⟨ids, cs, kd, G', s', ps', R ++ [(eg, row)], B ++ [endsB l0], rfl, rfl, hkd, hG, by rw [hmap]; exact hs', hps', hR.add heg, by rw [htk, List.map_append, ← hB]; rfl, by rw [show edgesG (R ++ [(eg, row)]) = edgesG R ++ [row] by simp [edgesG]]; exact hstep⟩
    · have hdone := hat.done (by omega)
      have hBB : B = (setsG G).map endsB := by rw [hB, List.take_of_length_le (by omega)]
      repeat' (first | rfl | assumption | (apply stp tt_ok; constructor) | exact Rng.mk (by omega) (by omega) | exact Bd.mk (by first | omega | (refine Nat.lt_of_lt_of_le (show _ < 1 by decide) ?_; first | omega | (rw [List.length_replicate]; omega)) | (refine Nat.lt_of_lt_of_le (show _ < 2 by decide) ?_; first | omega | (rw [List.length_replicate]; omega)) | (simp only [List.length_cons, List.length_nil]; omega)) | refine J.draw (by assumption) follows_ok (by kernel_rfl) (by decide +kernel) (by decide +kernel) ?_ | refine J.done ⟨rfl, rfl, rfl, ?_⟩ | constructor | (intro _; exfalso; omega) | intro _)
      refine J.rets tt_ok rfl (.cons (.cell rfl (.pt (.there (.there (.there (.there (.there (.there .here)))))) rfl rfl rfl rfl)) (.cons (.tmp rfl) .nil)) rfl (s := es ++ (ps ++ segs R)) (R := [[(ids, .row ((G.map slOf).flatMap (eSl Int).enc) 28 kd)], segs G, [(id7, .row [.slice (segA es) (R.map slOf).length (segC es), .slice (segA ps) B.length (segC ps)] 27 .fixed)], [(id4, .row [.slice (segA es) (R.map slOf).length (segC es), .slice (segA ps) B.length (segC ps)] 27 .fixed)], [(id2, .row [.slice a ls.length c] 24 .fixed)]]) (perm_mid _ _ _ _ _ _ _) ?_
      rw [f10Post, if_pos hg, hdone]
      exact ⟨_, rfl, es, ps, R, by rw [← hBB], rfl, hes, hR, rfl, by rw [← hBB]; exact hps⟩
end
end Go.Proofs.YtmlgmgjakhbhjaaGreatDoor.Ab

namespace Go.Proofs.YtmlgmgjakhbhjaaGreatDoor.Ab
open Go Go.Proofs
noncomputable section

theorem mem_flat_le {α : Type} : ∀ {E : List (List α)} {r : List α}, r ∈ E → r.length ≤ E.flatten.length
  | x :: E, r, h => by
    simp only [List.flatten_cons, List.length_append]
    rcases List.mem_cons.1 h with rfl | h
    · omega
    · have := mem_flat_le h; omega
/-- What is told of a net and a cap. -/
def resP (n : List (List P2)) (most : Int) : List (List P2) × List Bool × Int :=
  if netGood n = true then
    match subsetP n most with
    | none => ([], [], 15)
    | some (S, E) => (E, S.map endsB, 0)
  else ([], [], 1)
theorem J.freezePost {P : Program} {hk : HKT} {n : Nat} {Q : LPost} {K : List KI} {Ev : Env} {D : Dl} {M : Imm} {L R : List Seg} {rc : RC} {m : List (List P2)} {most : Int} {v : Value} {l' : Seg} (ho : f10Post m most v l') (hp : Pick L l' R)
    (h : ∀ N, MLe M N → ∀ (a : Option Addr) (c : Nat) (ls : List (SlOf P2)) (b : Option Addr) (d : Nat), v = .tuple ⟨[.agg ⟨[.slice a ls.length c, .slice b (resP m most).2.1.length d]⟩, .int .i64 (resP m most).2.2]⟩ → rowsOf ls = (resP m most).1 → Rows N eP a ls → IsSl N eB b (resP m most).2.1 → J P hk n Q K Ev D N R rc) : J P hk n Q K Ev D M L rc := by
  have drop : l' = [] → J P hk n Q K Ev D M R rc → J P hk n Q K Ev D M L rc := fun hl hj => by
    subst hl
    exact hj.perm (by simpa using hp.perm)
  unfold f10Post at ho
  unfold resP at h
  cases hg : netGood m
  · rw [hg] at ho h
    simp only [Bool.false_eq_true, if_false] at ho h
    obtain ⟨rfl, rfl⟩ := ho
    exact drop rfl (h M (MLe.refl _) none 0 [] none 0 rfl rfl ⟨IsSl.nil _ _, fun x hx => by cases hx⟩ (IsSl.nil _ _))
  · rw [hg] at ho h
    simp only [if_true] at ho h
    cases h1 : subsetP m most with
    | none =>
      rw [h1] at ho h
      simp only at ho h
      obtain ⟨rfl, rfl⟩ := ho
      exact drop rfl (h M (MLe.refl _) none 0 [] none 0 rfl rfl ⟨IsSl.nil _ _, fun x hx => by cases hx⟩ (IsSl.nil _ _))
    | some p =>
      obtain ⟨S, E⟩ := p
      rw [h1] at ho h
      simp only at ho h
      obtain ⟨u, rfl, hA⟩ := ho
      obtain ⟨s1, s2, s3, s4, s5, _, _⟩ := subsetP_spec hg h1
      have bE : E.length ≤ 1099511627776 := by omega
      have bR : ∀ r ∈ E, r.length ≤ 1099511627776 := fun r hr => by have := s5 r hr; omega
      have bB : (S.map endsB).length ≤ 1099511627776 := by rw [List.length_map]; omega
      refine J.freezeAuto hA hp bE bR bB fun N hN a c ls b d hu hE hr hb => ?_
      subst hu
      exact h N hN a c ls b d rfl hE hr hb
attribute [local irreducible] J Con Lv CallJ DCon DrawP

set_option maxHeartbeats 4000000 in
theorem f3_ok {hk : HKT} (U : HkU hk) (W : Wakes hk) (M : Imm) {a a2 b r : Option Addr} {c c2 d q : Nat} {ls ls2 : List (SlOf P2)} {B : List Bool} {row : List Int} {most : Int} (hr : Rows M eP a ls) (hr2 : Rows M eP a2 ls2) (hb : IsSl M eB b B) (hw : IsSl M eI r row) (hT : TabM M) :
    Con Tryz.prog hk 3 [.agg ⟨[.slice a ls.length c]⟩, .agg ⟨[.int .i64 most, .slice a2 ls2.length c2, .slice b B.length d, .slice r row.length q]⟩] M [] (Gives (.bool true) []) := by
  refine Con.of_body (U.no 3 rfl) Tryz.func3 rfl rfl Tryz.ntmps3 rfl rfl ?_
  have hout := hr.out
  have hlen := hout.len
  have hout2 := hr2.out
  have hlen2 := hout2.len
  have hblen := hb.len
  have hwlen := hw.len
  have hn := U.n
  repeat' (first | rfl | assumption | (apply stp tt_ok; constructor) | exact Rng.mk (by omega) (by omega) | exact Bd.mk (by first | omega | (refine Nat.lt_of_lt_of_le (show _ < 1 by decide) ?_; first | omega | (rw [List.length_replicate]; omega)) | (refine Nat.lt_of_lt_of_le (show _ < 2 by decide) ?_; first | omega | (rw [List.length_replicate]; omega)) | (simp only [List.length_cons, List.length_nil]; omega)) | refine J.draw (by assumption) follows_ok (by kernel_rfl) (by decide +kernel) (by decide +kernel) ?_ | refine J.done ⟨rfl, rfl, rfl, ?_⟩ | constructor | (intro _; exfalso; omega) | intro _)
  rename_i idn idx
  refine CallJ.val (f7_ok U M hr (by omega)) ?_
  cases hL : largeB (rowsOf ls) 1500
  · have hL1 := largeB_small (by omega) hL
    repeat' (first | rfl | assumption | (apply stp tt_ok; constructor) | exact Rng.mk (by omega) (by omega) | exact Bd.mk (by first | omega | (refine Nat.lt_of_lt_of_le (show _ < 1 by decide) ?_; first | omega | (rw [List.length_replicate]; omega)) | (refine Nat.lt_of_lt_of_le (show _ < 2 by decide) ?_; first | omega | (rw [List.length_replicate]; omega)) | (simp only [List.length_cons, List.length_nil]; omega)) | refine J.draw (by assumption) follows_ok (by kernel_rfl) (by decide +kernel) (by decide +kernel) ?_ | refine J.done ⟨rfl, rfl, rfl, ?_⟩ | constructor | (intro _; exfalso; omega) | intro _)
    refine CallJ.val (f7_ok U M hr2 (by omega)) ?_
    cases hL' : largeB (rowsOf ls2) 6000
    · have hL2 := largeB_small (by omega) hL'
      have hl1 : ls.length ≤ 1000000 := by rw [rowsOf_length] at hL1; omega
      have hl2 : ls2.length ≤ 1000000 := by rw [rowsOf_length] at hL2; omega
      have hE1 : ∀ r ∈ rowsOf ls, r.length ≤ 1000000 := fun r hr => by have := mem_flat_le hr; omega
      have hE2 : ∀ r ∈ rowsOf ls2, r.length ≤ 1000000 := fun r hr => by have := mem_flat_le hr; omega
      repeat' (first | rfl | assumption | (apply stp tt_ok; constructor) | exact Rng.mk (by omega) (by omega) | exact Bd.mk (by first | omega | (refine Nat.lt_of_lt_of_le (show _ < 1 by decide) ?_; first | omega | (rw [List.length_replicate]; omega)) | (refine Nat.lt_of_lt_of_le (show _ < 2 by decide) ?_; first | omega | (rw [List.length_replicate]; omega)) | (simp only [List.length_cons, List.length_nil]; omega)) | refine J.draw (by assumption) follows_ok (by kernel_rfl) (by decide +kernel) (by decide +kernel) ?_ | refine J.done ⟨rfl, rfl, rfl, ?_⟩ | constructor | (intro _; exfalso; omega) | intro _)
      · refine CallJ.val (W M) ?_
        repeat' (first | rfl | assumption | (apply stp tt_ok; constructor) | exact Rng.mk (by omega) (by omega) | exact Bd.mk (by first | omega | (refine Nat.lt_of_lt_of_le (show _ < 1 by decide) ?_; first | omega | (rw [List.length_replicate]; omega)) | (refine Nat.lt_of_lt_of_le (show _ < 2 by decide) ?_; first | omega | (rw [List.length_replicate]; omega)) | (simp only [List.length_cons, List.length_nil]; omega)) | refine J.draw (by assumption) follows_ok (by kernel_rfl) (by decide +kernel) (by decide +kernel) ?_ | refine J.done ⟨rfl, rfl, rfl, ?_⟩ | constructor | (intro _; exfalso; omega) | intro _)
        exact J.give0 tt_ok rfl (.cons (.tmp rfl) .nil) rfl
      · refine CallJ.val (W M) ?_
        repeat' (first | rfl | assumption | (apply stp tt_ok; constructor) | exact Rng.mk (by omega) (by omega) | exact Bd.mk (by first | omega | (refine Nat.lt_of_lt_of_le (show _ < 1 by decide) ?_; first | omega | (rw [List.length_replicate]; omega)) | (refine Nat.lt_of_lt_of_le (show _ < 2 by decide) ?_; first | omega | (rw [List.length_replicate]; omega)) | (simp only [List.length_cons, List.length_nil]; omega)) | refine J.draw (by assumption) follows_ok (by kernel_rfl) (by decide +kernel) (by decide +kernel) ?_ | refine J.done ⟨rfl, rfl, rfl, ?_⟩ | constructor | (intro _; exfalso; omega) | intro _)
        exact J.give0 tt_ok rfl (.cons (.tmp rfl) .nil) rfl
      · rename_i hB _
        refine CallJ.ret0 (f9_ok U M hr hl1 hE1) ?_
        rintro v l' ho
        refine J.freezeEdges ho .here (by rw [rowsOf_length]; omega) (fun r hr => by have := hE1 r hr; omega) fun N1 hN1 a3 c3 ls3 hu he3 hr3 => ?_
        subst hu
        clear ho
        repeat' (first | rfl | assumption | (apply stp tt_ok; constructor) | exact Rng.mk (by omega) (by omega) | exact Bd.mk (by first | omega | (refine Nat.lt_of_lt_of_le (show _ < 1 by decide) ?_; first | omega | (rw [List.length_replicate]; omega)) | (refine Nat.lt_of_lt_of_le (show _ < 2 by decide) ?_; first | omega | (rw [List.length_replicate]; omega)) | (simp only [List.length_cons, List.length_nil]; omega)) | refine J.draw (by assumption) follows_ok (by kernel_rfl) (by decide +kernel) (by decide +kernel) ?_ | refine J.done ⟨rfl, rfl, rfl, ?_⟩ | constructor | (intro _; exfalso; omega) | intro _)
        refine CallJ.ret0 (f10_ok U N1 hr3 (hT.mono hN1) (min most 120)) ?_
        rintro v l' hpost
        rw [he3] at hpost
        refine J.freezePost hpost .here fun N2 hN2 a4 c4 ls4 b4 d4 hu he4 hr4 hb4 => ?_
        subst hu
        clear hpost
        repeat' (first | rfl | assumption | (apply stp tt_ok; constructor) | exact Rng.mk (by omega) (by omega) | exact Bd.mk (by first | omega | (refine Nat.lt_of_lt_of_le (show _ < 1 by decide) ?_; first | omega | (rw [List.length_replicate]; omega)) | (refine Nat.lt_of_lt_of_le (show _ < 2 by decide) ?_; first | omega | (rw [List.length_replicate]; omega)) | (simp only [List.length_cons, List.length_nil]; omega)) | refine J.draw (by assumption) follows_ok (by kernel_rfl) (by decide +kernel) (by decide +kernel) ?_ | refine J.done ⟨rfl, rfl, rfl, ?_⟩ | constructor | (intro _; exfalso; omega) | intro _)
        refine CallJ.ret0 (f11_ok U N2 ((hr.mono hN1).mono hN2) (by omega) (min most 120)) ?_
        rintro v l' hpost
        refine J.freezePost hpost .here fun N3 hN3 a5 c5 ls5 b5 d5 hu he5 hr5 hb5 => ?_
        subst hu
        clear hpost
        repeat' (first | rfl | assumption | (apply stp tt_ok; constructor) | exact Rng.mk (by omega) (by omega) | exact Bd.mk (by first | omega | (refine Nat.lt_of_lt_of_le (show _ < 1 by decide) ?_; first | omega | (rw [List.length_replicate]; omega)) | (refine Nat.lt_of_lt_of_le (show _ < 2 by decide) ?_; first | omega | (rw [List.length_replicate]; omega)) | (simp only [List.length_cons, List.length_nil]; omega)) | refine J.draw (by assumption) follows_ok (by kernel_rfl) (by decide +kernel) (by decide +kernel) ?_ | refine J.done ⟨rfl, rfl, rfl, ?_⟩ | constructor | (intro _; exfalso; omega) | intro _)
        refine CallJ.ret0 (f12_ok U N3 (((hr2.mono hN1).mono hN2).mono hN3) (((hb.mono hN1).mono hN2).mono hN3) hl2 hE2 (by omega)) ?_
        rintro v l' ho
        refine J.freezeCopy ho .here (by rw [rowsOf_length]; omega) (fun r hr => by have := hE2 r hr; omega) (by omega) fun N4 hN4 a6 c6 ls6 b6 d6 hu he6 hr6 hb6 => ?_
        subst hu
        clear ho
        repeat' (first | rfl | assumption | (apply stp tt_ok; constructor) | exact Rng.mk (by omega) (by omega) | exact Bd.mk (by first | omega | (refine Nat.lt_of_lt_of_le (show _ < 1 by decide) ?_; first | omega | (rw [List.length_replicate]; omega)) | (refine Nat.lt_of_lt_of_le (show _ < 2 by decide) ?_; first | omega | (rw [List.length_replicate]; omega)) | (simp only [List.length_cons, List.length_nil]; omega)) | refine J.draw (by assumption) follows_ok (by kernel_rfl) (by decide +kernel) (by decide +kernel) ?_ | refine J.done ⟨rfl, rfl, rfl, ?_⟩ | constructor | (intro _; exfalso; omega) | intro _)
        rename_i hrow l1 id5 l2 id7 l3 id9 id11
        generalize resP (rowsOf ls) (min most 120) = res at *
        obtain ⟨E, Bs, code⟩ := res
        simp only at he4 hb4 he5 hb5 ⊢
        have k1 : decide (rowsOf ls4 = rowsOf ls5 ∧ Bs = Bs) = true := by rw [he4, he5]; simp
        have k2 : decide (rowsOf ls3 = rowsOf ls) = true := by rw [he3]; simp
        have k3 : decide (rowsOf ls6 = rowsOf ls2 ∧ B = B) = true := by rw [he6]; simp
        have hr4' := (hr4.mono hN3).mono hN4
        have hb4' := (hb4.mono hN3).mono hN4
        have hr5' := hr5.mono hN4
        have hb5' := hb5.mono hN4
        have hrx := (((hr.mono hN1).mono hN2).mono hN3).mono hN4
        have hr3' := ((hr3.mono hN2).mono hN3).mono hN4
        have hr2' := (((hr2.mono hN1).mono hN2).mono hN3).mono hN4
        have hb' := (((hb.mono hN1).mono hN2).mono hN3).mono hN4
        have hw' := (((hw.mono hN1).mono hN2).mono hN3).mono hN4
        refine J.drawP (fun i => memN i [0, 1, 9, 12, 17, 19, 22, 24, 30, 32, 36, 38]) [(id11, .row [.slice a6 ls6.length c6, .slice b6 B.length d6] 27 .fixed), (id9, .row [.slice a5 ls5.length c5, .slice b5 Bs.length d5] 27 .fixed), (id7, .row [.slice a4 ls4.length c4, .slice b4 Bs.length d4] 27 .fixed), (id5, .row [.slice a3 ls3.length c3] 24 .fixed), (idx, .row [.int .i64 most, .slice a2 ls2.length c2, .slice b B.length d, .slice r row.length q] 30 .fixed), (idn, .row [.slice a ls.length c] 24 .fixed)]
          follows_ok (by kernel_rfl) (.cons .here (.cons (.there .here) (.cons (.there (.there .here)) (.cons (.there (.there (.there .here))) (.cons (.there (.there (.there (.there .here)))) (.cons (.there (.there (.there (.there (.there .here))))) .nil)))))) ?_
        refine DrawP.segN tt_ok hn 2 [0, 1] rfl rfl (by decide +kernel) ?_
        repeat' (first | rfl | assumption | (apply stp tt_ok; constructor) | exact Rng.mk (by omega) (by omega) | exact Bd.mk (by first | omega | (refine Nat.lt_of_lt_of_le (show _ < 1 by decide) ?_; first | omega | (rw [List.length_replicate]; omega)) | (refine Nat.lt_of_lt_of_le (show _ < 2 by decide) ?_; first | omega | (rw [List.length_replicate]; omega)) | (simp only [List.length_cons, List.length_nil]; omega)) | refine J.draw (by assumption) follows_ok (by kernel_rfl) (by decide +kernel) (by decide +kernel) ?_ | refine J.done ⟨rfl, rfl, rfl, ?_⟩ | constructor | (intro _; exfalso; omega) | intro _)
        refine DrawP.segE hn rfl (by decide +kernel) ?_
        repeat' (first | rfl | assumption | (apply stp tt_ok; constructor) | exact Rng.mk (by omega) (by omega) | exact Bd.mk (by first | omega | (refine Nat.lt_of_lt_of_le (show _ < 1 by decide) ?_; first | omega | (rw [List.length_replicate]; omega)) | (refine Nat.lt_of_lt_of_le (show _ < 2 by decide) ?_; first | omega | (rw [List.length_replicate]; omega)) | (simp only [List.length_cons, List.length_nil]; omega)) | refine J.draw (by assumption) follows_ok (by kernel_rfl) (by decide +kernel) (by decide +kernel) ?_ | refine J.done ⟨rfl, rfl, rfl, ?_⟩ | constructor | (intro _; exfalso; omega) | intro _)
        refine CallJ.val (f13_ok U N4 hr4' hr5' hb4' hb5') ?_
        rw [k1]
        repeat' (first | rfl | assumption | (apply stp tt_ok; constructor) | exact Rng.mk (by omega) (by omega) | exact Bd.mk (by first | omega | (refine Nat.lt_of_lt_of_le (show _ < 1 by decide) ?_; first | omega | (rw [List.length_replicate]; omega)) | (refine Nat.lt_of_lt_of_le (show _ < 2 by decide) ?_; first | omega | (rw [List.length_replicate]; omega)) | (simp only [List.length_cons, List.length_nil]; omega)) | refine J.draw (by assumption) follows_ok (by kernel_rfl) (by decide +kernel) (by decide +kernel) ?_ | refine J.done ⟨rfl, rfl, rfl, ?_⟩ | constructor | (intro _; exfalso; omega) | intro _)
        refine DrawP.segN tt_ok hn 7 [9] rfl rfl (by decide +kernel) ?_
        repeat' (first | rfl | assumption | (apply stp tt_ok; constructor) | exact Rng.mk (by omega) (by omega) | exact Bd.mk (by first | omega | (refine Nat.lt_of_lt_of_le (show _ < 1 by decide) ?_; first | omega | (rw [List.length_replicate]; omega)) | (refine Nat.lt_of_lt_of_le (show _ < 2 by decide) ?_; first | omega | (rw [List.length_replicate]; omega)) | (simp only [List.length_cons, List.length_nil]; omega)) | refine J.draw (by assumption) follows_ok (by kernel_rfl) (by decide +kernel) (by decide +kernel) ?_ | refine J.done ⟨rfl, rfl, rfl, ?_⟩ | constructor | (intro _; exfalso; omega) | intro _)
        refine DrawP.segE hn rfl (by decide +kernel) ?_
        repeat' (first | rfl | assumption | (apply stp tt_ok; constructor) | exact Rng.mk (by omega) (by omega) | exact Bd.mk (by first | omega | (refine Nat.lt_of_lt_of_le (show _ < 1 by decide) ?_; first | omega | (rw [List.length_replicate]; omega)) | (refine Nat.lt_of_lt_of_le (show _ < 2 by decide) ?_; first | omega | (rw [List.length_replicate]; omega)) | (simp only [List.length_cons, List.length_nil]; omega)) | refine J.draw (by assumption) follows_ok (by kernel_rfl) (by decide +kernel) (by decide +kernel) ?_ | refine J.done ⟨rfl, rfl, rfl, ?_⟩ | constructor | (intro _; exfalso; omega) | intro _)
        refine CallJ.val (f14_ok U N4 hr6 hb6) ?_
        rw [he6]
        repeat' (first | rfl | assumption | (apply stp tt_ok; constructor) | exact Rng.mk (by omega) (by omega) | exact Bd.mk (by first | omega | (refine Nat.lt_of_lt_of_le (show _ < 1 by decide) ?_; first | omega | (rw [List.length_replicate]; omega)) | (refine Nat.lt_of_lt_of_le (show _ < 2 by decide) ?_; first | omega | (rw [List.length_replicate]; omega)) | (simp only [List.length_cons, List.length_nil]; omega)) | refine J.draw (by assumption) follows_ok (by kernel_rfl) (by decide +kernel) (by decide +kernel) ?_ | refine J.done ⟨rfl, rfl, rfl, ?_⟩ | constructor | (intro _; exfalso; omega) | intro _)
        refine DrawP.segN tt_ok hn 2 [12] rfl rfl (by decide +kernel) ?_
        repeat' (first | rfl | assumption | (apply stp tt_ok; constructor) | exact Rng.mk (by omega) (by omega) | exact Bd.mk (by first | omega | (refine Nat.lt_of_lt_of_le (show _ < 1 by decide) ?_; first | omega | (rw [List.length_replicate]; omega)) | (refine Nat.lt_of_lt_of_le (show _ < 2 by decide) ?_; first | omega | (rw [List.length_replicate]; omega)) | (simp only [List.length_cons, List.length_nil]; omega)) | refine J.draw (by assumption) follows_ok (by kernel_rfl) (by decide +kernel) (by decide +kernel) ?_ | refine J.done ⟨rfl, rfl, rfl, ?_⟩ | constructor | (intro _; exfalso; omega) | intro _)
        refine DrawP.segE hn rfl (by decide +kernel) ?_
        repeat' (first | rfl | assumption | (apply stp tt_ok; constructor) | exact Rng.mk (by omega) (by omega) | exact Bd.mk (by first | omega | (refine Nat.lt_of_lt_of_le (show _ < 1 by decide) ?_; first | omega | (rw [List.length_replicate]; omega)) | (refine Nat.lt_of_lt_of_le (show _ < 2 by decide) ?_; first | omega | (rw [List.length_replicate]; omega)) | (simp only [List.length_cons, List.length_nil]; omega)) | refine J.draw (by assumption) follows_ok (by kernel_rfl) (by decide +kernel) (by decide +kernel) ?_ | refine J.done ⟨rfl, rfl, rfl, ?_⟩ | constructor | (intro _; exfalso; omega) | intro _)
        refine CallJ.val (f15_ok U N4 hr2' hb') ?_
        repeat' (first | rfl | assumption | (apply stp tt_ok; constructor) | exact Rng.mk (by omega) (by omega) | exact Bd.mk (by first | omega | (refine Nat.lt_of_lt_of_le (show _ < 1 by decide) ?_; first | omega | (rw [List.length_replicate]; omega)) | (refine Nat.lt_of_lt_of_le (show _ < 2 by decide) ?_; first | omega | (rw [List.length_replicate]; omega)) | (simp only [List.length_cons, List.length_nil]; omega)) | refine J.draw (by assumption) follows_ok (by kernel_rfl) (by decide +kernel) (by decide +kernel) ?_ | refine J.done ⟨rfl, rfl, rfl, ?_⟩ | constructor | (intro _; exfalso; omega) | intro _)
        refine DrawP.segN tt_ok hn 6 [17, 19] rfl rfl (by decide +kernel) ?_
        repeat' (first | rfl | assumption | (apply stp tt_ok; constructor) | exact Rng.mk (by omega) (by omega) | exact Bd.mk (by first | omega | (refine Nat.lt_of_lt_of_le (show _ < 1 by decide) ?_; first | omega | (rw [List.length_replicate]; omega)) | (refine Nat.lt_of_lt_of_le (show _ < 2 by decide) ?_; first | omega | (rw [List.length_replicate]; omega)) | (simp only [List.length_cons, List.length_nil]; omega)) | refine J.draw (by assumption) follows_ok (by kernel_rfl) (by decide +kernel) (by decide +kernel) ?_ | refine J.done ⟨rfl, rfl, rfl, ?_⟩ | constructor | (intro _; exfalso; omega) | intro _)
        refine DrawP.segE hn rfl (by decide +kernel) ?_
        repeat' (first | rfl | assumption | (apply stp tt_ok; constructor) | exact Rng.mk (by omega) (by omega) | exact Bd.mk (by first | omega | (refine Nat.lt_of_lt_of_le (show _ < 1 by decide) ?_; first | omega | (rw [List.length_replicate]; omega)) | (refine Nat.lt_of_lt_of_le (show _ < 2 by decide) ?_; first | omega | (rw [List.length_replicate]; omega)) | (simp only [List.length_cons, List.length_nil]; omega)) | refine J.draw (by assumption) follows_ok (by kernel_rfl) (by decide +kernel) (by decide +kernel) ?_ | refine J.done ⟨rfl, rfl, rfl, ?_⟩ | constructor | (intro _; exfalso; omega) | intro _)
        refine CallJ.val (f16_ok U N4 hr6 hb6 hw') ?_
        rw [he6]
        repeat' (first | rfl | assumption | (apply stp tt_ok; constructor) | exact Rng.mk (by omega) (by omega) | exact Bd.mk (by first | omega | (refine Nat.lt_of_lt_of_le (show _ < 1 by decide) ?_; first | omega | (rw [List.length_replicate]; omega)) | (refine Nat.lt_of_lt_of_le (show _ < 2 by decide) ?_; first | omega | (rw [List.length_replicate]; omega)) | (simp only [List.length_cons, List.length_nil]; omega)) | refine J.draw (by assumption) follows_ok (by kernel_rfl) (by decide +kernel) (by decide +kernel) ?_ | refine J.done ⟨rfl, rfl, rfl, ?_⟩ | constructor | (intro _; exfalso; omega) | intro _)
        refine DrawP.segN tt_ok hn 4 [22, 24] rfl rfl (by decide +kernel) ?_
        repeat' (first | rfl | assumption | (apply stp tt_ok; constructor) | exact Rng.mk (by omega) (by omega) | exact Bd.mk (by first | omega | (refine Nat.lt_of_lt_of_le (show _ < 1 by decide) ?_; first | omega | (rw [List.length_replicate]; omega)) | (refine Nat.lt_of_lt_of_le (show _ < 2 by decide) ?_; first | omega | (rw [List.length_replicate]; omega)) | (simp only [List.length_cons, List.length_nil]; omega)) | refine J.draw (by assumption) follows_ok (by kernel_rfl) (by decide +kernel) (by decide +kernel) ?_ | refine J.done ⟨rfl, rfl, rfl, ?_⟩ | constructor | (intro _; exfalso; omega) | intro _)
        refine DrawP.segE hn rfl (by decide +kernel) ?_
        repeat' (first | rfl | assumption | (apply stp tt_ok; constructor) | exact Rng.mk (by omega) (by omega) | exact Bd.mk (by first | omega | (refine Nat.lt_of_lt_of_le (show _ < 1 by decide) ?_; first | omega | (rw [List.length_replicate]; omega)) | (refine Nat.lt_of_lt_of_le (show _ < 2 by decide) ?_; first | omega | (rw [List.length_replicate]; omega)) | (simp only [List.length_cons, List.length_nil]; omega)) | refine J.draw (by assumption) follows_ok (by kernel_rfl) (by decide +kernel) (by decide +kernel) ?_ | refine J.done ⟨rfl, rfl, rfl, ?_⟩ | constructor | (intro _; exfalso; omega) | intro _)
        refine CallJ.val (f17_ok U N4 hr2' hb' hw') ?_
        repeat' (first | rfl | assumption | (apply stp tt_ok; constructor) | exact Rng.mk (by omega) (by omega) | exact Bd.mk (by first | omega | (refine Nat.lt_of_lt_of_le (show _ < 1 by decide) ?_; first | omega | (rw [List.length_replicate]; omega)) | (refine Nat.lt_of_lt_of_le (show _ < 2 by decide) ?_; first | omega | (rw [List.length_replicate]; omega)) | (simp only [List.length_cons, List.length_nil]; omega)) | refine J.draw (by assumption) follows_ok (by kernel_rfl) (by decide +kernel) (by decide +kernel) ?_ | refine J.done ⟨rfl, rfl, rfl, ?_⟩ | constructor | (intro _; exfalso; omega) | intro _)
        refine DrawP.segN tt_ok hn 7 [30, 32] rfl rfl (by decide +kernel) ?_
        repeat' (first | rfl | assumption | (apply stp tt_ok; constructor) | exact Rng.mk (by omega) (by omega) | exact Bd.mk (by first | omega | (refine Nat.lt_of_lt_of_le (show _ < 1 by decide) ?_; first | omega | (rw [List.length_replicate]; omega)) | (refine Nat.lt_of_lt_of_le (show _ < 2 by decide) ?_; first | omega | (rw [List.length_replicate]; omega)) | (simp only [List.length_cons, List.length_nil]; omega)) | refine J.draw (by assumption) follows_ok (by kernel_rfl) (by decide +kernel) (by decide +kernel) ?_ | refine J.done ⟨rfl, rfl, rfl, ?_⟩ | constructor | (intro _; exfalso; omega) | intro _)
        refine DrawP.segE hn rfl (by decide +kernel) ?_
        repeat' (first | rfl | assumption | (apply stp tt_ok; constructor) | exact Rng.mk (by omega) (by omega) | exact Bd.mk (by first | omega | (refine Nat.lt_of_lt_of_le (show _ < 1 by decide) ?_; first | omega | (rw [List.length_replicate]; omega)) | (refine Nat.lt_of_lt_of_le (show _ < 2 by decide) ?_; first | omega | (rw [List.length_replicate]; omega)) | (simp only [List.length_cons, List.length_nil]; omega)) | refine J.draw (by assumption) follows_ok (by kernel_rfl) (by decide +kernel) (by decide +kernel) ?_ | refine J.done ⟨rfl, rfl, rfl, ?_⟩ | constructor | (intro _; exfalso; omega) | intro _)
        refine CallJ.val (f18_ok U N4 hr3' hrx) ?_
        rw [k2]
        repeat' (first | rfl | assumption | (apply stp tt_ok; constructor) | exact Rng.mk (by omega) (by omega) | exact Bd.mk (by first | omega | (refine Nat.lt_of_lt_of_le (show _ < 1 by decide) ?_; first | omega | (rw [List.length_replicate]; omega)) | (refine Nat.lt_of_lt_of_le (show _ < 2 by decide) ?_; first | omega | (rw [List.length_replicate]; omega)) | (simp only [List.length_cons, List.length_nil]; omega)) | refine J.draw (by assumption) follows_ok (by kernel_rfl) (by decide +kernel) (by decide +kernel) ?_ | refine J.done ⟨rfl, rfl, rfl, ?_⟩ | constructor | (intro _; exfalso; omega) | intro _)
        refine DrawP.segN tt_ok hn 5 [36, 38] rfl rfl (by decide +kernel) ?_
        repeat' (first | rfl | assumption | (apply stp tt_ok; constructor) | exact Rng.mk (by omega) (by omega) | exact Bd.mk (by first | omega | (refine Nat.lt_of_lt_of_le (show _ < 1 by decide) ?_; first | omega | (rw [List.length_replicate]; omega)) | (refine Nat.lt_of_lt_of_le (show _ < 2 by decide) ?_; first | omega | (rw [List.length_replicate]; omega)) | (simp only [List.length_cons, List.length_nil]; omega)) | refine J.draw (by assumption) follows_ok (by kernel_rfl) (by decide +kernel) (by decide +kernel) ?_ | refine J.done ⟨rfl, rfl, rfl, ?_⟩ | constructor | (intro _; exfalso; omega) | intro _)
        refine DrawP.segE hn rfl (by decide +kernel) ?_
        repeat' (first | rfl | assumption | (apply stp tt_ok; constructor) | exact Rng.mk (by omega) (by omega) | exact Bd.mk (by first | omega | (refine Nat.lt_of_lt_of_le (show _ < 1 by decide) ?_; first | omega | (rw [List.length_replicate]; omega)) | (refine Nat.lt_of_lt_of_le (show _ < 2 by decide) ?_; first | omega | (rw [List.length_replicate]; omega)) | (simp only [List.length_cons, List.length_nil]; omega)) | refine J.draw (by assumption) follows_ok (by kernel_rfl) (by decide +kernel) (by decide +kernel) ?_ | refine J.done ⟨rfl, rfl, rfl, ?_⟩ | constructor | (intro _; exfalso; omega) | intro _)
        refine CallJ.val (f13_ok U N4 hr6 hr2' hb6 hb') ?_
        rw [k3]
        repeat' (first | rfl | assumption | (apply stp tt_ok; constructor) | exact Rng.mk (by omega) (by omega) | exact Bd.mk (by first | omega | (refine Nat.lt_of_lt_of_le (show _ < 1 by decide) ?_; first | omega | (rw [List.length_replicate]; omega)) | (refine Nat.lt_of_lt_of_le (show _ < 2 by decide) ?_; first | omega | (rw [List.length_replicate]; omega)) | (simp only [List.length_cons, List.length_nil]; omega)) | refine J.draw (by assumption) follows_ok (by kernel_rfl) (by decide +kernel) (by decide +kernel) ?_ | refine J.done ⟨rfl, rfl, rfl, ?_⟩ | constructor | (intro _; exfalso; omega) | intro _)
        refine DrawP.segN tt_ok hn 2 [] rfl rfl (by decide +kernel) ?_
        repeat' (first | rfl | assumption | (apply stp tt_ok; constructor) | exact Rng.mk (by omega) (by omega) | exact Bd.mk (by first | omega | (refine Nat.lt_of_lt_of_le (show _ < 1 by decide) ?_; first | omega | (rw [List.length_replicate]; omega)) | (refine Nat.lt_of_lt_of_le (show _ < 2 by decide) ?_; first | omega | (rw [List.length_replicate]; omega)) | (simp only [List.length_cons, List.length_nil]; omega)) | refine J.draw (by assumption) follows_ok (by kernel_rfl) (by decide +kernel) (by decide +kernel) ?_ | refine J.done ⟨rfl, rfl, rfl, ?_⟩ | constructor | (intro _; exfalso; omega) | intro _)
        refine DrawP.segE hn rfl (by decide +kernel) ?_
        repeat' (first | rfl | assumption | (apply stp tt_ok; constructor) | exact Rng.mk (by omega) (by omega) | exact Bd.mk (by first | omega | (refine Nat.lt_of_lt_of_le (show _ < 1 by decide) ?_; first | omega | (rw [List.length_replicate]; omega)) | (refine Nat.lt_of_lt_of_le (show _ < 2 by decide) ?_; first | omega | (rw [List.length_replicate]; omega)) | (simp only [List.length_cons, List.length_nil]; omega)) | refine J.draw (by assumption) follows_ok (by kernel_rfl) (by decide +kernel) (by decide +kernel) ?_ | refine J.done ⟨rfl, rfl, rfl, ?_⟩ | constructor | (intro _; exfalso; omega) | intro _)
        refine CallJ.val (W N4) ?_
        repeat' (first | rfl | assumption | (apply stp tt_ok; constructor) | exact Rng.mk (by omega) (by omega) | exact Bd.mk (by first | omega | (refine Nat.lt_of_lt_of_le (show _ < 1 by decide) ?_; first | omega | (rw [List.length_replicate]; omega)) | (refine Nat.lt_of_lt_of_le (show _ < 2 by decide) ?_; first | omega | (rw [List.length_replicate]; omega)) | (simp only [List.length_cons, List.length_nil]; omega)) | refine J.draw (by assumption) follows_ok (by kernel_rfl) (by decide +kernel) (by decide +kernel) ?_ | refine J.done ⟨rfl, rfl, rfl, ?_⟩ | constructor | (intro _; exfalso; omega) | intro _)
        refine DrawP.segN tt_ok hn 2 [] rfl rfl (by decide +kernel) ?_
        repeat' (first | rfl | assumption | (apply stp tt_ok; constructor) | exact Rng.mk (by omega) (by omega) | exact Bd.mk (by first | omega | (refine Nat.lt_of_lt_of_le (show _ < 1 by decide) ?_; first | omega | (rw [List.length_replicate]; omega)) | (refine Nat.lt_of_lt_of_le (show _ < 2 by decide) ?_; first | omega | (rw [List.length_replicate]; omega)) | (simp only [List.length_cons, List.length_nil]; omega)) | refine J.draw (by assumption) follows_ok (by kernel_rfl) (by decide +kernel) (by decide +kernel) ?_ | refine J.done ⟨rfl, rfl, rfl, ?_⟩ | constructor | (intro _; exfalso; omega) | intro _)
        refine DrawP.done rfl ?_
        repeat' (first | rfl | assumption | (apply stp tt_ok; constructor) | exact Rng.mk (by omega) (by omega) | exact Bd.mk (by first | omega | (refine Nat.lt_of_lt_of_le (show _ < 1 by decide) ?_; first | omega | (rw [List.length_replicate]; omega)) | (refine Nat.lt_of_lt_of_le (show _ < 2 by decide) ?_; first | omega | (rw [List.length_replicate]; omega)) | (simp only [List.length_cons, List.length_nil]; omega)) | refine J.draw (by assumption) follows_ok (by kernel_rfl) (by decide +kernel) (by decide +kernel) ?_ | refine J.done ⟨rfl, rfl, rfl, ?_⟩ | constructor | (intro _; exfalso; omega) | intro _)
        · exact J.give0 tt_ok rfl (.cons (.tmp rfl) .nil) rfl
        all_goals exact absurd rfl (by assumption)
    · repeat' (first | rfl | assumption | (apply stp tt_ok; constructor) | exact Rng.mk (by omega) (by omega) | exact Bd.mk (by first | omega | (refine Nat.lt_of_lt_of_le (show _ < 1 by decide) ?_; first | omega | (rw [List.length_replicate]; omega)) | (refine Nat.lt_of_lt_of_le (show _ < 2 by decide) ?_; first | omega | (rw [List.length_replicate]; omega)) | (simp only [List.length_cons, List.length_nil]; omega)) | refine J.draw (by assumption) follows_ok (by kernel_rfl) (by decide +kernel) (by decide +kernel) ?_ | refine J.done ⟨rfl, rfl, rfl, ?_⟩ | constructor | (intro _; exfalso; omega) | intro _)
      refine CallJ.val (W M) ?_
      repeat' (first | rfl | assumption | (apply stp tt_ok; constructor) | exact Rng.mk (by omega) (by omega) | exact Bd.mk (by first | omega | (refine Nat.lt_of_lt_of_le (show _ < 1 by decide) ?_; first | omega | (rw [List.length_replicate]; omega)) | (refine Nat.lt_of_lt_of_le (show _ < 2 by decide) ?_; first | omega | (rw [List.length_replicate]; omega)) | (simp only [List.length_cons, List.length_nil]; omega)) | refine J.draw (by assumption) follows_ok (by kernel_rfl) (by decide +kernel) (by decide +kernel) ?_ | refine J.done ⟨rfl, rfl, rfl, ?_⟩ | constructor | (intro _; exfalso; omega) | intro _)
      exact J.give0 tt_ok rfl (.cons (.tmp rfl) .nil) rfl
  · repeat' (first | rfl | assumption | (apply stp tt_ok; constructor) | exact Rng.mk (by omega) (by omega) | exact Bd.mk (by first | omega | (refine Nat.lt_of_lt_of_le (show _ < 1 by decide) ?_; first | omega | (rw [List.length_replicate]; omega)) | (refine Nat.lt_of_lt_of_le (show _ < 2 by decide) ?_; first | omega | (rw [List.length_replicate]; omega)) | (simp only [List.length_cons, List.length_nil]; omega)) | refine J.draw (by assumption) follows_ok (by kernel_rfl) (by decide +kernel) (by decide +kernel) ?_ | refine J.done ⟨rfl, rfl, rfl, ?_⟩ | constructor | (intro _; exfalso; omega) | intro _)
    refine CallJ.val (W M) ?_
    repeat' (first | rfl | assumption | (apply stp tt_ok; constructor) | exact Rng.mk (by omega) (by omega) | exact Bd.mk (by first | omega | (refine Nat.lt_of_lt_of_le (show _ < 1 by decide) ?_; first | omega | (rw [List.length_replicate]; omega)) | (refine Nat.lt_of_lt_of_le (show _ < 2 by decide) ?_; first | omega | (rw [List.length_replicate]; omega)) | (simp only [List.length_cons, List.length_nil]; omega)) | refine J.draw (by assumption) follows_ok (by kernel_rfl) (by decide +kernel) (by decide +kernel) ?_ | refine J.done ⟨rfl, rfl, rfl, ?_⟩ | constructor | (intro _; exfalso; omega) | intro _)
    exact J.give0 tt_ok rfl (.cons (.tmp rfl) .nil) rfl
end
end Go.Proofs.YtmlgmgjakhbhjaaGreatDoor.Ab

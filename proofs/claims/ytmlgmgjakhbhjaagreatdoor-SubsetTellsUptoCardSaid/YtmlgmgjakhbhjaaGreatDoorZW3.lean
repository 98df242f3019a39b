/- Walks, 10: a net's automaton. Plain laws, 3: caps. Walks, 11: large edges; caps. -/
import Derived.Test.YtmlgmgjakhbhjaaGreatDoorZW2
namespace Go.Proofs.YtmlgmgjakhbhjaaGreatDoor.Ab
open Go Go.Proofs
noncomputable section
attribute [local irreducible] J Con Lv CallJ DCon

theorem f24_ret {hk : HKT} (M : Imm) (ia ie : Nat) (ra re : List Value) : DCon Tryz.prog hk 24 [.pointer (some ⟨ia, 0, none⟩), .pointer (some ⟨ie, 0, none⟩)] M [(ia, .row ra 27 .fixed), (ie, .row re 34 .fixed)] .ret
    (fun l' m' => l' = [(ia, .row ra 27 .fixed), (ie, .row re 34 .fixed)] ∧ m' = .ret) := by
  refine DCon.of_body Tryz.func24 rfl rfl Tryz.ntmps24 rfl rfl rfl (by simp) ?_
  repeat' (first | rfl | assumption | (apply stp tt_ok; constructor) | exact Rng.mk (by omega) (by omega) | exact Bd.mk (by first | omega | (refine Nat.lt_of_lt_of_le (show _ < 1 by decide) ?_; first | omega | (rw [List.length_replicate]; omega)) | (refine Nat.lt_of_lt_of_le (show _ < 2 by decide) ?_; first | omega | (rw [List.length_replicate]; omega)) | (simp only [List.length_cons, List.length_nil]; omega)) | refine J.draw (by assumption) follows_ok (by kernel_rfl) (by decide +kernel) (by decide +kernel) ?_ | refine J.done ⟨rfl, rfl, rfl, ?_⟩ | constructor | (intro _; exfalso; omega) | intro _)
  exact J.done ⟨rfl, rfl, by simp, by simp, rfl⟩
theorem f24_pan {hk : HKT} (M : Imm) (ia ie : Nat) (s1 s2 s3 : Value) : DCon Tryz.prog hk 24 [.pointer (some ⟨ia, 0, none⟩), .pointer (some ⟨ie, 0, none⟩)] M [(ia, .row [s1, s2] 27 .fixed), (ie, .row [s3] 34 .fixed)] (.pan capped false)
    (fun l' m' => l' = [(ia, .row [.slice none 0 0, .slice none 0 0] 27 .fixed), (ie, .row [.int .i64 15] 34 .fixed)] ∧ m' = .pan capped true) := by
  refine DCon.of_body Tryz.func24 rfl rfl Tryz.ntmps24 rfl rfl rfl (by simp) ?_
  refine J.perm (L' := [[_], [_]]) (List.Perm.refl _) ?_
  repeat' (first | rfl | assumption | (apply stp tt_ok; constructor) | exact Rng.mk (by omega) (by omega) | exact Bd.mk (by first | omega | (refine Nat.lt_of_lt_of_le (show _ < 1 by decide) ?_; first | omega | (rw [List.length_replicate]; omega)) | (refine Nat.lt_of_lt_of_le (show _ < 2 by decide) ?_; first | omega | (rw [List.length_replicate]; omega)) | (simp only [List.length_cons, List.length_nil]; omega)) | refine J.draw (by assumption) follows_ok (by kernel_rfl) (by decide +kernel) (by decide +kernel) ?_ | refine J.done ⟨rfl, rfl, rfl, ?_⟩ | constructor | (intro _; exfalso; omega) | intro _)
  refine J.dropHd ?_
  exact J.done ⟨rfl, rfl, by simp, by simp, rfl⟩

theorem selR_flat {L L' R : List Seg} {l0 : Seg} (is : List Nat) (h : selR is L = some (L', R)) (h0 : L'.flatten = l0) : L.flatten.Perm (l0 ++ R.flatten) := by
  have := (selR_perm h).flatten
  rw [List.flatten_append, h0] at this
  exact this
theorem Lv.perm {P : Program} {hk : HKT} {fn : Func} {Qc : Res → Seg → Prop} {E : Env} {D : Dl} {M : Imm} {L L' : List Seg} {m : RC} (hp : L.flatten.Perm L'.flatten) (h : Lv P hk fn Qc E D M L' m) : Lv P hk fn Qc E D M L m := by
  unfold Lv at h ⊢
  intro F H ha hs
  obtain ⟨k, x, H', l', h1, h2, h3, h4⟩ := h F H ha (hs.perm hp)
  exact ⟨k, x, H', l', h1, h2, ⟨h3.nxt, fun id o ho hn => h3.keep id o ho fun p hp' => hn p (hp.mem_iff.2 hp')⟩, h4⟩

/-- A net's automaton, by its sets and edges; or none. -/
def subsetP (n : List (List P2)) (most : Int) : Option (List (List Int) × List (List P2)) :=
  match stP (min most 2000) [] (closeP n [0]) with
  | none => none
  | some (_, S) => ofP n (min most 2000) 2001 S []

/-- An automaton of one's own. -/
def AutoOwn (v : Value) (l' : Seg) (E : List (List P2)) (B : List Bool) : Prop :=
  ∃ (es ps : Seg) (R : List (Seg × List P2)), v = .agg ⟨[.slice (segA es) (R.map slOf).length (segC es), .slice (segA ps) B.length (segC ps)]⟩ ∧ l' = es ++ (ps ++ segs R) ∧ Own 46 (eSl P2) es (R.map slOf) ∧ AllOwn 48 eP R ∧ R.map (·.2) = E ∧ Own 4 eB ps B

def f10Post (n : List (List P2)) (most : Int) (v : Value) (l' : Seg) : Prop :=
  if netGood n = true then
    match subsetP n most with
    | none => v = .tuple ⟨[.agg ⟨[.slice none 0 0, .slice none 0 0]⟩, .int .i64 15]⟩ ∧ l' = []
    | some (S, E) => ∃ u, v = .tuple ⟨[u, .int .i64 0]⟩ ∧ AutoOwn u l' E (S.map endsB)
  else v = .tuple ⟨[.agg ⟨[.slice none 0 0, .slice none 0 0]⟩, .int .i64 1]⟩ ∧ l' = []

theorem f10_pan {hk : HKT} {n : List (List P2)} {most : Int} (hg : netGood n = true) (hs : subsetP n most = none) {M : Imm} {E : Env} {L R : List Seg} {ia ie : Nat} {v1 v2 v3 : Value} (h4 : E.get 4 = some (.pointer (some ⟨ia, 0, none⟩))) (h5 : E.get 5 = some (.pointer (some ⟨ie, 0, none⟩)))
    (hp : L.flatten.Perm ([(ia, .row [v1, v2] 27 .fixed), (ie, .row [v3] 34 .fixed)] ++ R.flatten)) :
    Lv Tryz.prog hk Tryz.f10 (Returns (f10Post n most)) E [(24, [.pointer (some ⟨ia, 0, none⟩), .pointer (some ⟨ie, 0, none⟩)])] M L (.pan capped false) := by
  refine Lv.defer hp (f24_pan M ia ie v1 v2 v3) ?_
  rintro l' m' ⟨rfl, rfl⟩
  refine Lv.perm (L' := [(ia, .row [.slice none 0 0, .slice none 0 0] 27 .fixed)] :: [(ie, .row [.int .i64 15] 34 .fixed)] :: R) (List.Perm.refl _) ?_
  refine Lv.ret0 tt_ok rfl (vs := [.agg ⟨[.slice none 0 0, .slice none 0 0]⟩, .int .i64 15]) ?_ rfl ?_
  · refine .cons (.cell h4 ?_) (.cons (.cell h5 ?_) .nil)
    · exact .pt .here rfl rfl rfl rfl
    · exact .pt (.there .here) rfl rfl rfl rfl
  · show f10Post n most _ _
    unfold f10Post
    rw [if_pos hg, hs]
    exact ⟨rfl, rfl⟩

set_option maxHeartbeats 2000000 in
theorem f10_ok {hk : HKT} (U : HkU hk) (M : Imm) {a : Option Addr} {c : Nat} {ls : List (SlOf P2)} (hr : Rows M eP a ls) (hT : TabM M) (most : Int) :
    Con Tryz.prog hk 10 [.agg ⟨[.slice a ls.length c]⟩, .int .i64 most] M []
      (Returns (f10Post (rowsOf ls) most)) := by
  refine Con.of_body (U.no 10 rfl) Tryz.func10 rfl rfl Tryz.ntmps10 rfl rfl ?_
  have hn := U.n
  have hout := hr.out
  repeat' (first | rfl | assumption | (apply stp tt_ok; constructor) | exact Rng.mk (by omega) (by omega) | exact Bd.mk (by first | omega | (refine Nat.lt_of_lt_of_le (show _ < 1 by decide) ?_; first | omega | (rw [List.length_replicate]; omega)) | (refine Nat.lt_of_lt_of_le (show _ < 2 by decide) ?_; first | omega | (rw [List.length_replicate]; omega)) | (simp only [List.length_cons, List.length_nil]; omega)) | refine J.draw (by assumption) follows_ok (by kernel_rfl) (by decide +kernel) (by decide +kernel) ?_ | refine J.done ⟨rfl, rfl, rfl, ?_⟩ | constructor | (intro _; exfalso; omega) | intro _)
  refine CallJ.val (f23_ok U M hr) ?_
  cases hg : netGood (rowsOf ls)
  · repeat' (first | rfl | assumption | (apply stp tt_ok; constructor) | exact Rng.mk (by omega) (by omega) | exact Bd.mk (by first | omega | (refine Nat.lt_of_lt_of_le (show _ < 1 by decide) ?_; first | omega | (rw [List.length_replicate]; omega)) | (refine Nat.lt_of_lt_of_le (show _ < 2 by decide) ?_; first | omega | (rw [List.length_replicate]; omega)) | (simp only [List.length_cons, List.length_nil]; omega)) | refine J.draw (by assumption) follows_ok (by kernel_rfl) (by decide +kernel) (by decide +kernel) ?_ | refine J.done ⟨rfl, rfl, rfl, ?_⟩ | constructor | (intro _; exfalso; omega) | intro _)
    refine J.ret (Lv.ret0 tt_ok rfl (vs := [.agg ⟨[.slice none 0 0, .slice none 0 0]⟩, .int .i64 1]) ?_ rfl (by simp [f10Post, hg, Returns, resV]))
    repeat' (first | rfl | assumption | constructor)
  · repeat' (first | rfl | assumption | (apply stp tt_ok; constructor) | exact Rng.mk (by omega) (by omega) | exact Bd.mk (by first | omega | (refine Nat.lt_of_lt_of_le (show _ < 1 by decide) ?_; first | omega | (rw [List.length_replicate]; omega)) | (refine Nat.lt_of_lt_of_le (show _ < 2 by decide) ?_; first | omega | (rw [List.length_replicate]; omega)) | (simp only [List.length_cons, List.length_nil]; omega)) | refine J.draw (by assumption) follows_ok (by kernel_rfl) (by decide +kernel) (by decide +kernel) ?_ | refine J.done ⟨rfl, rfl, rfl, ?_⟩ | constructor | (intro _; exfalso; omega) | intro _)
    rename_i i2 ia ie idm im i0
    have hmay0 : mayB (rowsOf ls) [0] = true := mayB_of hg fun s hs => by
      have := (netGood_spec hg).1
      cases List.mem_singleton.1 hs; omega
    refine CallJ.lendR (s := [(i0, _)]) (R := _) .here (fun hle _ => f25_ok U _ (l := [0]) (hr.mono hle) (isSl_row (t := 3) rfl (freeze_one M i0 _ 3 .fixed rfl) (fun _ => rfl) (by simp)) hmay0) ?_
    rintro v tl ⟨out, rfl, hto, hset, hole⟩
    have hcl := closeP_eq hset
    have hinS : ∀ x ∈ out, 0 ≤ x ∧ x < (rowsOf ls).length := fun x hx => Reach.in (mayB_spec hmay0).2 ((hset.mem x).1 hx)
    have hsub : subsetP (rowsOf ls) most = match stP (min most 2000) [] out with
      | none => none
      | some (_, S) => ofP (rowsOf ls) (min most 2000) 2001 S [] := by unfold subsetP; rw [hcl]
    repeat' (first | rfl | assumption | (apply stp tt_ok; constructor) | exact Rng.mk (by omega) (by omega) | exact Bd.mk (by first | omega | (refine Nat.lt_of_lt_of_le (show _ < 1 by decide) ?_; first | omega | (rw [List.length_replicate]; omega)) | (refine Nat.lt_of_lt_of_le (show _ < 2 by decide) ?_; first | omega | (rw [List.length_replicate]; omega)) | (simp only [List.length_cons, List.length_nil]; omega)) | refine J.draw (by assumption) follows_ok (by kernel_rfl) (by decide +kernel) (by decide +kernel) ?_ | refine J.done ⟨rfl, rfl, rfl, ?_⟩ | constructor | (intro _; exfalso; omega) | intro _)
    have hok0 : MkS.Ok ⟨im, idm, [], [], [], [], []⟩ := ⟨Own.nil _ _, Own.nil _ _, Own.nil _ _, (by intro g hg; cases hg), (by intro g hg; cases hg), rfl, by simp, (by intro m hm; cases hm)⟩
    refine CallJ.mk (l0 := MkS.all ⟨im, idm, [], [], [], [], []⟩ (.slice a ls.length c) (min most 2000) ++ tl) (R := [[(i0, .row [.int .i64 0] 3 .fixed)], [(ie, .row [.int .i64 0] 34 .fixed)], [(ia, .row [.slice none 0 0, .slice none 0 0] 27 .fixed)], [(i2, .row [.slice a ls.length c] 24 .fixed)], []]) (selR_flat [2, 2, 0] rfl ?_) (f26_ok U M hr hT ⟨im, idm, [], [], [], [], []⟩ hok0 hto (mayB_of hg hinS) hole (Int.min_le_right _ _)) ?_ ?_
    · simp [MkS.all, MkS.parts, MkS.box, MkS.sets, MkS.pops, segs, knownOf, kvs, segA, segC]
    · intro v l' hpost
      cases hst : stP (min most 2000) [] out with
      | none => rw [show MkS.sets ⟨im, idm, [], [], [], [], []⟩ = [] from rfl, hst] at hpost; cases hpost
      | some p =>
        obtain ⟨i, S⟩ := p
        rw [show MkS.sets ⟨im, idm, [], [], [], [], []⟩ = [] from rfl, hst] at hpost
        rw [hst] at hsub
        obtain ⟨hv, ⟨ma2, mp2, ss2, es2, ps2, G2, R2⟩, ht2, rfl, hma, hmp, hSS, hGR⟩ := hpost
        cases hv
        simp only at hma hmp
        subst hma
        subst hmp
        repeat' (first | rfl | assumption | (apply stp tt_ok; constructor) | exact Rng.mk (by omega) (by omega) | exact Bd.mk (by first | omega | (refine Nat.lt_of_lt_of_le (show _ < 1 by decide) ?_; first | omega | (rw [List.length_replicate]; omega)) | (refine Nat.lt_of_lt_of_le (show _ < 2 by decide) ?_; first | omega | (rw [List.length_replicate]; omega)) | (simp only [List.length_cons, List.length_nil]; omega)) | refine J.draw (by assumption) follows_ok (by kernel_rfl) (by decide +kernel) (by decide +kernel) ?_ | refine J.done ⟨rfl, rfl, rfl, ?_⟩ | constructor | (intro _; exfalso; omega) | intro _)
        refine J.sel [0, 2, 1] rfl ?_
        refine J.keep [9, 6, 5, 4] rfl ?_
        refine J.perm (L' := MkS.parts ⟨ma2, mp2, ss2, es2, ps2, G2, R2⟩ (.slice a ls.length c) (min most 2000) ++ [[(ia, .row [.slice none 0 0, .slice none 0 0] 27 .fixed)], [(ie, .row [.int .i64 0] 34 .fixed)]]) (List.Perm.of_eq (by simp [MkS.all])) ?_
        have hG2 : R2.map (·.2) = [] ++ List.replicate (R2.length - 0) [] ∧ SetsIn (rowsOf ls) (G2.map (·.2)) := by
          rcases hGR with ⟨rfl, rfl⟩ | ⟨rfl, rfl⟩
          · exact ⟨rfl, by intro m hm; cases hm⟩
          · refine ⟨rfl, ?_⟩
            intro m hm
            cases List.mem_singleton.1 hm
            exact ⟨hinS, hole⟩
        simp only at hsub
        refine J.while (fun mm E D' M' L rc' => ∃ (s : Nat) (t' : MkS) (Ed : List (List P2)), mm = 2001 - s ∧ E = [(9, .int .i64 (s : Int)), (6, .pointer (some ⟨ma2, 0, none⟩)), (5, .pointer (some ⟨ie, 0, none⟩)), (4, .pointer (some ⟨ia, 0, none⟩))] ∧
          D' = [(24, [.pointer (some ⟨ia, 0, none⟩), .pointer (some ⟨ie, 0, none⟩)])] ∧ M' = M ∧ rc' = .norm ∧ L = t'.parts (.slice a ls.length c) (min most 2000) ++ [[(ia, .row [.slice none 0 0, .slice none 0 0] 27 .fixed)], [(ie, .row [.int .i64 0] 34 .fixed)]] ∧
          t'.Ok ∧ t'.ma = ma2 ∧ t'.mp = mp2 ∧ SetsIn (rowsOf ls) t'.sets ∧ t'.R.map (·.2) = Ed ++ List.replicate (t'.R.length - s) [] ∧ Ed.length = s ∧ subsetP (rowsOf ls) most = ofP (rowsOf ls) (min most 2000) (2001 - s) t'.sets Ed)
          (m := 2001) ⟨0, ⟨ma2, mp2, ss2, es2, ps2, G2, R2⟩, [], rfl, rfl, rfl, rfl, rfl, rfl, ht2, rfl, rfl, hG2.2, hG2.1, rfl, by rw [hsub, ← hSS]⟩ ?_
        clear hG2 hGR hsub hSS ht2
        rintro mm E D' M' L rc' ⟨s, ⟨ma', mp', ss, es, ps, G, R⟩, Ed, rfl, rfl, rfl, rfl, rfl, rfl, ht, hma, hmp, hS, hR, hEd, hw⟩ ih
        simp only at hma hmp hR
        subst hma
        subst hmp
        have ht0 := ht
        obtain ⟨hss, hes, hps, hgg, hrr, hlen, hsm, hsets⟩ := ht
        simp only at hss hes hps hgg hrr hlen hsm
        have hG1 : (G.map slOf).length = G.length := List.length_map _
        simp only [MkS.parts, MkS.box, List.cons_append, List.nil_append]
        by_cases hlt : s < (G.map slOf).length
        · repeat' (first | rfl | assumption | (apply stp tt_ok; constructor) | exact Rng.mk (by omega) (by omega) | exact Bd.mk (by first | omega | (refine Nat.lt_of_lt_of_le (show _ < 1 by decide) ?_; first | omega | (rw [List.length_replicate]; omega)) | (refine Nat.lt_of_lt_of_le (show _ < 2 by decide) ?_; first | omega | (rw [List.length_replicate]; omega)) | (simp only [List.length_cons, List.length_nil]; omega)) | refine J.draw (by assumption) follows_ok (by kernel_rfl) (by decide +kernel) (by decide +kernel) ?_ | refine J.done ⟨rfl, rfl, rfl, ?_⟩ | constructor | (intro _; exfalso; omega) | intro _)
          rw [hG1] at hlt
          have hsl : (MkS.sets ⟨ma', mp', ss, es, ps, G, R⟩)[s]? = some G[s].2 := by
            simp only [MkS.sets, List.getElem?_map, List.getElem?_eq_getElem hlt, Option.map_some]
          have hR' : R.map (·.2) = Ed ++ [] :: List.replicate (R.length - s - 1) [] := by
            rw [hR, ← List.replicate_succ]
            congr 2
            omega
          have hof : ∀ k, ofP (rowsOf ls) (min most 2000) (k + 1) (MkS.sets ⟨ma', mp', ss, es, ps, G, R⟩) Ed = match flP (rowsOf ls) (min most 2000) G[s].2 (labelsP (rowsOf ls) G[s].2) (MkS.sets ⟨ma', mp', ss, es, ps, G, R⟩) [] with
              | none => none
              | some (row, S') => ofP (rowsOf ls) (min most 2000) k S' (Ed ++ [row]) := fun k => by
            simp only [ofP, hEd, hsl]
            rfl
          rw [show 2001 - s = (2001 - (s + 1)) + 1 by omega, hof] at hw
          refine CallJ.mk (l0 := MkS.all ⟨ma', mp', ss, es, ps, G, R⟩ (.slice a ls.length c) (min most 2000)) (R := [[(ia, .row [.slice none 0 0, .slice none 0 0] 27 .fixed)], [(ie, .row [.int .i64 0] 34 .fixed)]]) (List.Perm.of_eq (by simp [MkS.all, MkS.parts, MkS.box]))
            (f27_ok U M' hr hT hg ⟨ma', mp', ss, es, ps, G, R⟩ ht0 hS (Int.min_le_right _ _) hsl hEd hR') ?_ ?_
          · intro v l' hpost
            cases hst : flP (rowsOf ls) (min most 2000) G[s].2 (labelsP (rowsOf ls) G[s].2) (MkS.sets ⟨ma', mp', ss, es, ps, G, R⟩) [] with
            | none => rw [hst] at hpost; cases hpost
            | some p =>
              obtain ⟨row, S⟩ := p
              rw [hst] at hpost hw
              obtain ⟨hv, ⟨ma2, mp2, ss2, es2, ps2, G2, R2⟩, ht2, rfl, hma, hmp, hSS, hSI, hR2⟩ := hpost
              cases hv
              simp only at hma hmp hR2
              subst hma
              subst hmp
              repeat' (first | rfl | assumption | (apply stp tt_ok; constructor) | exact Rng.mk (by omega) (by omega) | exact Bd.mk (by first | omega | (refine Nat.lt_of_lt_of_le (show _ < 1 by decide) ?_; first | omega | (rw [List.length_replicate]; omega)) | (refine Nat.lt_of_lt_of_le (show _ < 2 by decide) ?_; first | omega | (rw [List.length_replicate]; omega)) | (simp only [List.length_cons, List.length_nil]; omega)) | refine J.draw (by assumption) follows_ok (by kernel_rfl) (by decide +kernel) (by decide +kernel) ?_ | refine J.done ⟨rfl, rfl, rfl, ?_⟩ | constructor | (intro _; exfalso; omega) | intro _)
              refine J.keep [9, 6, 5, 4] rfl ?_
              refine J.perm (L' := MkS.parts ⟨ma2, mp2, ss2, es2, ps2, G2, R2⟩ (.slice a ls.length c) (min most 2000) ++ [[(ia, .row [.slice none 0 0, .slice none 0 0] 27 .fixed)], [(ie, .row [.int .i64 0] 34 .fixed)]]) (List.Perm.of_eq (by simp [MkS.all])) ?_
              refine ih _ _ _ _ _ _ ?_ ⟨s + 1, ⟨ma2, mp2, ss2, es2, ps2, G2, R2⟩, Ed ++ [row], rfl, rfl, rfl, rfl, rfl, rfl, ht2, rfl, rfl, ?_, ?_, by simp [hEd], ?_⟩
              · omega
              · rw [hSS]; exact hSI
              · simp only; rw [hR2, List.append_assoc]; rfl
              · rw [hw, hSS]
          · intro v l' hpost
            cases hst : flP (rowsOf ls) (min most 2000) G[s].2 (labelsP (rowsOf ls) G[s].2) (MkS.sets ⟨ma', mp', ss, es, ps, G, R⟩) [] with
            | some p => rw [hst] at hpost; cases hpost.1
            | none =>
              rw [hst] at hpost hw
              cases hpost
              exact f10_pan hg hw rfl rfl (selR_flat [1, 1] rfl rfl)
        · clear ih
          repeat' (first | rfl | assumption | (apply stp tt_ok; constructor) | exact Rng.mk (by omega) (by omega) | exact Bd.mk (by first | omega | (refine Nat.lt_of_lt_of_le (show _ < 1 by decide) ?_; first | omega | (rw [List.length_replicate]; omega)) | (refine Nat.lt_of_lt_of_le (show _ < 2 by decide) ?_; first | omega | (rw [List.length_replicate]; omega)) | (simp only [List.length_cons, List.length_nil]; omega)) | refine J.draw (by assumption) follows_ok (by kernel_rfl) (by decide +kernel) (by decide +kernel) ?_ | refine J.done ⟨rfl, rfl, rfl, ?_⟩ | constructor | (intro _; exfalso; omega) | intro _)
          rw [hG1] at hlt
          have hRs : R.length - s = 0 := by omega
          rw [hRs, List.replicate_zero, List.append_nil] at hR
          have hsle : s ≤ 2000 := by
            have := congrArg List.length hR
            rw [List.length_map] at this
            omega
          have hnone : (MkS.sets ⟨ma', mp', ss, es, ps, G, R⟩)[Ed.length]? = none := by
            rw [List.getElem?_eq_none]
            simp only [MkS.sets, List.length_map]
            omega
          rw [show 2001 - s = (2000 - s) + 1 by omega] at hw
          simp only [ofP, hnone] at hw
          refine J.ret ?_
          refine Lv.defer (selR_flat [7, 7] rfl rfl) (f24_ret M' ia ie _ _) ?_
          rintro l' m' ⟨rfl, rfl⟩
          refine Lv.perm (L' := [[(ia, .row [.slice (segA es) (R.map slOf).length (segC es), .slice (segA ps) (G.map fun g => endsB g.2).length (segC ps)] 27 .fixed)], [(ie, .row [.int .i64 0] 34 .fixed)], es, ps, segs R] ++ [[(ma', .row [.slice a ls.length c, .int .i64 (min most 2000), .slice (segA ss) (G.map slOf).length (segC ss), .map (some mp'), .slice (segA es) (R.map slOf).length (segC es), .slice (segA ps) (G.map fun g => endsB g.2).length (segC ps)] 68 .fixed)], ss, [(mp', .map (kvs Value.string (knownOf (G.map (·.2)) 0)))], segs G]) ?_ ?_
          · exact (selR_flat [0, 3, 3, 4] rfl rfl).trans (List.Perm.of_eq (by simp [MkS.pops, MkS.sets]))
          refine Lv.ret tt_ok rfl (.cons (.cell rfl (.pt .here rfl rfl rfl rfl)) (.cons (.cell rfl (.pt (.there .here) rfl rfl rfl rfl)) .nil)) rfl (l' := es ++ (ps ++ segs R)) (R := _) (selR_flat [2, 2, 2] rfl (by simp)) ?_
          show f10Post (rowsOf ls) most _ _
          unfold f10Post
          rw [if_pos hg, hw]
          refine ⟨_, rfl, es, ps, R, ?_, rfl, hes, hrr, hR, ?_⟩
          · simp [MkS.sets]
          · have : (MkS.sets ⟨ma', mp', ss, es, ps, G, R⟩).map endsB = G.map fun g => endsB g.2 := by simp [MkS.sets]
            rw [this]
            exact hps
    · intro v l' hpost
      cases hst : stP (min most 2000) [] out with
      | some p => rw [show MkS.sets ⟨im, idm, [], [], [], [], []⟩ = [] from rfl, hst] at hpost; cases hpost.1
      | none =>
        rw [show MkS.sets ⟨im, idm, [], [], [], [], []⟩ = [] from rfl, hst] at hpost
        rw [hst] at hsub
        cases hpost
        exact f10_pan hg hsub rfl rfl (selR_flat [3, 2] rfl rfl)
end
end Go.Proofs.YtmlgmgjakhbhjaaGreatDoor.Ab

namespace Go.Proofs.YtmlgmgjakhbhjaaGreatDoor.Ab
open Go

theorem stP_some {most : Int} {S S' : List (List Int)} {l : List Int} {i : Nat} (h : stP most S l = some (i, S')) :
    (placeOf l S 0 = some i ∧ S' = S) ∨ (placeOf l S 0 = none ∧ i = S.length ∧ S' = S ++ [l] ∧ (S.length : Int) < most) := by
  unfold stP at h
  cases hp : placeOf l S 0 with
  | some j => rw [hp] at h; cases h; exact .inl ⟨rfl, rfl⟩
  | none =>
    rw [hp] at h
    simp only at h
    split at h
    · cases h
    · cases h; exact .inr ⟨rfl, rfl, rfl, by omega⟩
theorem stP_mono {most most' : Int} {S S' : List (List Int)} {l : List Int} {i : Nat} (h : stP most S l = some (i, S')) (hm : (S'.length : Int) ≤ most') : stP most' S l = some (i, S') ∧ S.length ≤ S'.length ∧ (S'.length : Int) ≤ max most S.length := by
  rcases stP_some h with ⟨h1, rfl⟩ | ⟨h1, rfl, rfl, h3⟩
  · exact ⟨by unfold stP; rw [h1], Nat.le_refl _, by omega⟩
  · refine ⟨?_, by simp, ?_⟩
    · unfold stP
      rw [h1]
      simp only
      rw [if_neg]
      simp only [List.length_append, List.length_cons, List.length_nil] at hm
      omega
    · simp only [List.length_append, List.length_cons, List.length_nil]
      omega
theorem flP_mono {n : List (List P2)} {most : Int} {l : List Int} : ∀ (cs : List Int) {S S' : List (List Int)} {row row' : List P2}, flP n most l cs S row = some (row', S') →
    S.length ≤ S'.length ∧ (S'.length : Int) ≤ max most S.length ∧ row'.length = row.length + cs.length ∧ ∀ most' : Int, (S'.length : Int) ≤ most' → flP n most' l cs S row = some (row', S')
  | [], S, S', row, row', h => by cases h; exact ⟨Nat.le_refl _, by omega, rfl, fun _ _ => rfl⟩
  | c :: cs, S, S', row, row', h => by
    unfold flP at h
    cases hs : stP most S (stepP n l c) with
    | none => rw [hs] at h; cases h
    | some p =>
      obtain ⟨i, S1⟩ := p
      rw [hs] at h
      obtain ⟨h1, h2, h3, h4⟩ := flP_mono cs h
      obtain ⟨_, g2, g3⟩ := stP_mono hs (Int.le_refl _)
      refine ⟨by omega, by omega, by rw [h3]; simp; omega, fun most' hm => ?_⟩
      unfold flP
      rw [(stP_mono hs (most' := most') (by omega)).1]
      exact h4 most' hm
theorem ofP_mono {n : List (List P2)} {most : Int} : ∀ (k : Nat) {S S' : List (List Int)} {E E' : List (List P2)}, ofP n most k S E = some (S', E') →
    S.length ≤ S'.length ∧ (S'.length : Int) ≤ max most S.length ∧ ∀ most' : Int, (S'.length : Int) ≤ most' → ofP n most' k S E = some (S', E')
  | 0, S, S', E, E', h => by cases h; exact ⟨Nat.le_refl _, by omega, fun _ _ => rfl⟩
  | k + 1, S, S', E, E', h => by
    unfold ofP at h
    cases hl : S[E.length]? with
    | none =>
      rw [hl] at h; cases h
      exact ⟨Nat.le_refl _, by omega, fun _ _ => by unfold ofP; rw [hl]⟩
    | some l =>
      rw [hl] at h
      simp only at h
      cases hf : flP n most l (labelsP n l) S [] with
      | none => rw [hf] at h; cases h
      | some p =>
        obtain ⟨row, S1⟩ := p
        rw [hf] at h
        obtain ⟨h1, h2, h3⟩ := ofP_mono k h
        obtain ⟨g1, g2, _, g3⟩ := flP_mono _ hf
        refine ⟨by omega, by omega, fun most' hm => ?_⟩
        unfold ofP
        rw [hl]
        simp only
        rw [g3 most' (by omega)]
        exact h3 most' hm
theorem ofP_len {n : List (List P2)} {most : Int} : ∀ (k : Nat) {S S' : List (List Int)} {E E' : List (List P2)}, ofP n most k S E = some (S', E') → E.length ≤ S.length → S'.length < k + E.length → E'.length = S'.length
  | 0, S, S', E, E', h, h1, h2 => by cases h; omega
  | k + 1, S, S', E, E', h, h1, h2 => by
    unfold ofP at h
    cases hl : S[E.length]? with
    | none =>
      rw [hl] at h; cases h
      have := List.getElem?_eq_none_iff.1 hl
      omega
    | some l =>
      rw [hl] at h
      simp only at h
      have hlt := (List.getElem?_eq_some_iff.1 hl).1
      cases hf : flP n most l (labelsP n l) S [] with
      | none => rw [hf] at h; cases h
      | some p =>
        obtain ⟨row, S1⟩ := p
        rw [hf] at h
        have := (flP_mono _ hf).1
        exact ofP_len k h (by simp; omega) (by simp; omega)

theorem closeP_in {n : List (List P2)} (hg : netGood n = true) {l : List Int} (hl : NetIn n l) : (∀ x ∈ closeP n l, 0 ≤ x ∧ x < n.length) ∧ (closeP n l).length ≤ 2000 := by
  unfold closeP
  split
  · rename_i h
    have hs := Classical.choose_spec h
    have hin : ∀ x ∈ Classical.choose h, 0 ≤ x ∧ x < n.length := fun x hx => Reach.in hl ((hs.mem x).1 hx)
    refine ⟨hin, Nat.le_trans (nodup_le n.length _ ?_ hin) (netGood_spec hg).2.1⟩
    exact hs.up.imp fun h => by omega
  · exact ⟨by simp, by simp⟩
theorem stP_in {n : List (List P2)} {most : Int} {S S' : List (List Int)} {l : List Int} {i : Nat} (h : stP most S l = some (i, S')) (hS : SetsIn n S) (hl : (∀ x ∈ l, 0 ≤ x ∧ x < n.length) ∧ l.length ≤ 2000) : SetsIn n S' := by
  rcases stP_some h with ⟨_, rfl⟩ | ⟨_, _, rfl, _⟩
  · exact hS
  · intro m hm
    rcases List.mem_append.1 hm with hm | hm
    · exact hS m hm
    · cases List.mem_singleton.1 hm; exact hl
theorem flP_in {n : List (List P2)} (hg : netGood n = true) {most : Int} {l : List Int} : ∀ (cs : List Int) {S S' : List (List Int)} {row row' : List P2}, flP n most l cs S row = some (row', S') → SetsIn n S → SetsIn n S'
  | [], S, S', row, row', h, hS => by cases h; exact hS
  | c :: cs, S, S', row, row', h, hS => by
    unfold flP at h
    cases hs : stP most S (stepP n l c) with
    | none => rw [hs] at h; cases h
    | some p =>
      obtain ⟨i, S1⟩ := p
      rw [hs] at h
      exact flP_in hg cs h (stP_in hs hS (closeP_in hg (gather_in hg l c)))
theorem ofP_rows {n : List (List P2)} (hg : netGood n = true) {most : Int} : ∀ (k : Nat) {S S' : List (List Int)} {E E' : List (List P2)}, ofP n most k S E = some (S', E') → SetsIn n S → (∀ r ∈ E, r.length ≤ 16000000) → SetsIn n S' ∧ ∀ r ∈ E', r.length ≤ 16000000
  | 0, S, S', E, E', h, hS, hE => by cases h; exact ⟨hS, hE⟩
  | k + 1, S, S', E, E', h, hS, hE => by
    unfold ofP at h
    cases hl : S[E.length]? with
    | none => rw [hl] at h; cases h; exact ⟨hS, hE⟩
    | some l =>
      rw [hl] at h
      simp only at h
      cases hf : flP n most l (labelsP n l) S [] with
      | none => rw [hf] at h; cases h
      | some p =>
        obtain ⟨row, S1⟩ := p
        rw [hf] at h
        refine ofP_rows hg k h (flP_in hg _ hf hS) fun r hr => ?_
        rcases List.mem_append.1 hr with hr | hr
        · exact hE r hr
        · cases List.mem_singleton.1 hr
          rw [(flP_mono _ hf).2.2.1]
          have h1 := labelsP_le n l
          have h2 : l.length * n.flatten.length ≤ 2000 * 8000 := Nat.mul_le_mul (hS l (List.mem_of_getElem? hl)).2 (netGood_spec hg).2.2.1
          simp only [List.length_nil]
          omega

/-- All of a net's automaton, by a cap. -/
theorem subsetP_spec {n : List (List P2)} (hg : netGood n = true) {most : Int} {S : List (List Int)} {E : List (List P2)} (h : subsetP n most = some (S, E)) :
    1 ≤ S.length ∧ S.length ≤ 2000 ∧ (S.length : Int) ≤ most ∧ E.length = S.length ∧ (∀ r ∈ E, r.length ≤ 16000000) ∧ SetsIn n S ∧ ∀ most' : Int, (S.length : Int) ≤ most' → subsetP n most' = some (S, E) := by
  unfold subsetP at h
  have hin0 : NetIn n [0] := (mayB_spec (mayB_of hg fun s hs => by
    have := (netGood_spec hg).1
    cases List.mem_singleton.1 hs; omega)).2
  cases hs : stP (min most 2000) [] (closeP n [0]) with
  | none => rw [hs] at h; cases h
  | some p =>
    obtain ⟨i, S0⟩ := p
    rw [hs] at h
    simp only at h
    obtain ⟨h1, h2, h3⟩ := ofP_mono _ h
    have hS0 : S0 = [closeP n [0]] ∧ (0 : Int) < min most 2000 := by
      rcases stP_some hs with ⟨h4, _⟩ | ⟨_, _, rfl, h5⟩
      · cases h4
      · exact ⟨rfl, by simpa using h5⟩
    obtain ⟨rfl, hpos⟩ := hS0
    simp only [List.length_cons, List.length_nil] at h1 h2
    obtain ⟨r1, r2⟩ := ofP_rows hg _ h (stP_in hs (by intro m hm; cases hm) (closeP_in hg hin0)) (by intro r hr; cases hr)
    refine ⟨h1, by omega, by omega, ofP_len _ h (by simp) (by simp; omega), r2, r1, fun most' hm => ?_⟩
    unfold subsetP
    rw [(stP_mono hs (most' := min most' 2000) (by simp only [List.length_cons, List.length_nil]; omega)).1]
    exact h3 _ (by omega)
theorem subsetP_less {n : List (List P2)} (hg : netGood n = true) {most most' : Int} {S : List (List Int)} {E : List (List P2)} (h : subsetP n most = some (S, E)) (hm : most' < S.length) : subsetP n most' = none := by
  cases h' : subsetP n most' with
  | none => rfl
  | some p =>
    obtain ⟨S', E'⟩ := p
    obtain ⟨_, _, a3, _, _, _, a7⟩ := subsetP_spec hg h
    obtain ⟨_, _, b3, _, _, _, b7⟩ := subsetP_spec hg h'
    have e1 := a7 (max most most') (by omega)
    have e2 := b7 (max most most') (by omega)
    rw [e1] at e2
    cases e2
    omega
end Go.Proofs.YtmlgmgjakhbhjaaGreatDoor.Ab

namespace Go.Proofs.YtmlgmgjakhbhjaaGreatDoor.Ab
open Go Go.Proofs
noncomputable section

theorem isSl_part {t : TypeId} {α : Type} {e : El α} {M : Imm} {s w : Seg} {l : List α} (h : Own t e s l) (hsub : ∀ p ∈ s, p ∈ w) (hnd : (w.map (·.1)).Nodup) (hsz : ∀ x, (e.enc x).length = e.sz) (hl : l.length ≤ 1099511627776) : IsSl (freeze M w) e (segA s) l := by
  rcases h with ⟨rfl, rfl⟩ | ⟨id, rfl, _⟩
  · exact IsSl.nil _ e
  · refine isSl_row (t := t) rfl ?_ hsz hl
    unfold freeze
    rw [rowOf_of hnd (hsub _ (.head _)) rfl]
theorem J.nd {P : Program} {hk : HKT} {n : Nat} {Q : LPost} {K : List KI} {E : Env} {D : Dl} {M : Imm} {L : List Seg} {rc : RC} (h : (L.flatten.map (·.1)).Nodup → J P hk n Q K E D M L rc) : J P hk n Q K E D M L rc :=
  fun F H ha hs => h hs.nd F H ha hs

/-- An automaton is written no more. -/
theorem J.freezeAuto {P : Program} {hk : HKT} {n : Nat} {Q : LPost} {K : List KI} {Ev : Env} {D : Dl} {M : Imm} {L R : List Seg} {rc : RC} {u : Value} {l' : Seg} {E : List (List P2)} {B : List Bool} (ho : AutoOwn u l' E B) (hp : Pick L l' R) (hE : E.length ≤ 1099511627776) (hr : ∀ r ∈ E, r.length ≤ 1099511627776) (hB : B.length ≤ 1099511627776)
    (h : ∀ N, MLe M N → ∀ (a : Option Addr) (c : Nat) (ls : List (SlOf P2)) (b : Option Addr) (d : Nat), u = .agg ⟨[.slice a ls.length c, .slice b B.length d]⟩ → rowsOf ls = E → Rows N eP a ls → IsSl N eB b B → J P hk n Q K Ev D N R rc) : J P hk n Q K Ev D M L rc := by
  refine J.nd fun hnd => ?_
  have hnd' : ((l' ++ R.flatten).map (·.1)).Nodup := (hp.perm.map _).nodup_iff.1 hnd
  rw [List.map_append, List.nodup_append] at hnd'
  obtain ⟨es, ps, G, rfl, rfl, h1, h2, h3, h4⟩ := ho
  have hlen : G.length = E.length := by rw [← h3, List.length_map]
  refine J.freeze _ hp.perm fun hle => h _ hle (segA es) (segC es) (G.map slOf) (segA ps) (segC ps) rfl ?_ ⟨?_, ?_⟩ ?_
  · rw [← h3]; simp [rowsOf, slOf]
  · exact isSl_part h1 (fun p hp => List.mem_append_left _ hp) hnd'.1 (fun _ => rfl) (by rw [List.length_map]; omega)
  · intro x hx
    obtain ⟨g, hg, rfl⟩ := List.mem_map.1 hx
    exact isSl_part (h2 g hg) (fun p hp => List.mem_append_right _ (List.mem_append_right _ (List.mem_flatMap.2 ⟨g, hg, hp⟩))) hnd'.1 (fun _ => rfl) (hr _ (h3 ▸ List.mem_map_of_mem hg))
  · exact isSl_part h4 (fun p hp => List.mem_append_right _ (List.mem_append_left _ hp)) hnd'.1 (fun _ => rfl) hB

/-- How large edges are, as far as that is looked at. -/
def sumE (m : Int) : List (List P2) → Int → Int
  | [], t => t
  | r :: rs, t => if t ≤ m then sumE m rs (t + (1 + min (r.length : Int) m)) else t
def largeB (rows : List (List P2)) (m : Int) : Bool := decide (m < sumE m rows 0)
theorem sumE_nil (m t : Int) : sumE m [] t = t := rfl
theorem sumE_cons (m t : Int) (r : List P2) (rs : List (List P2)) : sumE m (r :: rs) t = if t ≤ m then sumE m rs (t + (1 + min (r.length : Int) m)) else t := rfl
theorem sumE_le {m : Int} (h0 : 0 ≤ m) : ∀ (rows : List (List P2)) (t : Int), 0 ≤ t → sumE m rows t ≤ m → t ≤ sumE m rows t ∧ t + rows.length + rows.flatten.length ≤ m
  | [], t, _, h => by
    unfold sumE at h ⊢
    exact ⟨Int.le_refl _, by simp; omega⟩
  | r :: rs, t, ht, h => by
    unfold sumE at h ⊢
    by_cases hle : t ≤ m
    · rw [if_pos hle] at h ⊢
      have hmn : min (r.length : Int) m = r.length ∨ min (r.length : Int) m = m := by omega
      obtain ⟨h1, h2⟩ := sumE_le h0 rs _ (by omega) h
      simp only [List.length_cons, List.flatten_cons, List.length_append]
      rcases hmn with e | e <;> rw [e] at h1 h2 ⊢ <;> omega
    · rw [if_neg hle] at h
      omega
theorem largeB_small {m : Int} (h0 : 0 ≤ m) {rows : List (List P2)} (h : largeB rows m = false) : (rows.length : Int) + rows.flatten.length ≤ m := by
  unfold largeB at h
  have := (sumE_le h0 rows 0 (Int.le_refl _) (by simpa using h)).2
  omega
attribute [local irreducible] J Con Lv CallJ DCon

theorem f7_ok {hk : HKT} (U : HkU hk) (M : Imm) {a : Option Addr} {c : Nat} {ls : List (SlOf P2)} (hr : Rows M eP a ls) {m : Int} (hm : 0 ≤ m ∧ m ≤ 1000000) :
    Con Tryz.prog hk 7 [.slice a ls.length c, .int .i64 m] M [] (Gives (.bool (largeB (rowsOf ls) m)) []) := by
  refine Con.of_body (U.no 7 rfl) Tryz.func7 rfl rfl Tryz.ntmps7 rfl rfl ?_
  have hout := hr.out
  have hlen := hout.len
  repeat' (first | rfl | assumption | (apply stp tt_ok; constructor) | exact Rng.mk (by omega) (by omega) | exact Bd.mk (by first | omega | (refine Nat.lt_of_lt_of_le (show _ < 1 by decide) ?_; first | omega | (rw [List.length_replicate]; omega)) | (refine Nat.lt_of_lt_of_le (show _ < 2 by decide) ?_; first | omega | (rw [List.length_replicate]; omega)) | (simp only [List.length_cons, List.length_nil]; omega)) | refine J.draw (by assumption) follows_ok (by kernel_rfl) (by decide +kernel) (by decide +kernel) ?_ | refine J.done ⟨rfl, rfl, rfl, ?_⟩ | constructor | (intro _; exfalso; omega) | intro _)
  refine J.keep [6, 5, 1, 0] rfl ?_
  refine J.forN ls.length (fun k E L => ∃ t : Int, E = [(6, .int .i64 (k : Int)), (5, .int .i64 t), (1, .int .i64 m), (0, .slice a ls.length c)] ∧ L = [[]] ∧ 0 ≤ t ∧ t ≤ 2 * m + 1 ∧ sumE m (rowsOf ls) 0 = sumE m ((rowsOf ls).drop k) t) ⟨0, rfl, rfl, by omega, by omega, rfl⟩ ?_
  rintro k E L hk' ⟨t, rfl, rfl, ht0, ht1, hw⟩ ih
  by_cases hlt : k < ls.length
  · have hin := hr.at k
    have hil := hin.len
    have hrn := rowsOf_nth ls k
    have hdrop : (rowsOf ls).drop k = (nthAt (eSl P2).dflt ls k).l :: (rowsOf ls).drop (k + 1) := by
      rw [List.drop_eq_getElem_cons (by simpa using hlt), ← hrn, nthAt_get (by simpa using hlt)]
    rw [hdrop, sumE_cons] at hw
    repeat' (first | rfl | assumption | (apply stp tt_ok; constructor) | exact Rng.mk (by omega) (by omega) | exact Bd.mk (by first | omega | (refine Nat.lt_of_lt_of_le (show _ < 1 by decide) ?_; first | omega | (rw [List.length_replicate]; omega)) | (refine Nat.lt_of_lt_of_le (show _ < 2 by decide) ?_; first | omega | (rw [List.length_replicate]; omega)) | (simp only [List.length_cons, List.length_nil]; omega)) | refine J.draw (by assumption) follows_ok (by kernel_rfl) (by decide +kernel) (by decide +kernel) ?_ | refine J.done ⟨rfl, rfl, rfl, ?_⟩ | constructor | (intro _; exfalso; omega) | intro _)
    · rename_i hle
      rw [if_pos hle] at hw
      refine J.keep [6, 5, 1, 0] rfl (ih hlt _ _ ⟨_, rfl, rfl, by omega, by omega, hw⟩)
    · rename_i hle hgt
      rw [if_neg hle] at hw
      exact J.give0 tt_ok rfl (.cons (.tmp rfl) .nil) (by unfold largeB; rw [hw]; simp [resV, hgt])
  · have hd : (rowsOf ls).drop k = [] := List.drop_eq_nil_of_le (by simp; omega)
    rw [hd, sumE_nil] at hw
    repeat' (first | rfl | assumption | (apply stp tt_ok; constructor) | exact Rng.mk (by omega) (by omega) | exact Bd.mk (by first | omega | (refine Nat.lt_of_lt_of_le (show _ < 1 by decide) ?_; first | omega | (rw [List.length_replicate]; omega)) | (refine Nat.lt_of_lt_of_le (show _ < 2 by decide) ?_; first | omega | (rw [List.length_replicate]; omega)) | (simp only [List.length_cons, List.length_nil]; omega)) | refine J.draw (by assumption) follows_ok (by kernel_rfl) (by decide +kernel) (by decide +kernel) ?_ | refine J.done ⟨rfl, rfl, rfl, ?_⟩ | constructor | (intro _; exfalso; omega) | intro _)
    · rename_i hgt
      exact J.give0 tt_ok rfl (.cons (.tmp rfl) .nil) (by unfold largeB; rw [hw]; simp [resV, hgt])
    · rename_i hgt
      exact J.give0 tt_ok rfl (.cons (.tmp rfl) .nil) (by unfold largeB; rw [hw]; simp [resV, hgt])

/-- What wakes tells. -/
def Wakes (hk : HKT) : Prop := ∀ M : Imm, Con Tryz.prog hk 8 [] M [] (Gives (.bool true) [])

theorem f5_ok {hk : HKT} (U : HkU hk) (W : Wakes hk) (M : Imm) {a : Option Addr} {c : Nat} {ls : List (SlOf P2)} (hr : Rows M eP a ls) (hT : TabM M) {more : Int} (hm : 0 ≤ more ∧ more ≤ 255) :
    Con Tryz.prog hk 5 [.agg ⟨[.slice a ls.length c]⟩, .int .u8 more] M [] (Gives (.bool true) []) := by
  refine Con.of_body (U.no 5 rfl) Tryz.func5 rfl rfl Tryz.ntmps5 rfl rfl ?_
  have hout := hr.out
  repeat' (first | rfl | assumption | (apply stp tt_ok; constructor) | exact Rng.mk (by omega) (by omega) | exact Bd.mk (by first | omega | (refine Nat.lt_of_lt_of_le (show _ < 1 by decide) ?_; first | omega | (rw [List.length_replicate]; omega)) | (refine Nat.lt_of_lt_of_le (show _ < 2 by decide) ?_; first | omega | (rw [List.length_replicate]; omega)) | (simp only [List.length_cons, List.length_nil]; omega)) | refine J.draw (by assumption) follows_ok (by kernel_rfl) (by decide +kernel) (by decide +kernel) ?_ | refine J.done ⟨rfl, rfl, rfl, ?_⟩ | constructor | (intro _; exfalso; omega) | intro _)
  refine CallJ.val (f7_ok U M hr (by omega)) ?_
  cases hL : largeB (rowsOf ls) 1000
  · have hb := largeB_small (by omega) hL
    repeat' (first | rfl | assumption | (apply stp tt_ok; constructor) | exact Rng.mk (by omega) (by omega) | exact Bd.mk (by first | omega | (refine Nat.lt_of_lt_of_le (show _ < 1 by decide) ?_; first | omega | (rw [List.length_replicate]; omega)) | (refine Nat.lt_of_lt_of_le (show _ < 2 by decide) ?_; first | omega | (rw [List.length_replicate]; omega)) | (simp only [List.length_cons, List.length_nil]; omega)) | refine J.draw (by assumption) follows_ok (by kernel_rfl) (by decide +kernel) (by decide +kernel) ?_ | refine J.done ⟨rfl, rfl, rfl, ?_⟩ | constructor | (intro _; exfalso; omega) | intro _)
    refine CallJ.val (f19_ok U M hr (by omega)) ?_
    cases hg : netGood (rowsOf ls)
    · repeat' (first | rfl | assumption | (apply stp tt_ok; constructor) | exact Rng.mk (by omega) (by omega) | exact Bd.mk (by first | omega | (refine Nat.lt_of_lt_of_le (show _ < 1 by decide) ?_; first | omega | (rw [List.length_replicate]; omega)) | (refine Nat.lt_of_lt_of_le (show _ < 2 by decide) ?_; first | omega | (rw [List.length_replicate]; omega)) | (simp only [List.length_cons, List.length_nil]; omega)) | refine J.draw (by assumption) follows_ok (by kernel_rfl) (by decide +kernel) (by decide +kernel) ?_ | refine J.done ⟨rfl, rfl, rfl, ?_⟩ | constructor | (intro _; exfalso; omega) | intro _)
      refine CallJ.val (W M) ?_
      repeat' (first | rfl | assumption | (apply stp tt_ok; constructor) | exact Rng.mk (by omega) (by omega) | exact Bd.mk (by first | omega | (refine Nat.lt_of_lt_of_le (show _ < 1 by decide) ?_; first | omega | (rw [List.length_replicate]; omega)) | (refine Nat.lt_of_lt_of_le (show _ < 2 by decide) ?_; first | omega | (rw [List.length_replicate]; omega)) | (simp only [List.length_cons, List.length_nil]; omega)) | refine J.draw (by assumption) follows_ok (by kernel_rfl) (by decide +kernel) (by decide +kernel) ?_ | refine J.done ⟨rfl, rfl, rfl, ?_⟩ | constructor | (intro _; exfalso; omega) | intro _)
      exact J.give0 tt_ok rfl (.cons (.tmp rfl) .nil) rfl
    · repeat' (first | rfl | assumption | (apply stp tt_ok; constructor) | exact Rng.mk (by omega) (by omega) | exact Bd.mk (by first | omega | (refine Nat.lt_of_lt_of_le (show _ < 1 by decide) ?_; first | omega | (rw [List.length_replicate]; omega)) | (refine Nat.lt_of_lt_of_le (show _ < 2 by decide) ?_; first | omega | (rw [List.length_replicate]; omega)) | (simp only [List.length_cons, List.length_nil]; omega)) | refine J.draw (by assumption) follows_ok (by kernel_rfl) (by decide +kernel) (by decide +kernel) ?_ | refine J.done ⟨rfl, rfl, rfl, ?_⟩ | constructor | (intro _; exfalso; omega) | intro _)
      refine CallJ.ret0 (f10_ok U M hr hT 120) ?_
      intro v l' hpost
      have hpost : f10Post (rowsOf ls) 120 v l' := hpost
      unfold f10Post at hpost
      rw [if_pos hg] at hpost
      cases h1 : subsetP (rowsOf ls) 120 with
      | none =>
        rw [h1] at hpost
        obtain ⟨rfl, rfl⟩ := hpost
        repeat' (first | rfl | assumption | (apply stp tt_ok; constructor) | exact Rng.mk (by omega) (by omega) | exact Bd.mk (by first | omega | (refine Nat.lt_of_lt_of_le (show _ < 1 by decide) ?_; first | omega | (rw [List.length_replicate]; omega)) | (refine Nat.lt_of_lt_of_le (show _ < 2 by decide) ?_; first | omega | (rw [List.length_replicate]; omega)) | (simp only [List.length_cons, List.length_nil]; omega)) | refine J.draw (by assumption) follows_ok (by kernel_rfl) (by decide +kernel) (by decide +kernel) ?_ | refine J.done ⟨rfl, rfl, rfl, ?_⟩ | constructor | (intro _; exfalso; omega) | intro _)
        refine CallJ.val (W _) ?_
        repeat' (first | rfl | assumption | (apply stp tt_ok; constructor) | exact Rng.mk (by omega) (by omega) | exact Bd.mk (by first | omega | (refine Nat.lt_of_lt_of_le (show _ < 1 by decide) ?_; first | omega | (rw [List.length_replicate]; omega)) | (refine Nat.lt_of_lt_of_le (show _ < 2 by decide) ?_; first | omega | (rw [List.length_replicate]; omega)) | (simp only [List.length_cons, List.length_nil]; omega)) | refine J.draw (by assumption) follows_ok (by kernel_rfl) (by decide +kernel) (by decide +kernel) ?_ | refine J.done ⟨rfl, rfl, rfl, ?_⟩ | constructor | (intro _; exfalso; omega) | intro _)
        exact J.give0 tt_ok rfl (.cons (.tmp rfl) .nil) rfl
      | some p =>
        obtain ⟨S, E⟩ := p
        rw [h1] at hpost
        obtain ⟨u, rfl, hA⟩ := hpost
        obtain ⟨s1, s2, s3, s4, s5, _, s7⟩ := subsetP_spec hg h1
        have bE : E.length ≤ 1099511627776 := by omega
        have bR : ∀ r ∈ E, r.length ≤ 1099511627776 := fun r hr => by have := s5 r hr; omega
        have bB : (S.map endsB).length ≤ 1099511627776 := by rw [List.length_map]; omega
        refine J.freezeAuto hA .here bE bR bB fun N1 hN1 a1 c1 ls1 b1 d1 hu hE1 hr1 hb1 => ?_
        subst hu
        have hl1 : ls1.length = S.length := by rw [← s4, ← hE1]; simp
        have hrN := hr.mono hN1
        have hout1 := hrN.out
        have hK := s7 ls1.length (by omega)
        have hK1 := subsetP_less hg h1 (most' := (ls1.length : Int) - 1) (by omega)
        have hKm := s7 ((ls1.length : Int) + more) (by omega)
        repeat' (first | rfl | assumption | (apply stp tt_ok; constructor) | exact Rng.mk (by omega) (by omega) | exact Bd.mk (by first | omega | (refine Nat.lt_of_lt_of_le (show _ < 1 by decide) ?_; first | omega | (rw [List.length_replicate]; omega)) | (refine Nat.lt_of_lt_of_le (show _ < 2 by decide) ?_; first | omega | (rw [List.length_replicate]; omega)) | (simp only [List.length_cons, List.length_nil]; omega)) | refine J.draw (by assumption) follows_ok (by kernel_rfl) (by decide +kernel) (by decide +kernel) ?_ | refine J.done ⟨rfl, rfl, rfl, ?_⟩ | constructor | (intro _; exfalso; omega) | intro _)
        refine CallJ.ret0 (f10_ok U N1 hrN (hT.mono hN1) ls1.length) ?_
        intro v l2 hpost
        have hpost : f10Post (rowsOf ls) ls1.length v l2 := hpost
        unfold f10Post at hpost
        rw [if_pos hg, hK] at hpost
        obtain ⟨u2, rfl, hA2⟩ := hpost
        refine J.freezeAuto hA2 .here bE bR bB fun N2 hN2 a2 c2 ls2 b2 d2 hu hE2 hr2 hb2 => ?_
        subst hu
        have hrN2 := hrN.mono hN2
        have hout2 := hrN2.out
        repeat' (first | rfl | assumption | (apply stp tt_ok; constructor) | exact Rng.mk (by omega) (by omega) | exact Bd.mk (by first | omega | (refine Nat.lt_of_lt_of_le (show _ < 1 by decide) ?_; first | omega | (rw [List.length_replicate]; omega)) | (refine Nat.lt_of_lt_of_le (show _ < 2 by decide) ?_; first | omega | (rw [List.length_replicate]; omega)) | (simp only [List.length_cons, List.length_nil]; omega)) | refine J.draw (by assumption) follows_ok (by kernel_rfl) (by decide +kernel) (by decide +kernel) ?_ | refine J.done ⟨rfl, rfl, rfl, ?_⟩ | constructor | (intro _; exfalso; omega) | intro _)
        refine CallJ.ret0 (f10_ok U N2 hrN2 ((hT.mono hN1).mono hN2) ((ls1.length : Int) - 1)) ?_
        intro v l3 hpost
        have hpost : f10Post (rowsOf ls) ((ls1.length : Int) - 1) v l3 := hpost
        unfold f10Post at hpost
        rw [if_pos hg, hK1] at hpost
        obtain ⟨rfl, rfl⟩ := hpost
        repeat' (first | rfl | assumption | (apply stp tt_ok; constructor) | exact Rng.mk (by omega) (by omega) | exact Bd.mk (by first | omega | (refine Nat.lt_of_lt_of_le (show _ < 1 by decide) ?_; first | omega | (rw [List.length_replicate]; omega)) | (refine Nat.lt_of_lt_of_le (show _ < 2 by decide) ?_; first | omega | (rw [List.length_replicate]; omega)) | (simp only [List.length_cons, List.length_nil]; omega)) | refine J.draw (by assumption) follows_ok (by kernel_rfl) (by decide +kernel) (by decide +kernel) ?_ | refine J.done ⟨rfl, rfl, rfl, ?_⟩ | constructor | (intro _; exfalso; omega) | intro _)
        refine CallJ.ret0 (f10_ok U N2 hrN2 ((hT.mono hN1).mono hN2) ((ls1.length : Int) + more)) ?_
        intro v l4 hpost
        have hpost : f10Post (rowsOf ls) ((ls1.length : Int) + more) v l4 := hpost
        unfold f10Post at hpost
        rw [if_pos hg, hKm] at hpost
        obtain ⟨u4, rfl, hA4⟩ := hpost
        refine J.freezeAuto hA4 .here bE bR bB fun N4 hN4 a4 c4 ls4 b4 d4 hu hE4 hr4 hb4 => ?_
        subst hu
        have hrN4 := hrN2.mono hN4
        repeat' (first | rfl | assumption | (apply stp tt_ok; constructor) | exact Rng.mk (by omega) (by omega) | exact Bd.mk (by first | omega | (refine Nat.lt_of_lt_of_le (show _ < 1 by decide) ?_; first | omega | (rw [List.length_replicate]; omega)) | (refine Nat.lt_of_lt_of_le (show _ < 2 by decide) ?_; first | omega | (rw [List.length_replicate]; omega)) | (simp only [List.length_cons, List.length_nil]; omega)) | refine J.draw (by assumption) follows_ok (by kernel_rfl) (by decide +kernel) (by decide +kernel) ?_ | refine J.done ⟨rfl, rfl, rfl, ?_⟩ | constructor | (intro _; exfalso; omega) | intro _)
        refine CallJ.val (f13_ok U N4 (hr1.mono (hN2.trans hN4)) (hr2.mono hN4) (hb1.mono (hN2.trans hN4)) (hb2.mono hN4)) ?_
        rw [show decide (rowsOf ls1 = rowsOf ls2 ∧ S.map endsB = S.map endsB) = true by simp [hE1, hE2]]
        repeat' (first | rfl | assumption | (apply stp tt_ok; constructor) | exact Rng.mk (by omega) (by omega) | exact Bd.mk (by first | omega | (refine Nat.lt_of_lt_of_le (show _ < 1 by decide) ?_; first | omega | (rw [List.length_replicate]; omega)) | (refine Nat.lt_of_lt_of_le (show _ < 2 by decide) ?_; first | omega | (rw [List.length_replicate]; omega)) | (simp only [List.length_cons, List.length_nil]; omega)) | refine J.draw (by assumption) follows_ok (by kernel_rfl) (by decide +kernel) (by decide +kernel) ?_ | refine J.done ⟨rfl, rfl, rfl, ?_⟩ | constructor | (intro _; exfalso; omega) | intro _)
        refine CallJ.val (f13_ok U N4 (hr1.mono (hN2.trans hN4)) hr4 (hb1.mono (hN2.trans hN4)) hb4) ?_
        rw [show decide (rowsOf ls1 = rowsOf ls4 ∧ S.map endsB = S.map endsB) = true by simp [hE1, hE4]]
        repeat' (first | rfl | assumption | (apply stp tt_ok; constructor) | exact Rng.mk (by omega) (by omega) | exact Bd.mk (by first | omega | (refine Nat.lt_of_lt_of_le (show _ < 1 by decide) ?_; first | omega | (rw [List.length_replicate]; omega)) | (refine Nat.lt_of_lt_of_le (show _ < 2 by decide) ?_; first | omega | (rw [List.length_replicate]; omega)) | (simp only [List.length_cons, List.length_nil]; omega)) | refine J.draw (by assumption) follows_ok (by kernel_rfl) (by decide +kernel) (by decide +kernel) ?_ | refine J.done ⟨rfl, rfl, rfl, ?_⟩ | constructor | (intro _; exfalso; omega) | intro _)
        refine CallJ.val (W _) ?_
        repeat' (first | rfl | assumption | (apply stp tt_ok; constructor) | exact Rng.mk (by omega) (by omega) | exact Bd.mk (by first | omega | (refine Nat.lt_of_lt_of_le (show _ < 1 by decide) ?_; first | omega | (rw [List.length_replicate]; omega)) | (refine Nat.lt_of_lt_of_le (show _ < 2 by decide) ?_; first | omega | (rw [List.length_replicate]; omega)) | (simp only [List.length_cons, List.length_nil]; omega)) | refine J.draw (by assumption) follows_ok (by kernel_rfl) (by decide +kernel) (by decide +kernel) ?_ | refine J.done ⟨rfl, rfl, rfl, ?_⟩ | constructor | (intro _; exfalso; omega) | intro _)
        exact J.give0 tt_ok rfl (.cons (.tmp rfl) .nil) rfl
  · repeat' (first | rfl | assumption | (apply stp tt_ok; constructor) | exact Rng.mk (by omega) (by omega) | exact Bd.mk (by first | omega | (refine Nat.lt_of_lt_of_le (show _ < 1 by decide) ?_; first | omega | (rw [List.length_replicate]; omega)) | (refine Nat.lt_of_lt_of_le (show _ < 2 by decide) ?_; first | omega | (rw [List.length_replicate]; omega)) | (simp only [List.length_cons, List.length_nil]; omega)) | refine J.draw (by assumption) follows_ok (by kernel_rfl) (by decide +kernel) (by decide +kernel) ?_ | refine J.done ⟨rfl, rfl, rfl, ?_⟩ | constructor | (intro _; exfalso; omega) | intro _)
    refine CallJ.val (W M) ?_
    repeat' (first | rfl | assumption | (apply stp tt_ok; constructor) | exact Rng.mk (by omega) (by omega) | exact Bd.mk (by first | omega | (refine Nat.lt_of_lt_of_le (show _ < 1 by decide) ?_; first | omega | (rw [List.length_replicate]; omega)) | (refine Nat.lt_of_lt_of_le (show _ < 2 by decide) ?_; first | omega | (rw [List.length_replicate]; omega)) | (simp only [List.length_cons, List.length_nil]; omega)) | refine J.draw (by assumption) follows_ok (by kernel_rfl) (by decide +kernel) (by decide +kernel) ?_ | refine J.done ⟨rfl, rfl, rfl, ?_⟩ | constructor | (intro _; exfalso; omega) | intro _)
    exact J.give0 tt_ok rfl (.cons (.tmp rfl) .nil) rfl
end
end Go.Proofs.YtmlgmgjakhbhjaaGreatDoor.Ab

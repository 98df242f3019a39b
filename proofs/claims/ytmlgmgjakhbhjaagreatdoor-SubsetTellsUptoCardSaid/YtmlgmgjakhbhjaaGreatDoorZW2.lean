/- Walks, 6: close.Of, Labels, Step. Walks, 7: close.Step. Plain laws, 2: a set's name; compacting; the automaton, made set by set. Walks, 8: the maker. Walks, 9: all edges of a state. -/
import Derived.Test.YtmlgmgjakhbhjaaGreatDoorZW1
import Derived.Test.YtmlgmgjakhbhjaaGreatDoorZJ4
namespace Go.Proofs.YtmlgmgjakhbhjaaGreatDoor.Ab
open Go Go.Proofs
noncomputable section
attribute [local irreducible] J Con Lv CallJ

theorem mayB_of {n : List (List P2)} {l : List Int} (h : netGood n = true) (hl : ∀ s ∈ l, 0 ≤ s ∧ s < n.length) : mayB n l = true := by
  unfold mayB
  simp only [Bool.and_eq_true, Bool.not_eq_true', List.any_eq_false]
  refine ⟨h, fun s hs => ?_⟩
  unfold sBad
  have := hl s hs
  simp only [decide_eq_true_eq]
  omega

theorem f25_ok {hk : HKT} (U : HkU hk) (M : Imm) {a b : Option Addr} {c d : Nat} {ls : List (SlOf P2)} {l : List Int} (hr : Rows M eP a ls) (hl : IsSl M eI b l) (hg : mayB (rowsOf ls) l = true) :
    Con Tryz.prog hk 25 [.agg ⟨[.slice a ls.length c]⟩, .slice b l.length d] M []
      (Returns fun v l' => ∃ out, v = .tuple ⟨[.slice (segA l') out.length (segC l'), .int .i64 0]⟩ ∧ Own 3 eI l' out ∧ IsSet (Reach (rowsOf ls) l) out ∧ out.length ≤ 2000) := by
  refine Con.of_body (U.no 25 rfl) Tryz.func25 rfl rfl Tryz.ntmps25 rfl rfl ?_
  have hout := hr.out
  have hlen := hl.len
  have hfl : (rowsOf ls).flatten.length ≤ 1099511627776 := by have := (netGood_spec (mayB_spec hg).1).2.2.1; omega
  repeat' (first | rfl | assumption | (apply stp tt_ok; constructor) | exact Rng.mk (by omega) (by omega) | exact Bd.mk (by first | omega | (refine Nat.lt_of_lt_of_le (show _ < 1 by decide) ?_; first | omega | (rw [List.length_replicate]; omega)) | (refine Nat.lt_of_lt_of_le (show _ < 2 by decide) ?_; first | omega | (rw [List.length_replicate]; omega)) | (simp only [List.length_cons, List.length_nil]; omega)) | refine J.draw (by assumption) follows_ok (by kernel_rfl) (by decide +kernel) (by decide +kernel) ?_ | refine J.done ⟨rfl, rfl, rfl, ?_⟩ | constructor | (intro _; exfalso; omega) | intro _)
  refine CallJ.val (f51_ok U M hr hl) ?_
  rw [hg]
  repeat' (first | rfl | assumption | (apply stp tt_ok; constructor) | exact Rng.mk (by omega) (by omega) | exact Bd.mk (by first | omega | (refine Nat.lt_of_lt_of_le (show _ < 1 by decide) ?_; first | omega | (rw [List.length_replicate]; omega)) | (refine Nat.lt_of_lt_of_le (show _ < 2 by decide) ?_; first | omega | (rw [List.length_replicate]; omega)) | (simp only [List.length_cons, List.length_nil]; omega)) | refine J.draw (by assumption) follows_ok (by kernel_rfl) (by decide +kernel) (by decide +kernel) ?_ | refine J.done ⟨rfl, rfl, rfl, ?_⟩ | constructor | (intro _; exfalso; omega) | intro _)
  refine CallJ.ret0 (f52_ok U M hr hl (mayB_spec hg).1 (mayB_spec hg).2) ?_
  rintro v l' ⟨out, rfl, ho, hs, hle⟩
  repeat' (first | rfl | assumption | (apply stp tt_ok; constructor) | exact Rng.mk (by omega) (by omega) | exact Bd.mk (by first | omega | (refine Nat.lt_of_lt_of_le (show _ < 1 by decide) ?_; first | omega | (rw [List.length_replicate]; omega)) | (refine Nat.lt_of_lt_of_le (show _ < 2 by decide) ?_; first | omega | (rw [List.length_replicate]; omega)) | (simp only [List.length_cons, List.length_nil]; omega)) | refine J.draw (by assumption) follows_ok (by kernel_rfl) (by decide +kernel) (by decide +kernel) ?_ | refine J.done ⟨rfl, rfl, rfl, ?_⟩ | constructor | (intro _; exfalso; omega) | intro _)
  exact J.rets tt_ok rfl (.cons (.tmp rfl) (.cons (.tmp rfl) .nil)) rfl (s := l') (List.Perm.refl _) ⟨out, rfl, ho, hs, hle⟩

/- ## what goes out of a set -/
def gather (n : List (List P2)) (l : List Int) (g : P2 → Option Int) : List Int := l.flatMap fun s => (nthAt [] n s.toNat).filterMap g
def gLab (x : P2) : Option Int := if x.1 = -1 then none else some x.1
def gStep (c : Int) (x : P2) : Option Int := if x.1 = c then some x.2 else none
theorem take_succ_nth {α : Type} {d : α} {l : List α} {k : Nat} (h : k < l.length) : l.take (k + 1) = l.take k ++ [nthAt d l k] := by
  rw [nthAt_get h, List.take_succ_eq_append_getElem h]
theorem gather_succ {n : List (List P2)} {l : List Int} {g : P2 → Option Int} {k kk : Nat} (h : k < l.length) (hk : nthAt 0 l k = (kk : Int)) : gather n (l.take (k + 1)) g = gather n (l.take k) g ++ (nthAt [] n kk).filterMap g := by
  unfold gather
  rw [take_succ_nth (d := 0) h, List.flatMap_append, hk]
  simp
theorem fm_succ {l : List P2} {g : P2 → Option Int} {d : P2} {k : Nat} (h : k < l.length) : (l.take (k + 1)).filterMap g = (l.take k).filterMap g ++ (g (nthAt d l k)).toList := by
  rw [take_succ_nth (d := d) h, List.filterMap_append]
  cases h : g (nthAt d l k) <;> simp [h]
theorem row_le (n : List (List P2)) (s : Nat) : (nthAt [] n s).length ≤ n.flatten.length := by
  by_cases h : s < n.length
  · rw [nthAt_get h]
    exact (List.sublist_flatten_of_mem (List.getElem_mem h)).length_le
  · unfold nthAt
    rw [List.getD_eq_getElem?_getD, List.getElem?_eq_none (by omega)]
    exact Nat.zero_le _
theorem gather_le (n : List (List P2)) (l : List Int) (g : P2 → Option Int) : (gather n l g).length ≤ l.length * n.flatten.length := by
  unfold gather
  induction l with
  | nil => simp
  | cons a l ih =>
    rw [List.flatMap_cons, List.length_append, List.length_cons, Nat.succ_mul]
    have := List.length_filterMap_le g (nthAt [] n a.toNat)
    have := row_le n a.toNat
    omega
/-- A set's labels, rising. -/
def labelsP (n : List (List P2)) (l : List Int) : List Int := Lib.compact (sortI (gather n l gLab))

set_option maxHeartbeats 1000000 in
theorem f55_ok {hk : HKT} (U : HkU hk) (M : Imm) {a b : Option Addr} {c d : Nat} {ls : List (SlOf P2)} {l : List Int} (hr : Rows M eP a ls) (hl : IsSl M eI b l) (hg : mayB (rowsOf ls) l = true) (hll : l.length ≤ 2000) :
    Con Tryz.prog hk 55 [.agg ⟨[.slice a ls.length c]⟩, .slice b l.length d] M []
      (Returns fun v l' => v = .tuple ⟨[.slice (segA l') (labelsP (rowsOf ls) l).length (segC l'), .int .i64 0]⟩ ∧ RdS 3 eI l' (labelsP (rowsOf ls) l)) := by
  refine Con.of_body (U.no 55 rfl) Tryz.func55 rfl rfl Tryz.ntmps55 rfl rfl ?_
  have hout := hr.out
  have hlen := hl.len
  obtain ⟨_, h2000, h8000, _⟩ := netGood_spec (mayB_spec hg).1
  have hn := (mayB_spec hg).2
  have hfl : (rowsOf ls).flatten.length ≤ 1099511627776 := by omega
  have hgl := gather_le (rowsOf ls) l gLab
  have hgm : l.length * (rowsOf ls).flatten.length ≤ 2000 * 8000 := Nat.mul_le_mul hll h8000
  repeat' (first | rfl | assumption | (apply stp tt_ok; constructor) | exact Rng.mk (by omega) (by omega) | exact Bd.mk (by first | omega | (refine Nat.lt_of_lt_of_le (show _ < 1 by decide) ?_; first | omega | (rw [List.length_replicate]; omega)) | (refine Nat.lt_of_lt_of_le (show _ < 2 by decide) ?_; first | omega | (rw [List.length_replicate]; omega)) | (simp only [List.length_cons, List.length_nil]; omega)) | refine J.draw (by assumption) follows_ok (by kernel_rfl) (by decide +kernel) (by decide +kernel) ?_ | refine J.done ⟨rfl, rfl, rfl, ?_⟩ | constructor | (intro _; exfalso; omega) | intro _)
  refine CallJ.val (f51_ok U M hr hl) ?_
  rw [hg]
  repeat' (first | rfl | assumption | (apply stp tt_ok; constructor) | exact Rng.mk (by omega) (by omega) | exact Bd.mk (by first | omega | (refine Nat.lt_of_lt_of_le (show _ < 1 by decide) ?_; first | omega | (rw [List.length_replicate]; omega)) | (refine Nat.lt_of_lt_of_le (show _ < 2 by decide) ?_; first | omega | (rw [List.length_replicate]; omega)) | (simp only [List.length_cons, List.length_nil]; omega)) | refine J.draw (by assumption) follows_ok (by kernel_rfl) (by decide +kernel) (by decide +kernel) ?_ | refine J.done ⟨rfl, rfl, rfl, ?_⟩ | constructor | (intro _; exfalso; omega) | intro _)
  rename_i id2
  have seedsIn : ∀ k, k < l.length → ∃ kk : Nat, nthAt eI.dflt l k = (kk : Int) ∧ kk < ls.length := by
    intro k hk
    have hm : nthAt eI.dflt l k ∈ l := List.mem_of_getElem? (nthAt_lt hk)
    obtain ⟨h1, h2⟩ := hn.from' _ hm
    rw [rowsOf_length] at h2
    obtain ⟨kk, e⟩ := Int.eq_ofNat_of_zero_le h1
    exact ⟨kk, e, by omega⟩
  refine J.sel [1, 0] rfl ?_
  refine J.keep [17, 16, 15, 6, 2] rfl ?_
  refine J.forN l.length (fun k E L => ∃ s, E = [(17, .int .i64 (k : Int)), (16, .int .i64 l.length), (15, .slice b l.length d), (6, .slice (segA s) (gather (rowsOf ls) (l.take k) gLab).length (segC s)), (2, .pointer (some ⟨id2, 0, none⟩))] ∧
    L = [s, [(id2, .row [.slice a ls.length c] 24 .fixed)]] ∧ Own 3 eI s (gather (rowsOf ls) (l.take k) gLab)) ⟨[], rfl, rfl, Own.nil _ _⟩ ?_
  rintro k E L hk' ⟨s, rfl, rfl, hown⟩ ih
  by_cases hlt : k < l.length
  · obtain ⟨kk, hkk, hkl⟩ := seedsIn k hlt
    have hin := hr.at kk
    have hil2 := hin.len
    have hrn := rowsOf_nth ls kk
    have hg1 := gather_le (rowsOf ls) (l.take k) gLab
    have hg2 : (l.take k).length * (rowsOf ls).flatten.length ≤ 2000 * 8000 := Nat.mul_le_mul (by rw [List.length_take]; omega) h8000
    have hrl := row_le (rowsOf ls) kk
    rw [hrn] at hrl
    repeat' (first | rfl | assumption | (apply stp tt_ok; constructor) | exact Rng.mk (by omega) (by omega) | exact Bd.mk (by first | omega | (refine Nat.lt_of_lt_of_le (show _ < 1 by decide) ?_; first | omega | (rw [List.length_replicate]; omega)) | (refine Nat.lt_of_lt_of_le (show _ < 2 by decide) ?_; first | omega | (rw [List.length_replicate]; omega)) | (simp only [List.length_cons, List.length_nil]; omega)) | refine J.draw (by assumption) follows_ok (by kernel_rfl) (by decide +kernel) (by decide +kernel) ?_ | refine J.done ⟨rfl, rfl, rfl, ?_⟩ | constructor | (intro _; exfalso; omega) | intro _)
    generalize hrow : nthAt (eSl P2).dflt ls kk = row at *
    refine J.keep [27, 26, 25, 17, 16, 15, 6, 2] rfl ?_
    refine J.forN row.l.length (fun j E L => ∃ s, E = [(27, .int .i64 (j : Int)), (26, .int .i64 row.l.length), (25, .slice row.a row.l.length row.c), (17, .int .i64 (k : Int)), (16, .int .i64 l.length), (15, .slice b l.length d), (6, .slice (segA s) (gather (rowsOf ls) (l.take k) gLab ++ (row.l.take j).filterMap gLab).length (segC s)), (2, .pointer (some ⟨id2, 0, none⟩))] ∧
      L = [s, [(id2, .row [.slice a ls.length c] 24 .fixed)]] ∧ Own 3 eI s (gather (rowsOf ls) (l.take k) gLab ++ (row.l.take j).filterMap gLab)) ⟨s, by simp, rfl, by simpa using hown⟩ ?_
    clear hown
    rintro j E L hj' ⟨s, rfl, rfl, hown⟩ ih2
    by_cases hjl : j < row.l.length
    · have hx := fm_succ (g := gLab) (d := eP.dflt) hjl
      have hg3 : (gather (rowsOf ls) (l.take k) gLab ++ (row.l.take j).filterMap gLab).length ≤ 16008000 := by
        have := List.length_filterMap_le gLab (row.l.take j)
        rw [List.length_take] at this
        rw [List.length_append]
        omega
      repeat' (first | rfl | assumption | (apply stp tt_ok; constructor) | exact Rng.mk (by omega) (by omega) | exact Bd.mk (by first | omega | (refine Nat.lt_of_lt_of_le (show _ < 1 by decide) ?_; first | omega | (rw [List.length_replicate]; omega)) | (refine Nat.lt_of_lt_of_le (show _ < 2 by decide) ?_; first | omega | (rw [List.length_replicate]; omega)) | (simp only [List.length_cons, List.length_nil]; omega)) | refine J.draw (by assumption) follows_ok (by kernel_rfl) (by decide +kernel) (by decide +kernel) ?_ | refine J.done ⟨rfl, rfl, rfl, ?_⟩ | constructor | (intro _; exfalso; omega) | intro _)
      · refine J.sel [1, 1] rfl ?_
        rename_i he
        have hx0 : gLab (nthAt eP.dflt row.l j) = none := by unfold gLab; rw [if_pos he]
        rw [hx0, Option.toList_none, List.append_nil] at hx
        refine J.keep [27, 26, 25, 17, 16, 15, 6, 2] rfl (ih2 hjl _ _ ⟨s, ?_, rfl, ?_⟩)
        · rw [hx]; rfl
        · rw [hx]; exact hown
      · rename_i idg hne idx s' ho'
        refine J.sel [2, 2] rfl ?_
        have hx0 : gLab (nthAt eP.dflt row.l j) = some (nthAt eP.dflt row.l j).1 := by unfold gLab; rw [if_neg hne]
        rw [hx0] at hx
        refine J.keep [27, 26, 25, 17, 16, 15, 6, 2] rfl (ih2 hjl _ _ ⟨s', ?_, rfl, ?_⟩)
        · rw [hx, Option.toList_some, ← List.append_assoc]; rfl
        · rw [hx, Option.toList_some, ← List.append_assoc]; exact ho'
    · have hx : row.l.take j = row.l := List.take_of_length_le (by omega)
      rw [hx] at hown
      have hgs := gather_succ (n := rowsOf ls) (g := gLab) hlt hkk
      rw [hrn] at hgs
      rw [hx]
      repeat' (first | rfl | assumption | (apply stp tt_ok; constructor) | exact Rng.mk (by omega) (by omega) | exact Bd.mk (by first | omega | (refine Nat.lt_of_lt_of_le (show _ < 1 by decide) ?_; first | omega | (rw [List.length_replicate]; omega)) | (refine Nat.lt_of_lt_of_le (show _ < 2 by decide) ?_; first | omega | (rw [List.length_replicate]; omega)) | (simp only [List.length_cons, List.length_nil]; omega)) | refine J.draw (by assumption) follows_ok (by kernel_rfl) (by decide +kernel) (by decide +kernel) ?_ | refine J.done ⟨rfl, rfl, rfl, ?_⟩ | constructor | (intro _; exfalso; omega) | intro _)
      refine J.keep [17, 16, 15, 6, 2] rfl (ih hlt _ _ ⟨s, ?_, rfl, ?_⟩)
      · rw [hgs]; rfl
      · rw [hgs]; exact hown
  · have hx : l.take k = l := List.take_of_length_le (by omega)
    rw [hx] at hown ⊢
    clear ih
    repeat' (first | rfl | assumption | (apply stp tt_ok; constructor) | exact Rng.mk (by omega) (by omega) | exact Bd.mk (by first | omega | (refine Nat.lt_of_lt_of_le (show _ < 1 by decide) ?_; first | omega | (rw [List.length_replicate]; omega)) | (refine Nat.lt_of_lt_of_le (show _ < 2 by decide) ?_; first | omega | (rw [List.length_replicate]; omega)) | (simp only [List.length_cons, List.length_nil]; omega)) | refine J.draw (by assumption) follows_ok (by kernel_rfl) (by decide +kernel) (by decide +kernel) ?_ | refine J.done ⟨rfl, rfl, rfl, ?_⟩ | constructor | (intro _; exfalso; omega) | intro _)
    refine CallJ.ret (Pick.perm .here) (U.sort M s _ hown (by omega)) ?_
    rintro v l' ⟨rfl, hl', ha, hc⟩
    have hln : (gather (rowsOf ls) l gLab).length = (sortI (gather (rowsOf ls) l gLab)).length := by simp [sortI]
    rw [← ha, ← hc, hln]
    repeat' (first | rfl | assumption | (apply stp tt_ok; constructor) | exact Rng.mk (by omega) (by omega) | exact Bd.mk (by first | omega | (refine Nat.lt_of_lt_of_le (show _ < 1 by decide) ?_; first | omega | (rw [List.length_replicate]; omega)) | (refine Nat.lt_of_lt_of_le (show _ < 2 by decide) ?_; first | omega | (rw [List.length_replicate]; omega)) | (simp only [List.length_cons, List.length_nil]; omega)) | refine J.draw (by assumption) follows_ok (by kernel_rfl) (by decide +kernel) (by decide +kernel) ?_ | refine J.done ⟨rfl, rfl, rfl, ?_⟩ | constructor | (intro _; exfalso; omega) | intro _)
    refine CallJ.ret (Pick.perm .here) (U.compact M l' _ hl' (by omega)) ?_
    rintro v l2 ⟨rfl, hl2⟩
    repeat' (first | rfl | assumption | (apply stp tt_ok; constructor) | exact Rng.mk (by omega) (by omega) | exact Bd.mk (by first | omega | (refine Nat.lt_of_lt_of_le (show _ < 1 by decide) ?_; first | omega | (rw [List.length_replicate]; omega)) | (refine Nat.lt_of_lt_of_le (show _ < 2 by decide) ?_; first | omega | (rw [List.length_replicate]; omega)) | (simp only [List.length_cons, List.length_nil]; omega)) | refine J.draw (by assumption) follows_ok (by kernel_rfl) (by decide +kernel) (by decide +kernel) ?_ | refine J.done ⟨rfl, rfl, rfl, ?_⟩ | constructor | (intro _; exfalso; omega) | intro _)
    exact J.rets tt_ok rfl (.cons (.tmp rfl) (.cons (.tmp rfl) .nil)) rfl (s := l2) (List.Perm.refl _) ⟨rfl, hl2⟩
end
end Go.Proofs.YtmlgmgjakhbhjaaGreatDoor.Ab

namespace Go.Proofs.YtmlgmgjakhbhjaaGreatDoor.Ab
open Go Go.Proofs
noncomputable section
attribute [local irreducible] J Con Lv CallJ

theorem gather_in {n : List (List P2)} (h : netGood n = true) (l : List Int) (lab : Int) : NetIn n (gather n l (gStep lab)) := by
  obtain ⟨_, _, _, h4⟩ := netGood_spec h
  refine ⟨fun s x hx => (h4 s x hx).2, fun s hs => ?_⟩
  unfold gather at hs
  simp only [List.mem_flatMap, List.mem_filterMap] at hs
  obtain ⟨t, _, x, hx, hg⟩ := hs
  unfold gStep at hg
  split at hg
  · cases hg
    exact (h4 _ x hx).2
  · cases hg

set_option maxHeartbeats 1000000 in
theorem f56_ok {hk : HKT} (U : HkU hk) (M : Imm) {a b : Option Addr} {c d : Nat} {ls : List (SlOf P2)} {l : List Int} (hr : Rows M eP a ls) (hl : IsSl M eI b l) (hg : mayB (rowsOf ls) l = true) (hll : l.length ≤ 2000) {lab : Int} (hlab : 0 ≤ lab) :
    Con Tryz.prog hk 56 [.agg ⟨[.slice a ls.length c]⟩, .slice b l.length d, .int .i64 lab] M []
      (Returns fun v l' => ∃ out, v = .tuple ⟨[.slice (segA l') out.length (segC l'), .int .i64 0]⟩ ∧ Own 3 eI l' out ∧ IsSet (Reach (rowsOf ls) (gather (rowsOf ls) l (gStep lab))) out ∧ out.length ≤ 2000) := by
  refine Con.of_body (U.no 56 rfl) Tryz.func56 rfl rfl Tryz.ntmps56 rfl rfl ?_
  have hout := hr.out
  have hlen := hl.len
  obtain ⟨_, h2000, h8000, _⟩ := netGood_spec (mayB_spec hg).1
  have hn := (mayB_spec hg).2
  have hfl : (rowsOf ls).flatten.length ≤ 1099511627776 := by omega
  have hgl := gather_le (rowsOf ls) l (gStep lab)
  have hgm : l.length * (rowsOf ls).flatten.length ≤ 2000 * 8000 := Nat.mul_le_mul hll h8000
  repeat' (first | rfl | assumption | (apply stp tt_ok; constructor) | exact Rng.mk (by omega) (by omega) | exact Bd.mk (by first | omega | (refine Nat.lt_of_lt_of_le (show _ < 1 by decide) ?_; first | omega | (rw [List.length_replicate]; omega)) | (refine Nat.lt_of_lt_of_le (show _ < 2 by decide) ?_; first | omega | (rw [List.length_replicate]; omega)) | (simp only [List.length_cons, List.length_nil]; omega)) | refine J.draw (by assumption) follows_ok (by kernel_rfl) (by decide +kernel) (by decide +kernel) ?_ | refine J.done ⟨rfl, rfl, rfl, ?_⟩ | constructor | (intro _; exfalso; omega) | intro _)
  refine CallJ.val (f51_ok U M hr hl) ?_
  rw [hg]
  repeat' (first | rfl | assumption | (apply stp tt_ok; constructor) | exact Rng.mk (by omega) (by omega) | exact Bd.mk (by first | omega | (refine Nat.lt_of_lt_of_le (show _ < 1 by decide) ?_; first | omega | (rw [List.length_replicate]; omega)) | (refine Nat.lt_of_lt_of_le (show _ < 2 by decide) ?_; first | omega | (rw [List.length_replicate]; omega)) | (simp only [List.length_cons, List.length_nil]; omega)) | refine J.draw (by assumption) follows_ok (by kernel_rfl) (by decide +kernel) (by decide +kernel) ?_ | refine J.done ⟨rfl, rfl, rfl, ?_⟩ | constructor | (intro _; exfalso; omega) | intro _)
  rename_i id2 _
  have seedsIn : ∀ k, k < l.length → ∃ kk : Nat, nthAt eI.dflt l k = (kk : Int) ∧ kk < ls.length := by
    intro k hk
    have hm : nthAt eI.dflt l k ∈ l := List.mem_of_getElem? (nthAt_lt hk)
    obtain ⟨h1, h2⟩ := hn.from' _ hm
    rw [rowsOf_length] at h2
    obtain ⟨kk, e⟩ := Int.eq_ofNat_of_zero_le h1
    exact ⟨kk, e, by omega⟩
  refine J.sel [1, 0] rfl ?_
  refine J.keep [23, 22, 21, 8, 3, 2] rfl ?_
  refine J.forN l.length (fun k E L => ∃ s, E = [(23, .int .i64 (k : Int)), (22, .int .i64 l.length), (21, .slice b l.length d), (8, .slice (segA s) (gather (rowsOf ls) (l.take k) (gStep lab)).length (segC s)), (3, .pointer (some ⟨id2, 0, none⟩)), (2, .int .i64 lab)] ∧
    L = [s, [(id2, .row [.slice a ls.length c] 24 .fixed)]] ∧ Own 3 eI s (gather (rowsOf ls) (l.take k) (gStep lab))) ⟨[], rfl, rfl, Own.nil _ _⟩ ?_
  rintro k E L hk' ⟨s, rfl, rfl, hown⟩ ih
  by_cases hlt : k < l.length
  · obtain ⟨kk, hkk, hkl⟩ := seedsIn k hlt
    have hin := hr.at kk
    have hil2 := hin.len
    have hrn := rowsOf_nth ls kk
    have hg1 := gather_le (rowsOf ls) (l.take k) (gStep lab)
    have hg2 : (l.take k).length * (rowsOf ls).flatten.length ≤ 2000 * 8000 := Nat.mul_le_mul (by rw [List.length_take]; omega) h8000
    have hrl := row_le (rowsOf ls) kk
    rw [hrn] at hrl
    repeat' (first | rfl | assumption | (apply stp tt_ok; constructor) | exact Rng.mk (by omega) (by omega) | exact Bd.mk (by first | omega | (refine Nat.lt_of_lt_of_le (show _ < 1 by decide) ?_; first | omega | (rw [List.length_replicate]; omega)) | (refine Nat.lt_of_lt_of_le (show _ < 2 by decide) ?_; first | omega | (rw [List.length_replicate]; omega)) | (simp only [List.length_cons, List.length_nil]; omega)) | refine J.draw (by assumption) follows_ok (by kernel_rfl) (by decide +kernel) (by decide +kernel) ?_ | refine J.done ⟨rfl, rfl, rfl, ?_⟩ | constructor | (intro _; exfalso; omega) | intro _)
    generalize hrow : nthAt (eSl P2).dflt ls kk = row at *
    refine J.keep [33, 32, 31, 23, 22, 21, 8, 3, 2] rfl ?_
    refine J.forN row.l.length (fun j E L => ∃ s, E = [(33, .int .i64 (j : Int)), (32, .int .i64 row.l.length), (31, .slice row.a row.l.length row.c), (23, .int .i64 (k : Int)), (22, .int .i64 l.length), (21, .slice b l.length d), (8, .slice (segA s) (gather (rowsOf ls) (l.take k) (gStep lab) ++ (row.l.take j).filterMap (gStep lab)).length (segC s)), (3, .pointer (some ⟨id2, 0, none⟩)), (2, .int .i64 lab)] ∧
      L = [s, [(id2, .row [.slice a ls.length c] 24 .fixed)]] ∧ Own 3 eI s (gather (rowsOf ls) (l.take k) (gStep lab) ++ (row.l.take j).filterMap (gStep lab))) ⟨s, by simp, rfl, by simpa using hown⟩ ?_
    clear hown
    rintro j E L hj' ⟨s, rfl, rfl, hown⟩ ih2
    by_cases hjl : j < row.l.length
    · have hx := fm_succ (g := (gStep lab)) (d := eP.dflt) hjl
      have hg3 : (gather (rowsOf ls) (l.take k) (gStep lab) ++ (row.l.take j).filterMap (gStep lab)).length ≤ 16008000 := by
        have := List.length_filterMap_le (gStep lab) (row.l.take j)
        rw [List.length_take] at this
        rw [List.length_append]
        omega
      repeat' (first | rfl | assumption | (apply stp tt_ok; constructor) | exact Rng.mk (by omega) (by omega) | exact Bd.mk (by first | omega | (refine Nat.lt_of_lt_of_le (show _ < 1 by decide) ?_; first | omega | (rw [List.length_replicate]; omega)) | (refine Nat.lt_of_lt_of_le (show _ < 2 by decide) ?_; first | omega | (rw [List.length_replicate]; omega)) | (simp only [List.length_cons, List.length_nil]; omega)) | refine J.draw (by assumption) follows_ok (by kernel_rfl) (by decide +kernel) (by decide +kernel) ?_ | refine J.done ⟨rfl, rfl, rfl, ?_⟩ | constructor | (intro _; exfalso; omega) | intro _)
      · rename_i idg hne idx s' ho'
        refine J.sel [2, 2] rfl ?_
        have hx0 : (gStep lab) (nthAt eP.dflt row.l j) = some (nthAt eP.dflt row.l j).2 := by unfold gStep; rw [if_pos hne]
        rw [hx0] at hx
        refine J.keep [33, 32, 31, 23, 22, 21, 8, 3, 2] rfl (ih2 hjl _ _ ⟨s', ?_, rfl, ?_⟩)
        · rw [hx, Option.toList_some, ← List.append_assoc]; rfl
        · rw [hx, Option.toList_some, ← List.append_assoc]; exact ho'
      · refine J.sel [1, 1] rfl ?_
        rename_i he
        have hx0 : (gStep lab) (nthAt eP.dflt row.l j) = none := by unfold gStep; rw [if_neg he]
        rw [hx0, Option.toList_none, List.append_nil] at hx
        refine J.keep [33, 32, 31, 23, 22, 21, 8, 3, 2] rfl (ih2 hjl _ _ ⟨s, ?_, rfl, ?_⟩)
        · rw [hx]; rfl
        · rw [hx]; exact hown
    · have hx : row.l.take j = row.l := List.take_of_length_le (by omega)
      rw [hx] at hown
      have hgs := gather_succ (n := rowsOf ls) (g := (gStep lab)) hlt hkk
      rw [hrn] at hgs
      rw [hx]
      repeat' (first | rfl | assumption | (apply stp tt_ok; constructor) | exact Rng.mk (by omega) (by omega) | exact Bd.mk (by first | omega | (refine Nat.lt_of_lt_of_le (show _ < 1 by decide) ?_; first | omega | (rw [List.length_replicate]; omega)) | (refine Nat.lt_of_lt_of_le (show _ < 2 by decide) ?_; first | omega | (rw [List.length_replicate]; omega)) | (simp only [List.length_cons, List.length_nil]; omega)) | refine J.draw (by assumption) follows_ok (by kernel_rfl) (by decide +kernel) (by decide +kernel) ?_ | refine J.done ⟨rfl, rfl, rfl, ?_⟩ | constructor | (intro _; exfalso; omega) | intro _)
      refine J.keep [23, 22, 21, 8, 3, 2] rfl (ih hlt _ _ ⟨s, ?_, rfl, ?_⟩)
      · rw [hgs]; rfl
      · rw [hgs]; exact hown
  · have hx : l.take k = l := List.take_of_length_le (by omega)
    rw [hx] at hown ⊢
    clear ih
    refine J.freezeOwn hown .here (fun _ => rfl) (by omega) fun N hN hfr => ?_
    have hr' : Rows N eP a ls := hr.mono hN
    have hout' := hr'.out
    repeat' (first | rfl | assumption | (apply stp tt_ok; constructor) | exact Rng.mk (by omega) (by omega) | exact Bd.mk (by first | omega | (refine Nat.lt_of_lt_of_le (show _ < 1 by decide) ?_; first | omega | (rw [List.length_replicate]; omega)) | (refine Nat.lt_of_lt_of_le (show _ < 2 by decide) ?_; first | omega | (rw [List.length_replicate]; omega)) | (simp only [List.length_cons, List.length_nil]; omega)) | refine J.draw (by assumption) follows_ok (by kernel_rfl) (by decide +kernel) (by decide +kernel) ?_ | refine J.done ⟨rfl, rfl, rfl, ?_⟩ | constructor | (intro _; exfalso; omega) | intro _)
    refine CallJ.ret0 (f52_ok U N hr' hfr (mayB_spec hg).1 (gather_in (mayB_spec hg).1 l lab)) ?_
    rintro v l' ⟨out, rfl, ho, hs, hle⟩
    repeat' (first | rfl | assumption | (apply stp tt_ok; constructor) | exact Rng.mk (by omega) (by omega) | exact Bd.mk (by first | omega | (refine Nat.lt_of_lt_of_le (show _ < 1 by decide) ?_; first | omega | (rw [List.length_replicate]; omega)) | (refine Nat.lt_of_lt_of_le (show _ < 2 by decide) ?_; first | omega | (rw [List.length_replicate]; omega)) | (simp only [List.length_cons, List.length_nil]; omega)) | refine J.draw (by assumption) follows_ok (by kernel_rfl) (by decide +kernel) (by decide +kernel) ?_ | refine J.done ⟨rfl, rfl, rfl, ?_⟩ | constructor | (intro _; exfalso; omega) | intro _)
    exact J.rets tt_ok rfl (.cons (.tmp rfl) (.cons (.tmp rfl) .nil)) rfl (s := l') (List.Perm.refl _) ⟨out, rfl, ho, hs, hle⟩
end
end Go.Proofs.YtmlgmgjakhbhjaaGreatDoor.Ab

namespace Go.Proofs.YtmlgmgjakhbhjaaGreatDoor.Ab
open Go
open Go.Lib (decDigits itoa compactUpTo keeps)

/- ## names tell sets apart -/
theorem dec_ge (u : Nat) : ∀ b ∈ decDigits u, 48 ≤ b.toNat := by
  induction u using Nat.strongRecOn with
  | _ u ih =>
    rw [decDigits]
    split
    · rename_i h
      intro b hb
      rw [List.mem_singleton] at hb
      subst hb
      rw [UInt8.toNat_ofNat']
      omega
    · intro b hb
      rw [List.mem_append, List.mem_singleton] at hb
      rcases hb with hb | hb
      · exact ih (u / 10) (by omega) b hb
      · subst hb
        rw [UInt8.toNat_ofNat']
        omega
def parse (l : List UInt8) : Nat := l.foldl (fun a b => 10 * a + (b.toNat - 48)) 0
theorem parse_dec (u : Nat) : parse (decDigits u) = u := by
  induction u using Nat.strongRecOn with
  | _ u ih =>
    rw [decDigits]
    split
    · rename_i h
      unfold parse
      simp only [List.foldl_cons, List.foldl_nil, UInt8.toNat_ofNat']
      omega
    · have := ih (u / 10) (by omega)
      unfold parse at this ⊢
      rw [List.foldl_append, this]
      simp only [List.foldl_cons, List.foldl_nil, UInt8.toNat_ofNat']
      omega
theorem split32 : ∀ (a b r s : List UInt8), (32 : UInt8) ∉ a → (32 : UInt8) ∉ b → a ++ 32 :: r = b ++ 32 :: s → a = b ∧ r = s
  | [], [], r, s, _, _, h => by simpa using h
  | [], y :: b, r, s, _, hb, h => by
    simp only [List.nil_append, List.cons_append, List.cons.injEq] at h
    exact absurd (h.1 ▸ List.mem_cons_self) hb
  | x :: a, [], r, s, ha, _, h => by
    simp only [List.nil_append, List.cons_append, List.cons.injEq] at h
    exact absurd (h.1 ▸ List.mem_cons_self) ha
  | x :: a, y :: b, r, s, ha, hb, h => by
    simp only [List.cons_append, List.cons.injEq] at h
    obtain ⟨h1, h2⟩ := split32 a b r s (fun hm => ha (.tail _ hm)) (fun hm => hb (.tail _ hm)) h.2
    exact ⟨by rw [h.1, h1], h2⟩
theorem keyL_inj : ∀ (l m : List Int), (∀ x ∈ l, 0 ≤ x) → (∀ x ∈ m, 0 ≤ x) → keyL l = keyL m → l = m
  | [], [], _, _, _ => rfl
  | [], b :: m, _, _, h => by simp [keyL] at h
  | a :: l, [], _, _, h => by simp [keyL] at h
  | a :: l, b :: m, hl, hm, h => by
    have ha := hl a (.head _)
    have hb := hm b (.head _)
    have hd : ∀ x : Int, 0 ≤ x → itoa x = decDigits x.toNat := fun x hx => by unfold itoa; rw [if_neg (by omega)]
    have hn : ∀ u, (32 : UInt8) ∉ decDigits u := fun u hm => by have := dec_ge u _ hm; revert this; decide
    have h' : decDigits a.toNat ++ 32 :: keyL l = decDigits b.toNat ++ 32 :: keyL m := by
      have := h
      simp only [keyL, List.flatMap_cons, hd a ha, hd b hb, List.append_assoc, List.cons_append, List.nil_append] at this
      exact this
    obtain ⟨h1, h2⟩ := split32 _ _ _ _ (hn _) (hn _) h'
    have h3 : a.toNat = b.toNat := by rw [← parse_dec a.toNat, h1, parse_dec]
    rw [keyL_inj l m (fun x hx => hl x (.tail _ hx)) (fun x hx => hm x (.tail _ hx)) h2, show a = b by omega]
theorem keyS_inj {l m : List Int} (hl : ∀ x ∈ l, 0 ≤ x) (hm : ∀ x ∈ m, 0 ≤ x) (h : keyS l = keyS m) : l = m := by
  refine keyL_inj l m hl hm ?_
  unfold keyS at h
  simpa using h

/- ## what is known -/
def knownOf : List (List Int) → Nat → List (ByteArray × Value)
  | [], _ => []
  | l :: S, i => (keyS l, .int .i64 (i : Int)) :: knownOf S (i + 1)
/-- The first place of a set. -/
def placeOf (l : List Int) : List (List Int) → Nat → Option Nat
  | [], _ => none
  | m :: S, i => if l = m then some i else placeOf l S (i + 1)
theorem mlook_known {l : List Int} (hl : ∀ x ∈ l, 0 ≤ x) : ∀ {S : List (List Int)} {i : Nat}, (∀ m ∈ S, ∀ x ∈ m, 0 ≤ x) → mlook (keyS l) (knownOf S i) = (placeOf l S i).map fun (j : Nat) => Value.int .i64 (j : Int)
  | [], _, _ => rfl
  | m :: S, i, h => by
    unfold knownOf placeOf mlook
    by_cases e : l = m
    · subst e; simp
    · rw [if_neg e, if_neg fun h' => e (keyS_inj hl (h m (.head _)) h')]
      exact mlook_known hl fun m' hm' => h m' (.tail _ hm')
theorem mput_known {l : List Int} {v : Value} : ∀ {S : List (List Int)} {i : Nat}, mlook (keyS l) (knownOf S i) = none → v = .int .i64 ((i + S.length : Nat) : Int) → mput (keyS l) v (knownOf S i) = knownOf (S ++ [l]) i
  | [], i, _, hv => by subst hv; rfl
  | m :: S, i, h, hv => by
    unfold knownOf mlook at h
    split at h
    · cases h
    · rename_i hne
      unfold knownOf mput
      rw [if_neg hne, mput_known h (by rw [hv, List.length_cons]; congr 2; omega)]
      rfl
theorem placeOf_lt {l : List Int} : ∀ {S : List (List Int)} {i j : Nat}, placeOf l S i = some j → i ≤ j ∧ j < i + S.length ∧ S[j - i]? = some l
  | [], _, _, h => by cases h
  | m :: S, i, j, h => by
    unfold placeOf at h
    split at h
    · cases h; rename_i e; subst e; simp
    · obtain ⟨h1, h2, h3⟩ := placeOf_lt h
      refine ⟨by omega, by rw [List.length_cons]; omega, ?_⟩
      rw [show j - i = (j - (i + 1)) + 1 by omega, List.getElem?_cons_succ, h3]

/- ## the automaton, made set by set -/
/-- The state of a set: its place, or a new one; none if there is no room. -/
def stP (most : Int) (S : List (List Int)) (l : List Int) : Option (Nat × List (List Int)) :=
  match placeOf l S 0 with
  | some i => some (i, S)
  | none => if most ≤ (S.length : Int) then none else some (S.length, S ++ [l])
open Classical in
/-- What is reached by nothing. -/
noncomputable def closeP (n : List (List P2)) (l : List Int) : List Int := if h : ∃ out, IsSet (Reach n l) out then Classical.choose h else []
theorem closeP_eq {n : List (List P2)} {l out : List Int} (h : IsSet (Reach n l) out) : closeP n l = out := by
  unfold closeP
  rw [dif_pos ⟨out, h⟩]
  exact IsSet.ext (Classical.choose_spec _) h fun _ => Iff.rfl
noncomputable def stepP (n : List (List P2)) (l : List Int) (c : Int) : List Int := closeP n (gather n l (gStep c))
/-- The edges of a state. -/
noncomputable def flP (n : List (List P2)) (most : Int) (l : List Int) : List Int → List (List Int) → List P2 → Option (List P2 × List (List Int))
  | [], S, row => some (row, S)
  | c :: cs, S, row => match stP most S (stepP n l c) with
    | none => none
    | some (i, S') => flP n most l cs S' (row ++ [(c, (i : Int))])
/-- State by state. -/
noncomputable def ofP (n : List (List P2)) (most : Int) : Nat → List (List Int) → List (List P2) → Option (List (List Int) × List (List P2))
  | 0, S, E => some (S, E)
  | k + 1, S, E => match S[E.length]? with
    | none => some (S, E)
    | some l => match flP n most l (labelsP n l) S [] with
      | none => none
      | some (row, S') => ofP n most k S' (E ++ [row])
end Go.Proofs.YtmlgmgjakhbhjaaGreatDoor.Ab

namespace Go.Proofs.YtmlgmgjakhbhjaaGreatDoor.Ab
open Go Go.Proofs
noncomputable section
attribute [local irreducible] J Con Lv CallJ

/-- A maker: its place, its map's, its slices, its sets and edges. -/
structure MkS where
  ma : Nat
  mp : Nat
  ss : Seg
  es : Seg
  ps : Seg
  G : List (Seg × List Int)
  R : List (Seg × List P2)
def endsB (l : List Int) : Bool := l.any fun x => decide (1 = x)
def MkS.sets (t : MkS) : List (List Int) := t.G.map (·.2)
def MkS.pops (t : MkS) : List Bool := t.G.map fun g => endsB g.2
def MkS.box (t : MkS) (nv : Value) (most : Int) : List Value := [nv, .int .i64 most, .slice (segA t.ss) (t.G.map slOf).length (segC t.ss), .map (some t.mp), .slice (segA t.es) (t.R.map slOf).length (segC t.es), .slice (segA t.ps) t.pops.length (segC t.ps)]
def MkS.parts (t : MkS) (nv : Value) (most : Int) : List Seg := [[(t.ma, .row (t.box nv most) 68 .fixed)], t.ss, [(t.mp, .map (kvs Value.string (knownOf t.sets 0)))], t.es, t.ps, segs t.G, segs t.R]
def MkS.all (t : MkS) (nv : Value) (most : Int) : Seg := (t.parts nv most).flatten
structure MkS.Ok (t : MkS) : Prop where
  ss : Own 28 (eSl Int) t.ss (t.G.map slOf)
  es : Own 46 (eSl P2) t.es (t.R.map slOf)
  ps : Own 4 eB t.ps t.pops
  g : AllOwn 3 eI t.G
  r : AllOwn 48 eP t.R
  len : t.R.length = t.G.length
  small : t.G.length ≤ 2000
  sets : ∀ m ∈ t.sets, ∀ x ∈ m, 0 ≤ x
def capped : Value := .iface 62 (.agg ⟨[]⟩)

set_option maxHeartbeats 2000000 in
theorem f26_ok {hk : HKT} (U : HkU hk) (M : Imm) {a : Option Addr} {c : Nat} {ls : List (SlOf P2)} (hr : Rows M eP a ls) (hT : TabM M) (t : MkS) (ht : t.Ok) {s : Seg} {l : List Int} (hs : Own 3 eI s l) (hg : mayB (rowsOf ls) l = true) (hll : l.length ≤ 2000) {most : Int} (hm : most ≤ 2000) :
    Con Tryz.prog hk 26 [.pointer (some ⟨t.ma, 0, none⟩), .slice (segA s) l.length (segC s)] M (t.all (.slice a ls.length c) most ++ s)
      (fun x l' => match stP most t.sets l with
        | none => x = .pan capped
        | some (i, S) => x = .ret (.int .i64 (i : Int)) ∧ ∃ t' : MkS, t'.Ok ∧ l' = t'.all (.slice a ls.length c) most ∧ t'.ma = t.ma ∧ t'.mp = t.mp ∧ t'.sets = S ∧ ((t'.G = t.G ∧ t'.R = t.R) ∨ (t'.G = t.G ++ [(s, l)] ∧ t'.R = t.R ++ [([], [])]))) := by
  refine Con.of_body (U.no 26 rfl) Tryz.func26 rfl rfl Tryz.ntmps26 rfl rfl ?_
  have hout := hr.out
  have hin : ∀ x ∈ l, 0 ≤ x ∧ x < (2000 : Int) := fun x hx => by
    have h1 := (mayB_spec hg).2.from' x hx
    have h2 := (netGood_spec (mayB_spec hg).1).2.1
    omega
  refine J.perm (L' := t.parts (.slice a ls.length c) most ++ [s]) (by simp [MkS.all]) ?_
  obtain ⟨ma, mp, ss, es, ps, G, R⟩ := t
  obtain ⟨hss, hes, hps, hgg, hrr, hlen, hsm, hsets⟩ := ht
  simp only [MkS.parts, MkS.box, MkS.sets, MkS.pops, List.cons_append, List.nil_append] at *
  have hG1 : (G.map slOf).length = G.length := List.length_map _
  have hR1 : (R.map slOf).length = R.length := List.length_map _
  have hP1 : (G.map fun g => endsB g.2).length = G.length := List.length_map _
  have hml := mlook_known (l := l) (fun x hx => (hin x hx).1) (S := G.map (·.2)) (i := 0) hsets
  repeat' (first | rfl | assumption | (apply stp tt_ok; constructor) | exact Rng.mk (by omega) (by omega) | exact Bd.mk (by first | omega | (refine Nat.lt_of_lt_of_le (show _ < 1 by decide) ?_; first | omega | (rw [List.length_replicate]; omega)) | (refine Nat.lt_of_lt_of_le (show _ < 2 by decide) ?_; first | omega | (rw [List.length_replicate]; omega)) | (simp only [List.length_cons, List.length_nil]; omega)) | refine J.draw (by assumption) follows_ok (by kernel_rfl) (by decide +kernel) (by decide +kernel) ?_ | refine J.done ⟨rfl, rfl, rfl, ?_⟩ | constructor | (intro _; exfalso; omega) | intro _)
  refine CallJ.lend (s := s) (R := _) (.there (.there (.there (.there (.there (.there (.there .here))))))) (fun hle _ => U.key _ (hT.mono hle) _ _ l (isSl_lent hs (fun _ => rfl) (by omega)) hll fun x hx => by have := hin x hx; omega) ?_
  repeat' (first | rfl | assumption | (apply stp tt_ok; constructor) | exact Rng.mk (by omega) (by omega) | exact Bd.mk (by first | omega | (refine Nat.lt_of_lt_of_le (show _ < 1 by decide) ?_; first | omega | (rw [List.length_replicate]; omega)) | (refine Nat.lt_of_lt_of_le (show _ < 2 by decide) ?_; first | omega | (rw [List.length_replicate]; omega)) | (simp only [List.length_cons, List.length_nil]; omega)) | refine J.draw (by assumption) follows_ok (by kernel_rfl) (by decide +kernel) (by decide +kernel) ?_ | refine J.done ⟨rfl, rfl, rfl, ?_⟩ | constructor | (intro _; exfalso; omega) | intro _)
  · rename_i v hv
    rw [hml] at hv
    cases hp : placeOf l (G.map (·.2)) 0 with
    | none => rw [hp] at hv; cases hv
    | some i =>
      rw [hp] at hv
      cases hv
      have hst : stP most (G.map (·.2)) l = some (i, G.map (·.2)) := by unfold stP; rw [hp]
      rw [hst]
      refine J.ret (Lv.ret tt_ok rfl (.cons (.tmp rfl) .nil) rfl (l' := MkS.all ⟨ma, mp, ss, es, ps, G, R⟩ (.slice a ls.length c) most) (R := [s]) (by simp [MkS.all, MkS.parts, MkS.box, MkS.sets, MkS.pops]) ⟨rfl, ⟨ma, mp, ss, es, ps, G, R⟩, ⟨hss, hes, hps, hgg, hrr, hlen, hsm, hsets⟩, rfl, rfl, rfl, rfl, .inl ⟨rfl, rfl⟩⟩)
  · rename_i hv hle
    rw [hml] at hv
    cases hp : placeOf l (G.map (·.2)) 0 with
    | some i => rw [hp] at hv; cases hv
    | none =>
      have hst : stP most (G.map (·.2)) l = none := by unfold stP; rw [hp]; simp only [List.length_map] at hle ⊢; rw [if_pos hle]
      rw [hst]
      exact Lv.pan (R := []) (l' := _) (by rw [List.flatten_nil, List.append_nil]) rfl
  · rename_i hv hle id1 ss' hss' id2 es' hes'
    rw [hml] at hv
    have hst : stP most (G.map (·.2)) l = some ((G.map (·.2)).length, G.map (·.2) ++ [l]) := by
      cases hp : placeOf l (G.map (·.2)) 0 with
      | some i => rw [hp] at hv; cases hv
      | none => unfold stP; rw [hp]; simp only [List.length_map] at hle ⊢; rw [if_neg hle]
    rw [← hml] at hv
    rw [hst]
    refine J.sel [2, 2, 2, 2, 2, 2, 2, 2] rfl ?_
    refine J.keep [8, 0, 1] rfl ?_
    have hn := U.n
    refine J.drawS tt_ok 11 [5] hn follows_ok (by kernel_rfl) (by decide +kernel) (by decide +kernel) rfl rfl rfl ?_
    repeat' (first | rfl | assumption | (apply stp tt_ok; constructor) | exact Rng.mk (by omega) (by omega) | exact Bd.mk (by first | omega | (refine Nat.lt_of_lt_of_le (show _ < 1 by decide) ?_; first | omega | (rw [List.length_replicate]; omega)) | (refine Nat.lt_of_lt_of_le (show _ < 2 by decide) ?_; first | omega | (rw [List.length_replicate]; omega)) | (simp only [List.length_cons, List.length_nil]; omega)) | refine J.draw (by assumption) follows_ok (by kernel_rfl) (by decide +kernel) (by decide +kernel) ?_ | refine J.done ⟨rfl, rfl, rfl, ?_⟩ | constructor | (intro _; exfalso; omega) | intro _)
    refine CallJ.lend (s := s) (R := _) (.there (.there (.there (.there (.there (.there (.there .here))))))) (fun hle _ => f54_ok U _ (hr.mono hle) (isSl_lent hs (fun _ => rfl) (by omega))) ?_
    rw [hg, Bool.true_and]
    repeat' (first | rfl | assumption | (apply stp tt_ok; constructor) | exact Rng.mk (by omega) (by omega) | exact Bd.mk (by first | omega | (refine Nat.lt_of_lt_of_le (show _ < 1 by decide) ?_; first | omega | (rw [List.length_replicate]; omega)) | (refine Nat.lt_of_lt_of_le (show _ < 2 by decide) ?_; first | omega | (rw [List.length_replicate]; omega)) | (simp only [List.length_cons, List.length_nil]; omega)) | refine J.draw (by assumption) follows_ok (by kernel_rfl) (by decide +kernel) (by decide +kernel) ?_ | refine J.done ⟨rfl, rfl, rfl, ?_⟩ | constructor | (intro _; exfalso; omega) | intro _)
    rename_i id3 ps' hps'
    refine J.sel [1, 1, 1, 1, 1, 1, 2, 1] rfl ?_
    have hmp := mput_known (l := l) (v := .int .i64 ((G.map slOf).length : Nat)) hv (by simp)
    rw [hmp]
    refine J.ret (Lv.ret tt_ok rfl (.cons (.tmp rfl) .nil) rfl (l' := MkS.all ⟨ma, mp, ss', es', ps', G ++ [(s, l)], R ++ [([], [])]⟩ (.slice a ls.length c) most) (R := []) (List.Perm.of_eq ?_)
      ⟨?_, ⟨ma, mp, ss', es', ps', G ++ [(s, l)], R ++ [([], [])]⟩, ⟨?_, ?_, ?_, hgg.add hs, hrr.add (Own.nil _ _), ?_, ?_, ?_⟩, rfl, rfl, rfl, ?_, .inr ⟨rfl, rfl⟩⟩)
    · simp only [MkS.all, MkS.parts, MkS.box, MkS.sets, MkS.pops, segs_app, segs_one, List.map_append, List.map_cons, List.map_nil, List.flatten_cons, List.flatten_nil, List.append_nil, List.nil_append, List.cons_append, List.append_assoc]
      rfl
    · simp only [List.length_map]; rfl
    · simpa [slOf] using hss'
    · simpa [slOf, segA, segC] using hes'
    · simpa [endsB, MkS.pops] using hps'
    · simp [hlen]
    · simp only [List.length_append, List.length_cons, List.length_nil]; rw [hG1] at hle; omega
    · intro m hm x hx
      simp only [MkS.sets, List.map_append, List.mem_append, List.map_cons, List.map_nil, List.mem_singleton] at hm
      rcases hm with hm | rfl
      · exact hsets m hm x hx
      · exact (hin x hx).1
    · simp
end
end Go.Proofs.YtmlgmgjakhbhjaaGreatDoor.Ab

namespace Go.Proofs.YtmlgmgjakhbhjaaGreatDoor.Ab
open Go Go.Proofs
noncomputable section
attribute [local irreducible] J Con Lv CallJ

theorem compact_le (l : List Int) : (Lib.compact l).length ≤ l.length := by
  unfold Lib.compact Lib.compactUpTo
  rw [List.length_map]
  exact Nat.le_trans (List.length_filter_le _ _) (by simp)
theorem labelsP_le (n : List (List P2)) (l : List Int) : (labelsP n l).length ≤ l.length * n.flatten.length := by
  refine Nat.le_trans (compact_le _) ?_
  rw [show (sortI (gather n l gLab)).length = (gather n l gLab).length by simp [sortI]]
  exact gather_le _ _ _

theorem mem_compactI {l : List Int} {x : Int} (h : x ∈ Lib.compact l) : x ∈ l := by
  unfold Lib.compact Lib.compactUpTo at h
  obtain ⟨j, hj, rfl⟩ := List.mem_map.1 h
  have hj := List.mem_range.1 (List.mem_filter.1 hj).1
  simp [hj]
theorem labelsP_nonneg {n : List (List P2)} (h : netGood n = true) {l : List Int} {x : Int} (hx : x ∈ labelsP n l) : 0 ≤ x := by
  have h1 := mem_compactI hx
  have h2 : x ∈ gather n l gLab := (List.mergeSort_perm _ _).mem_iff.1 h1
  unfold gather at h2
  simp only [List.mem_flatMap, List.mem_filterMap] at h2
  obtain ⟨t, _, y, hy, hg⟩ := h2
  unfold gLab at hg
  split at hg
  · cases hg
  · cases hg
    have := ((netGood_spec h).2.2.2 _ y hy).1
    omega

/-- Sets of a net's states. -/
def SetsIn (n : List (List P2)) (S : List (List Int)) : Prop := ∀ m ∈ S, (∀ x ∈ m, 0 ≤ x ∧ x < n.length) ∧ m.length ≤ 2000

theorem grown {n : List (List P2)} {G G2 : List (Seg × List Int)} {R R2 : List (Seg × List P2)} {tl : Seg} {out l : List Int} {s : Nat} {Ed : List (List P2)} {row : List P2}
    (h : (G2 = G ∧ R2 = R) ∨ (G2 = G ++ [(tl, out)] ∧ R2 = R ++ [([], [])])) (hS : SetsIn n (G.map (·.2))) (hsl : (G.map (·.2))[s]? = some l) (hR : R.map (·.2) = Ed ++ row :: List.replicate (R.length - s - 1) []) (hE : Ed.length = s)
    (hin : ∀ x ∈ out, 0 ≤ x ∧ x < n.length) (hle : out.length ≤ 2000) :
    SetsIn n (G2.map (·.2)) ∧ (G2.map (·.2))[s]? = some l ∧ R2.map (·.2) = Ed ++ row :: List.replicate (R2.length - s - 1) [] := by
  rcases h with ⟨rfl, rfl⟩ | ⟨rfl, rfl⟩
  · exact ⟨hS, hsl, hR⟩
  · simp only [List.map_append, List.map_cons, List.map_nil] at *
    refine ⟨fun m hm => ?_, ?_, ?_⟩
    · rcases List.mem_append.1 hm with hm | hm
      · exact hS m hm
      · cases List.mem_singleton.1 hm; exact ⟨hin, hle⟩
    · rw [List.getElem?_append_left (List.getElem?_eq_some_iff.1 hsl).1, hsl]
    · have hl : R.length = s + 1 + (R.length - s - 1) := by
        have := congrArg List.length hR
        simp only [List.length_map, List.length_append, List.length_cons, List.length_replicate] at this
        omega
      rw [hR, List.length_append, List.length_cons, List.length_nil, show R.length + (0 + 1) - s - 1 = (R.length - s - 1) + 1 by omega, List.replicate_succ']
      simp
theorem splitAt {R : List (Seg × List P2)} {Ed : List (List P2)} {row : List P2} {T : List (List P2)} (h : R.map (·.2) = Ed ++ row :: T) : ∃ RA rs RB, R = RA ++ (rs, row) :: RB ∧ RA.map (·.2) = Ed := by
  obtain ⟨l1, l2, rfl, h1, h2⟩ := List.map_eq_append_iff.1 h
  obtain ⟨x, l3, rfl, h3, h4⟩ := List.map_eq_cons_iff.1 h2
  exact ⟨l1, x.1, l3, by rw [← h3], h1⟩

set_option maxHeartbeats 2000000 in
theorem f27_ok {hk : HKT} (U : HkU hk) (M : Imm) {a : Option Addr} {c : Nat} {ls : List (SlOf P2)} (hr : Rows M eP a ls) (hT : TabM M) (hg : netGood (rowsOf ls) = true) (t : MkS) (ht : t.Ok) (hS : SetsIn (rowsOf ls) t.sets) {most : Int} (hm : most ≤ 2000) {s : Nat} {l : List Int} (hsl : t.sets[s]? = some l)
    {Ed : List (List P2)} (hEd : Ed.length = s) (hR : t.R.map (·.2) = Ed ++ [] :: List.replicate (t.R.length - s - 1) []) :
    Con Tryz.prog hk 27 [.pointer (some ⟨t.ma, 0, none⟩), .int .i64 (s : Int)] M (t.all (.slice a ls.length c) most)
      (fun x l' => match flP (rowsOf ls) most l (labelsP (rowsOf ls) l) t.sets [] with
        | none => x = .pan capped
        | some (row, S) => x = .ret (.tuple ⟨[]⟩) ∧ ∃ t' : MkS, t'.Ok ∧ l' = t'.all (.slice a ls.length c) most ∧ t'.ma = t.ma ∧ t'.mp = t.mp ∧ t'.sets = S ∧ SetsIn (rowsOf ls) S ∧ t'.R.map (·.2) = Ed ++ row :: List.replicate (t'.R.length - s - 1) []) := by
  refine Con.of_body (U.no 27 rfl) Tryz.func27 rfl rfl Tryz.ntmps27 rfl rfl ?_
  have hn := U.n
  have hout := hr.out
  have h8 := (netGood_spec hg).2.2.1
  have hlS : l ∈ t.sets := List.mem_of_getElem? hsl
  obtain ⟨hl1, hl2⟩ := hS l hlS
  have hmay : mayB (rowsOf ls) l = true := mayB_of hg hl1
  have hlab := labelsP_le (rowsOf ls) l
  have hlab2 : l.length * (rowsOf ls).flatten.length ≤ 2000 * 8000 := Nat.mul_le_mul hl2 h8
  have hsG : s < t.G.length := by
    have := (List.getElem?_eq_some_iff.1 hsl).1
    simpa [MkS.sets] using this
  -- the set
  have hget : ∀ t' : MkS, t'.sets[s]? = some l → s < t'.G.length → ∃ g ∈ t'.G, nthAt (eSl Int).dflt (t'.G.map slOf) s = slOf g ∧ g.2 = l := by
    intro t' h1 h2
    refine ⟨t'.G[s], List.getElem_mem h2, ?_, ?_⟩
    · rw [nthAt_get (by simpa using h2)]; simp
    · have := h1
      simp only [MkS.sets, List.getElem?_map, List.getElem?_eq_getElem h2, Option.map_some, Option.some.injEq] at this
      exact this
  obtain ⟨ma, mp, ss, es, ps, G, R⟩ := t
  have ht0 := ht
  obtain ⟨hss, hes, hps, hgg, hrr, hlen, hsm, hsets⟩ := ht
  obtain ⟨g, hgG, hg1, hg2⟩ := hget _ hsl hsG
  have hG1 : (G.map slOf).length = G.length := List.length_map _
  simp only at hss hes hps hgg hrr hlen hsm hgG hg1 hsG
  refine J.perm (L' := MkS.parts ⟨ma, mp, ss, es, ps, G, R⟩ (.slice a ls.length c) most) (by simp [MkS.all]) ?_
  simp only [MkS.parts, MkS.box]
  repeat' (first | rfl | assumption | (apply stp tt_ok; constructor) | exact Rng.mk (by omega) (by omega) | exact Bd.mk (by first | omega | (refine Nat.lt_of_lt_of_le (show _ < 1 by decide) ?_; first | omega | (rw [List.length_replicate]; omega)) | (refine Nat.lt_of_lt_of_le (show _ < 2 by decide) ?_; first | omega | (rw [List.length_replicate]; omega)) | (simp only [List.length_cons, List.length_nil]; omega)) | refine J.draw (by assumption) follows_ok (by kernel_rfl) (by decide +kernel) (by decide +kernel) ?_ | refine J.done ⟨rfl, rfl, rfl, ?_⟩ | constructor | (intro _; exfalso; omega) | intro _)
  rw [hg1]
  repeat' (first | rfl | assumption | (apply stp tt_ok; constructor) | exact Rng.mk (by omega) (by omega) | exact Bd.mk (by first | omega | (refine Nat.lt_of_lt_of_le (show _ < 1 by decide) ?_; first | omega | (rw [List.length_replicate]; omega)) | (refine Nat.lt_of_lt_of_le (show _ < 2 by decide) ?_; first | omega | (rw [List.length_replicate]; omega)) | (simp only [List.length_cons, List.length_nil]; omega)) | refine J.draw (by assumption) follows_ok (by kernel_rfl) (by decide +kernel) (by decide +kernel) ?_ | refine J.done ⟨rfl, rfl, rfl, ?_⟩ | constructor | (intro _; exfalso; omega) | intro _)
  subst hg2
  refine CallJ.lendR (s := segs G) (R := _) (.there (.there (.there (.there (.there .here))))) (fun hle hnd => f55_ok U _ (l := g.2) (hr.mono hle) (isSl_segs hgg hnd (fun _ => rfl) hgG (by omega)) hmay hl2) ?_
  rintro v lb ⟨rfl, hlb⟩
  repeat' (first | rfl | assumption | (apply stp tt_ok; constructor) | exact Rng.mk (by omega) (by omega) | exact Bd.mk (by first | omega | (refine Nat.lt_of_lt_of_le (show _ < 1 by decide) ?_; first | omega | (rw [List.length_replicate]; omega)) | (refine Nat.lt_of_lt_of_le (show _ < 2 by decide) ?_; first | omega | (rw [List.length_replicate]; omega)) | (simp only [List.length_cons, List.length_nil]; omega)) | refine J.draw (by assumption) follows_ok (by kernel_rfl) (by decide +kernel) (by decide +kernel) ?_ | refine J.done ⟨rfl, rfl, rfl, ?_⟩ | constructor | (intro _; exfalso; omega) | intro _)
  refine J.freezeRd hlb .here (fun _ => rfl) (by omega) fun N hN hfl => ?_
  clear hlb
  have hfll := hfl.len
  generalize segA lb = la at *
  generalize segC lb = lc at *
  have hpos : ∀ x ∈ labelsP (rowsOf ls) g.2, 0 ≤ x := fun x hx => labelsP_nonneg hg hx
  have hrN := hr.mono hN
  have houtN := hrN.out
  generalize hlabs : labelsP (rowsOf ls) g.2 = labs at *
  repeat' (first | rfl | assumption | (apply stp tt_ok; constructor) | exact Rng.mk (by omega) (by omega) | exact Bd.mk (by first | omega | (refine Nat.lt_of_lt_of_le (show _ < 1 by decide) ?_; first | omega | (rw [List.length_replicate]; omega)) | (refine Nat.lt_of_lt_of_le (show _ < 2 by decide) ?_; first | omega | (rw [List.length_replicate]; omega)) | (simp only [List.length_cons, List.length_nil]; omega)) | refine J.draw (by assumption) follows_ok (by kernel_rfl) (by decide +kernel) (by decide +kernel) ?_ | refine J.done ⟨rfl, rfl, rfl, ?_⟩ | constructor | (intro _; exfalso; omega) | intro _)
  refine J.keep [28, 27, 26, 1, 0] rfl ?_
  refine J.forN labs.length (fun k E L => ∃ (t' : MkS) (row : List P2), E = [(28, .int .i64 (k : Int)), (27, .int .i64 labs.length), (26, .slice la labs.length lc), (1, .int .i64 (s : Int)), (0, .pointer (some ⟨ma, 0, none⟩))] ∧
    L = t'.parts (.slice a ls.length c) most ∧ t'.Ok ∧ t'.ma = ma ∧ t'.mp = mp ∧ SetsIn (rowsOf ls) t'.sets ∧ t'.sets[s]? = some g.2 ∧ t'.R.map (·.2) = Ed ++ row :: List.replicate (t'.R.length - s - 1) [] ∧
    flP (rowsOf ls) most g.2 labs (MkS.sets ⟨ma, mp, ss, es, ps, G, R⟩) [] = flP (rowsOf ls) most g.2 (labs.drop k) t'.sets row ∧ row.length = k)
    ⟨⟨ma, mp, ss, es, ps, G, R⟩, [], rfl, rfl, ht0, rfl, rfl, hS, hsl, hR, rfl, rfl⟩ ?_
  generalize flP (rowsOf ls) most g.2 labs (MkS.sets ⟨ma, mp, ss, es, ps, G, R⟩) [] = whole
  clear hss hes hps hgg hrr hlen hsm hsets hgG hg1 hG1 hS hsl hR ht0 hlS hsG
  rintro k E L hk' ⟨⟨ma', mp', ss, es, ps, G, R⟩, row, rfl, rfl, ht, rfl, rfl, hS, hsl, hR, hw, hrk⟩ ih
  by_cases hlt : k < labs.length
  · have hsG : s < G.length := by
      have := (List.getElem?_eq_some_iff.1 hsl).1
      simpa [MkS.sets] using this
    obtain ⟨g', hgG, hg1, hg2⟩ := hget _ hsl hsG
    have ht0 := ht
    obtain ⟨hss, hes, hps, hgg, hrr, hlen, hsm, hsets⟩ := ht
    have hG1 : (G.map slOf).length = G.length := List.length_map _
    simp only at hss hes hps hgg hrr hlen hsm hgG hg1 hsG
    have hlabk : 0 ≤ nthAt eI.dflt labs k := hpos _ (List.mem_of_getElem? (nthAt_lt hlt))
    simp only [MkS.parts, MkS.box]
    repeat' (first | rfl | assumption | (apply stp tt_ok; constructor) | exact Rng.mk (by omega) (by omega) | exact Bd.mk (by first | omega | (refine Nat.lt_of_lt_of_le (show _ < 1 by decide) ?_; first | omega | (rw [List.length_replicate]; omega)) | (refine Nat.lt_of_lt_of_le (show _ < 2 by decide) ?_; first | omega | (rw [List.length_replicate]; omega)) | (simp only [List.length_cons, List.length_nil]; omega)) | refine J.draw (by assumption) follows_ok (by kernel_rfl) (by decide +kernel) (by decide +kernel) ?_ | refine J.done ⟨rfl, rfl, rfl, ?_⟩ | constructor | (intro _; exfalso; omega) | intro _)
    rw [hg1]
    repeat' (first | rfl | assumption | (apply stp tt_ok; constructor) | exact Rng.mk (by omega) (by omega) | exact Bd.mk (by first | omega | (refine Nat.lt_of_lt_of_le (show _ < 1 by decide) ?_; first | omega | (rw [List.length_replicate]; omega)) | (refine Nat.lt_of_lt_of_le (show _ < 2 by decide) ?_; first | omega | (rw [List.length_replicate]; omega)) | (simp only [List.length_cons, List.length_nil]; omega)) | refine J.draw (by assumption) follows_ok (by kernel_rfl) (by decide +kernel) (by decide +kernel) ?_ | refine J.done ⟨rfl, rfl, rfl, ?_⟩ | constructor | (intro _; exfalso; omega) | intro _)
    refine CallJ.lendR (s := segs G) (R := _) (.there (.there (.there (.there (.there .here))))) (fun hle hnd => f56_ok U _ (l := g'.2) (hrN.mono hle) (isSl_segs hgg hnd (fun _ => rfl) hgG (by rw [hg2]; omega)) (by rw [hg2]; exact hmay) (by rw [hg2]; exact hl2) hlabk) ?_
    rintro v tl ⟨out, rfl, hto, hset, hole⟩
    rw [hg2] at hset
    have hcl : stepP (rowsOf ls) g.2 (nthAt eI.dflt labs k) = out := closeP_eq hset
    have hdrop : labs.drop k = nthAt eI.dflt labs k :: labs.drop (k + 1) := by rw [List.drop_eq_getElem_cons hlt, nthAt_get hlt]
    rw [hdrop] at hw
    simp only [flP, hcl] at hw
    have hinS : ∀ x ∈ out, 0 ≤ x ∧ x < (rowsOf ls).length := fun x hx => Reach.in (gather_in hg _ _) ((hset.mem x).1 hx)
    clear hg1
    repeat' (first | rfl | assumption | (apply stp tt_ok; constructor) | exact Rng.mk (by omega) (by omega) | exact Bd.mk (by first | omega | (refine Nat.lt_of_lt_of_le (show _ < 1 by decide) ?_; first | omega | (rw [List.length_replicate]; omega)) | (refine Nat.lt_of_lt_of_le (show _ < 2 by decide) ?_; first | omega | (rw [List.length_replicate]; omega)) | (simp only [List.length_cons, List.length_nil]; omega)) | refine J.draw (by assumption) follows_ok (by kernel_rfl) (by decide +kernel) (by decide +kernel) ?_ | refine J.done ⟨rfl, rfl, rfl, ?_⟩ | constructor | (intro _; exfalso; omega) | intro _)
    refine CallJ.mk (l0 := MkS.all ⟨ma', mp', ss, es, ps, G, R⟩ (.slice a ls.length c) most ++ tl) (R := []) ?_ (f26_ok U N hrN (hT.mono hN) ⟨ma', mp', ss, es, ps, G, R⟩ ht0 hto (mayB_of hg hinS) hole hm) ?_ ?_
    · simp only [List.flatten_cons, List.flatten_nil, List.append_nil]
      exact List.perm_append_comm.trans (List.Perm.of_eq (by simp [MkS.all, MkS.parts, MkS.box]))
    · intro v l' hpost
      cases hst : stP most (MkS.sets ⟨ma', mp', ss, es, ps, G, R⟩) out with
      | none => rw [hst] at hpost; cases hpost
      | some p =>
        obtain ⟨i, S⟩ := p
        rw [hst] at hpost hw
        obtain ⟨hv, ⟨ma2, mp2, ss2, es2, ps2, G2, R2⟩, ht2, rfl, hma, hmp, hSS, hGR⟩ := hpost
        cases hv
        simp only [MkS.sets] at hma hmp hSS hGR hS hsl hR
        subst hma
        subst hmp
        obtain ⟨hS2, hsl2, hR2⟩ := grown (G := G) (G2 := G2) (R := R) (R2 := R2) hGR hS hsl hR hEd hinS hole
        obtain ⟨RA, rs, RB, hRR, hRA⟩ := splitAt hR2
        subst hRR
        clear hGR
        clear hss hes hps hgg hrr hlen hsm hsets hgG hsG ht0 hS hsl hR hset hto
        have hRAl : RA.length = s := by rw [← hEd, ← hRA, List.length_map]
        obtain ⟨hss, hes, hps, hgg, hrr, hlen, hsm, hsets⟩ := ht2
        simp only at hss hes hps hgg hrr hlen hsm
        have hrs : Own 48 eP rs row := hrr (rs, row) (by simp)
        have hes2 : ∃ ide, es2 = [(ide, .row (((RA ++ (rs, row) :: RB).map slOf).flatMap (eSl P2).enc) 46 .opn)] := by
          rcases hes with ⟨_, h⟩ | ⟨ide, h, _⟩
          · simp at h
          · exact ⟨ide, h⟩
        obtain ⟨ide, rfl⟩ := hes2
        have hnth : nthAt (eSl P2).dflt ((RA ++ (rs, row) :: RB).map slOf) s = ⟨segA rs, segC rs, row⟩ := by
          rw [nthAt_get (by simp [hRAl])]
          simp [← hRAl, slOf]
        have hRl : s < ((RA ++ (rs, row) :: RB).map slOf).length := by simp [hRAl]
        generalize hspine : (RA ++ (rs, row) :: RB).map slOf = spine at *
        refine J.perm (L' := [[(ma2, .row [.slice a ls.length c, .int .i64 most, .slice (segA ss2) (G2.map slOf).length (segC ss2), .map (some mp2), .slice (some ⟨ide, 0, none⟩) spine.length OPEN, .slice (segA ps2) (G2.map fun g => endsB g.2).length (segC ps2)] 68 .fixed)], ss2, [(mp2, .map (kvs Value.string (knownOf S 0)))], [(ide, .row (spine.flatMap (eSl P2).enc) 46 .opn)], ps2, segs G2, segs RA, rs, segs RB]) (List.Perm.of_eq ?_) ?_
        · rw [← hSS, ← hspine]
          simp only [MkS.all, MkS.parts, MkS.box, MkS.sets, MkS.pops, segs_app, List.flatten_cons, List.flatten_nil, List.append_nil, List.cons_append, List.nil_append]
          simp [segs, segA, segC]
        repeat' (first | rfl | assumption | (apply stp tt_ok; constructor) | exact Rng.mk (by omega) (by omega) | exact Bd.mk (by first | omega | (refine Nat.lt_of_lt_of_le (show _ < 1 by decide) ?_; first | omega | (rw [List.length_replicate]; omega)) | (refine Nat.lt_of_lt_of_le (show _ < 2 by decide) ?_; first | omega | (rw [List.length_replicate]; omega)) | (simp only [List.length_cons, List.length_nil]; omega)) | refine J.draw (by assumption) follows_ok (by kernel_rfl) (by decide +kernel) (by decide +kernel) ?_ | refine J.done ⟨rfl, rfl, rfl, ?_⟩ | constructor | (intro _; exfalso; omega) | intro _)
        refine J.keep [28, 27, 26, 10, 7, 1, 0] rfl ?_
        refine J.drawS tt_ok 18 [4] hn follows_ok (by kernel_rfl) (by decide +kernel) (by decide +kernel) rfl rfl rfl ?_
        repeat' (first | rfl | assumption | (apply stp tt_ok; constructor) | exact Rng.mk (by omega) (by omega) | exact Bd.mk (by first | omega | (refine Nat.lt_of_lt_of_le (show _ < 1 by decide) ?_; first | omega | (rw [List.length_replicate]; omega)) | (refine Nat.lt_of_lt_of_le (show _ < 2 by decide) ?_; first | omega | (rw [List.length_replicate]; omega)) | (simp only [List.length_cons, List.length_nil]; omega)) | refine J.draw (by assumption) follows_ok (by kernel_rfl) (by decide +kernel) (by decide +kernel) ?_ | refine J.done ⟨rfl, rfl, rfl, ?_⟩ | constructor | (intro _; exfalso; omega) | intro _)
        rw [hnth]
        refine AppJ.o hrs rfl (by repeat' (first | rfl | assumption | constructor)) (by repeat' (first | rfl | assumption | constructor)) (fun _ => rfl) (fun _ => rfl) rfl (Bd.mk (by simp only [List.length_cons, List.length_nil]; omega)) ?_
        intro s' hs'
        repeat' (first | rfl | assumption | (apply stp tt_ok; constructor) | exact Rng.mk (by omega) (by omega) | exact Bd.mk (by first | omega | (refine Nat.lt_of_lt_of_le (show _ < 1 by decide) ?_; first | omega | (rw [List.length_replicate]; omega)) | (refine Nat.lt_of_lt_of_le (show _ < 2 by decide) ?_; first | omega | (rw [List.length_replicate]; omega)) | (simp only [List.length_cons, List.length_nil]; omega)) | refine J.draw (by assumption) follows_ok (by kernel_rfl) (by decide +kernel) (by decide +kernel) ?_ | refine J.done ⟨rfl, rfl, rfl, ?_⟩ | constructor | (intro _; exfalso; omega) | intro _)
        have hlenR : (RA ++ (rs, row) :: RB).length = (RA ++ (s', row ++ [(nthAt eI.dflt labs k, (i : Int))]) :: RB).length := by simp
        refine J.sel [1, 1, 1, 1, 1, 1, 1, 1, 1] rfl ?_
        refine J.perm (L' := MkS.parts ⟨ma2, mp2, ss2, [(ide, .row ((spine.set s ⟨segA s', segC s', row ++ [(nthAt eI.dflt labs k, (i : Int))]⟩).flatMap (eSl P2).enc) 46 .opn)], ps2, G2, RA ++ (s', row ++ [(nthAt eI.dflt labs k, (i : Int))]) :: RB⟩ (.slice a ls.length c) most) (List.Perm.of_eq ?_) ?_
        · rw [← hSS]
          simp only [MkS.parts, MkS.box, MkS.sets, MkS.pops, segs_app, List.flatten_cons, List.flatten_nil, List.append_nil, List.cons_append, List.nil_append, List.length_map, ← hlenR, ← hspine]
          simp [segs, segA, segC]
        refine J.keep [28, 27, 26, 1, 0] rfl (ih hlt _ _ ⟨_, row ++ [(nthAt eI.dflt labs k, (i : Int))], rfl, rfl, ⟨hss, ?_, hps, hgg, ?_, ?_, hsm, hsets⟩, rfl, rfl, ?_, ?_, ?_, ?_, ?_⟩)
        · simp only
          refine .inr ⟨ide, ?_, by simp⟩
          rw [← hspine, List.map_append, List.map_cons, ← hRAl]
          simp [slOf]
        · intro x hx
          simp only [List.mem_append, List.mem_cons] at hx
          rcases hx with hx | rfl | hx
          · exact hrr x (by simp [hx])
          · exact hs'
          · exact hrr x (by simp [hx])
        · simp only; rw [← hlenR]; exact hlen
        · exact hS2
        · exact hsl2
        · simp only [List.map_append, List.map_cons, hRA, List.length_append, List.length_cons] at hR2 ⊢
          have := List.append_cancel_left hR2
          rw [List.cons.injEq] at this
          rw [this.2]
        · rw [hw]; simp only [MkS.sets, hSS]
        · simp [hrk]
    · intro v l' hpost
      cases hst : stP most (MkS.sets ⟨ma', mp', ss, es, ps, G, R⟩) out with
      | some p => rw [hst] at hpost; cases hpost.1
      | none =>
        rw [hst] at hpost hw
        cases hpost
        subst hw
        exact Lv.pan (R := []) (l' := l') (by simp) rfl
  · clear ih
    have hdk : labs.drop k = [] := List.drop_eq_nil_of_le (by omega)
    rw [hdk] at hw
    subst hw
    simp only [flP]
    repeat' (first | rfl | assumption | (apply stp tt_ok; constructor) | exact Rng.mk (by omega) (by omega) | exact Bd.mk (by first | omega | (refine Nat.lt_of_lt_of_le (show _ < 1 by decide) ?_; first | omega | (rw [List.length_replicate]; omega)) | (refine Nat.lt_of_lt_of_le (show _ < 2 by decide) ?_; first | omega | (rw [List.length_replicate]; omega)) | (simp only [List.length_cons, List.length_nil]; omega)) | refine J.draw (by assumption) follows_ok (by kernel_rfl) (by decide +kernel) (by decide +kernel) ?_ | refine J.done ⟨rfl, rfl, rfl, ?_⟩ | constructor | (intro _; exfalso; omega) | intro _)
    refine J.done (Lv.ret tt_ok rfl .nil rfl (l' := MkS.all ⟨ma', mp', ss, es, ps, G, R⟩ (.slice a ls.length c) most) (R := []) (by simp [MkS.all]) ⟨rfl, ⟨ma', mp', ss, es, ps, G, R⟩, ht, rfl, rfl, rfl, rfl, hS, hR⟩)
end
end Go.Proofs.YtmlgmgjakhbhjaaGreatDoor.Ab

/- Walks, 1: places in slices; what edges may be. Walks, 2: the statements' helpers: what is alike. Walks, 3: numbers in slices; may states be a net's? Plain laws, 1: what edges by nothing lead to; sets as rising lists. Walks, 4: states by edges by nothing. Walks, 5: close.closed. -/
import Derived.Test.YtmlgmgjakhbhjaaGreatDoorZJ4
import Derived.Lib.ItoaNum
import Derived.Lib.SlicesCompact
namespace Go.Proofs.YtmlgmgjakhbhjaaGreatDoor.Ab
open Go Go.Proofs
noncomputable section
attribute [local irreducible] J Con Lv CallJ
abbrev HKT := FuncId → Option (List Value → Heap → AEnd)
/-- Rising. -/
def sortI (l : List Int) : List Int := l.mergeSort fun x y => decide (x ≤ y)
/-- A set's name. -/
def keyL (l : List Int) : List UInt8 := l.flatMap fun x => Lib.itoa x ++ [32]
def keyS (l : List Int) : ByteArray := ⟨(keyL l).toArray⟩
/-- The powers of ten stand (global 0). -/
def TabM (M : Imm) : Prop := ∃ t, M 0 = some (Lib.pow10Tab.map (Value.int .u64), t)
theorem TabM.mono {M N : Imm} (h : TabM M) (hm : MLe M N) : TabM N := let ⟨t, ht⟩ := h; ⟨t, hm _ _ ht⟩
/-- The functions that hooks stand for. -/
def hooked (f : Nat) : Bool := Nat.beq f 8 || Nat.beq f 94 || Nat.beq f 53 || Nat.beq f 97
/-- What is asked of the hooks. -/
structure HkU (hk : HKT) : Prop where
  n : HkN hk
  no : ∀ f, hooked f = false → hk f = none
  sort : ∀ (M : Imm) (s : Seg) (l : List Int), Own 3 eI s l → l.length ≤ 1099511627776 → Con Tryz.prog hk 94 [.slice (segA s) l.length (segC s)] M s
    (Returns fun v l' => v = .tuple ⟨[]⟩ ∧ Own 3 eI l' (sortI l) ∧ segA l' = segA s ∧ segC l' = segC s)
  compact : ∀ (M : Imm) (s : Seg) (l : List Int), Own 3 eI s l → l.length ≤ 1099511627776 → Con Tryz.prog hk 97 [.slice (segA s) l.length (segC s)] M s
    (Returns fun v l' => v = .slice (segA l') (Lib.compact l).length (segC l') ∧ RdS 3 eI l' (Lib.compact l))
  key : ∀ (M : Imm), TabM M → ∀ (a : Option Addr) (c : Nat) (l : List Int), IsSl M eI a l → l.length ≤ 2000 → (∀ x ∈ l, 0 ≤ x ∧ x ≤ 2000) → Con Tryz.prog hk 53 [.slice a l.length c] M [] (Gives (.string (keyS l)) [])

/-- The first place from k on where p holds. -/
def idxB {α : Type} (p : α → Bool) : List α → Nat → Int
  | [], _ => -1
  | x :: l, k => if p x then (k : Int) else idxB p l (k + 1)
theorem nthAt_get {α : Type} {d : α} {l : List α} {k : Nat} (h : k < l.length) : nthAt d l k = l[k] := by
  have := nthAt_lt (d := d) h; rw [List.getElem?_eq_getElem h] at this; exact (Option.some.inj this).symm
theorem idxB_drop {α : Type} (d : α) (p : α → Bool) (l : List α) (k : Nat) (h : k < l.length) : idxB p (l.drop k) k = if p (nthAt d l k) then (k : Int) else idxB p (l.drop (k + 1)) (k + 1) := by
  rw [List.drop_eq_getElem_cons h, nthAt_get h]; rfl
theorem idxB_any {α : Type} (p : α → Bool) : ∀ (l : List α) (k : Nat), decide (0 ≤ idxB p l k) = l.any p
  | [], _ => rfl
  | x :: l, k => by
    simp only [idxB, List.any_cons]
    by_cases h : p x = true
    · simp [h]
    · simp only [h, if_false, Bool.false_or, Bool.false_eq_true]; exact idxB_any p l (k + 1)

/- IndexFunc over edges -/
theorem f34_ok {hk : HKT} (U : HkU hk) (M : Imm) {a : Option Addr} {c : Nat} {l : List P2} {fc : FuncId} {cap : List Value} {l0 : Seg} {p : P2 → Bool} (hl : IsSl M eP a l)
    (hc : ∀ x, Con Tryz.prog hk fc (.agg ⟨eP.enc x⟩ :: cap) M l0 (Gives (.bool (p x)) l0)) :
    Con Tryz.prog hk 34 [.slice a l.length c, .func (.func fc) #[] ⟨cap⟩] M l0 (Gives (.int .i64 (idxB p l 0)) l0) := by
  refine Con.of_body (U.no 34 rfl) Tryz.func34 rfl rfl Tryz.ntmps34 rfl rfl ?_
  have hlen := hl.len
  repeat' (first | rfl | assumption | (apply stp tt_ok; constructor) | exact Rng.mk (by omega) (by omega) | exact Bd.mk (by first | omega | (refine Nat.lt_of_lt_of_le (show _ < 1 by decide) ?_; first | omega | (rw [List.length_replicate]; omega)) | (refine Nat.lt_of_lt_of_le (show _ < 2 by decide) ?_; first | omega | (rw [List.length_replicate]; omega)) | (simp only [List.length_cons, List.length_nil]; omega)) | refine J.draw (by assumption) follows_ok (by kernel_rfl) (by decide +kernel) (by decide +kernel) ?_ | refine J.done ⟨rfl, rfl, rfl, ?_⟩ | constructor | (intro _; exfalso; omega) | intro _)
  refine J.keep [8, 7, 0, 1] rfl ?_
  refine J.forN l.length (fun k E L => E = [(8, .int .i64 (k : Int)), (7, .int .i64 l.length), (0, .slice a l.length c), (1, .func (.func fc) #[] ⟨cap⟩)] ∧ L = [l0] ∧ idxB p (l.drop k) k = idxB p l 0) ⟨rfl, rfl, rfl⟩ ?_
  rintro k E L hk ⟨rfl, rfl, hi⟩ ih
  repeat' (first | rfl | assumption | (apply stp tt_ok; constructor) | exact Rng.mk (by omega) (by omega) | exact Bd.mk (by first | omega | (refine Nat.lt_of_lt_of_le (show _ < 1 by decide) ?_; first | omega | (rw [List.length_replicate]; omega)) | (refine Nat.lt_of_lt_of_le (show _ < 2 by decide) ?_; first | omega | (rw [List.length_replicate]; omega)) | (simp only [List.length_cons, List.length_nil]; omega)) | refine J.draw (by assumption) follows_ok (by kernel_rfl) (by decide +kernel) (by decide +kernel) ?_ | refine J.done ⟨rfl, rfl, rfl, ?_⟩ | constructor | (intro _; exfalso; omega) | intro _)
  · have hd := idxB_drop eP.dflt p l k (by omega)
    have hcx := hc (nthAt eP.dflt l k)
    cases hb : p (nthAt eP.dflt l k)
    all_goals
      rw [hb] at hcx hd
      refine CallJ.same .here hcx ?_
      repeat' (first | rfl | assumption | (apply stp tt_ok; constructor) | exact Rng.mk (by omega) (by omega) | exact Bd.mk (by first | omega | (refine Nat.lt_of_lt_of_le (show _ < 1 by decide) ?_; first | omega | (rw [List.length_replicate]; omega)) | (refine Nat.lt_of_lt_of_le (show _ < 2 by decide) ?_; first | omega | (rw [List.length_replicate]; omega)) | (simp only [List.length_cons, List.length_nil]; omega)) | refine J.draw (by assumption) follows_ok (by kernel_rfl) (by decide +kernel) (by decide +kernel) ?_ | refine J.done ⟨rfl, rfl, rfl, ?_⟩ | constructor | (intro _; exfalso; omega) | intro _)
    · refine J.keep [8, 7, 0, 1] rfl (ih (by omega) _ _ ⟨rfl, rfl, by simpa [hd] using hi⟩)
    · refine J.give tt_ok rfl (.cons (.tmp rfl) .nil) .here ?_
      rw [← hi, hd]; rfl
  · obtain rfl : k = l.length := by omega
    refine J.give tt_ok rfl (.cons (.tmp rfl) .nil) .here ?_
    rw [← hi]; simp [idxB, resV]
/- ContainsFunc over edges -/
theorem f49_ok {hk : HKT} (U : HkU hk) (M : Imm) {a : Option Addr} {c : Nat} {l : List P2} {fc : FuncId} {cap : List Value} {l0 : Seg} {p : P2 → Bool} (hl : IsSl M eP a l)
    (hc : ∀ x, Con Tryz.prog hk fc (.agg ⟨eP.enc x⟩ :: cap) M l0 (Gives (.bool (p x)) l0)) :
    Con Tryz.prog hk 49 [.slice a l.length c, .func (.func fc) #[] ⟨cap⟩] M l0 (Gives (.bool (l.any p)) l0) := by
  refine Con.of_body (U.no 49 rfl) Tryz.func49 rfl rfl Tryz.ntmps49 rfl rfl ?_
  repeat' (first | rfl | assumption | (apply stp tt_ok; constructor) | exact Rng.mk (by omega) (by omega) | exact Bd.mk (by first | omega | (refine Nat.lt_of_lt_of_le (show _ < 1 by decide) ?_; first | omega | (rw [List.length_replicate]; omega)) | (refine Nat.lt_of_lt_of_le (show _ < 2 by decide) ?_; first | omega | (rw [List.length_replicate]; omega)) | (simp only [List.length_cons, List.length_nil]; omega)) | refine J.draw (by assumption) follows_ok (by kernel_rfl) (by decide +kernel) (by decide +kernel) ?_ | refine J.done ⟨rfl, rfl, rfl, ?_⟩ | constructor | (intro _; exfalso; omega) | intro _)
  refine CallJ.same .here (f34_ok U M hl hc) ?_
  repeat' (first | rfl | assumption | (apply stp tt_ok; constructor) | exact Rng.mk (by omega) (by omega) | exact Bd.mk (by first | omega | (refine Nat.lt_of_lt_of_le (show _ < 1 by decide) ?_; first | omega | (rw [List.length_replicate]; omega)) | (refine Nat.lt_of_lt_of_le (show _ < 2 by decide) ?_; first | omega | (rw [List.length_replicate]; omega)) | (simp only [List.length_cons, List.length_nil]; omega)) | refine J.draw (by assumption) follows_ok (by kernel_rfl) (by decide +kernel) (by decide +kernel) ?_ | refine J.done ⟨rfl, rfl, rfl, ?_⟩ | constructor | (intro _; exfalso; omega) | intro _)
  all_goals refine J.give tt_ok rfl (.cons (.tmp rfl) .nil) .here ?_
  all_goals rw [← idxB_any p l 0]
  · exact bT (by assumption)
  · exact bF (by assumption)

/-- May an edge be, among so many states? -/
def eBad (st : Int) (x : P2) : Bool := decide (x.1 < -1 ∨ x.2 < 0 ∨ st ≤ x.2)
theorem f50_ok {hk : HKT} (U : HkU hk) (M : Imm) (x : P2) (st : Int) (id : Nat) :
    Con Tryz.prog hk 50 [.agg ⟨eP.enc x⟩, .pointer (some ⟨id, 0, none⟩)] M [(id, .row [.int .i64 st] 3 .fixed)] (Gives (.bool (eBad st x)) [(id, .row [.int .i64 st] 3 .fixed)]) := by
  refine Con.of_body (U.no 50 rfl) Tryz.func50 rfl rfl Tryz.ntmps50 rfl rfl ?_
  obtain ⟨x, y⟩ := x
  repeat' (first | rfl | assumption | (apply stp tt_ok; constructor) | exact Rng.mk (by omega) (by omega) | exact Bd.mk (by first | omega | (refine Nat.lt_of_lt_of_le (show _ < 1 by decide) ?_; first | omega | (rw [List.length_replicate]; omega)) | (refine Nat.lt_of_lt_of_le (show _ < 2 by decide) ?_; first | omega | (rw [List.length_replicate]; omega)) | (simp only [List.length_cons, List.length_nil]; omega)) | refine J.draw (by assumption) follows_ok (by kernel_rfl) (by decide +kernel) (by decide +kernel) ?_ | refine J.done ⟨rfl, rfl, rfl, ?_⟩ | constructor | (intro _; exfalso; omega) | intro _)
  all_goals refine J.give tt_ok rfl (.cons (.tmp rfl) .nil) (.there .here) ?_
  all_goals first | exact bT (by simp only; omega) | exact bF (by simp only; omega)

/-- May a net be? -/
def netGood (n : List (List P2)) : Bool := decide (2 ≤ n.length ∧ n.length ≤ 2000) && n.all (fun r => !r.any (eBad n.length)) && decide (n.flatten.length ≤ 8000)

theorem flat_le {α : Type} (B : Nat) : ∀ (l : List (List α)), (∀ r ∈ l, r.length ≤ B) → l.flatten.length ≤ l.length * B
  | [], _ => by simp
  | r :: l, h => by
    have h1 := h r (.head _)
    have h2 := flat_le B l fun x hx => h x (.tail _ hx)
    simp only [List.flatten_cons, List.length_append, List.length_cons, Nat.succ_mul]
    omega
theorem flat_take {α : Type} (l : List (List α)) (k : Nat) (h : k < l.length) : (l.take (k + 1)).flatten.length = (l.take k).flatten.length + (nthAt [] l k).length := by
  rw [List.take_succ_eq_append_getElem h, nthAt_get h, List.flatten_append, List.length_append]
  simp only [List.flatten_cons, List.flatten_nil, List.append_nil]
theorem take_all {α : Type} {d : α} {p : α → Bool} {l : List α} {k : Nat} (h : k < l.length) : (l.take (k + 1)).all p = ((l.take k).all p && p (nthAt d l k)) := by
  rw [List.take_succ_eq_append_getElem h, nthAt_get h, List.all_append]
  simp only [List.all_cons, List.all_nil, Bool.and_true]
theorem all_false {α : Type} {d : α} {p : α → Bool} {l : List α} {k : Nat} (h : k < l.length) (hp : p (nthAt d l k) = false) : l.all p = false := by
  rw [nthAt_get h] at hp
  rw [List.all_eq_false]
  exact ⟨_, List.getElem_mem h, by rw [hp]; simp⟩

theorem f23_ok {hk : HKT} (U : HkU hk) (M : Imm) {a : Option Addr} {c : Nat} {ls : List (SlOf P2)} (hr : Rows M eP a ls) :
    Con Tryz.prog hk 23 [.agg ⟨[.slice a ls.length c]⟩] M [] (Gives (.bool (netGood (rowsOf ls))) []) := by
  refine Con.of_body (U.no 23 rfl) Tryz.func23 rfl rfl Tryz.ntmps23 rfl rfl ?_
  have hout := hr.out
  have hlen := hout.len
  have hfl : ((rowsOf ls)).flatten.length ≤ ls.length * 1099511627776 := by
    have := flat_le 1099511627776 (rowsOf ls) (fun r hr' => by
      simp only [rowsOf, List.mem_map] at hr'
      obtain ⟨x, hx, rfl⟩ := hr'
      exact (hr.inn x hx).len)
    simpa using this
  repeat' (first | rfl | assumption | (apply stp tt_ok; constructor) | exact Rng.mk (by omega) (by omega) | exact Bd.mk (by first | omega | (refine Nat.lt_of_lt_of_le (show _ < 1 by decide) ?_; first | omega | (rw [List.length_replicate]; omega)) | (refine Nat.lt_of_lt_of_le (show _ < 2 by decide) ?_; first | omega | (rw [List.length_replicate]; omega)) | (simp only [List.length_cons, List.length_nil]; omega)) | refine J.draw (by assumption) follows_ok (by kernel_rfl) (by decide +kernel) (by decide +kernel) ?_ | refine J.done ⟨rfl, rfl, rfl, ?_⟩ | constructor | (intro _; exfalso; omega) | intro _)
  · refine J.give0 tt_ok rfl (.cons (.tmp rfl) .nil) ?_
    unfold netGood; simp [resV]; omega
  · refine J.give0 tt_ok rfl (.cons (.tmp rfl) .nil) ?_
    unfold netGood; simp [resV]; omega
  rename_i id1 id3 h1 h2
  have hk2 : ls.length ≤ 2000 := by omega
  refine J.keep [19, 18, 17, 4, 3] rfl ?_
  refine J.forN ls.length (fun k E L => E = [(19, .int .i64 (k : Int)), (18, .int .i64 ls.length), (17, .slice a ls.length c), (4, .int .i64 (((rowsOf ls).take k).flatten.length : Nat)), (3, .pointer (some ⟨id3, 0, none⟩))] ∧
    L = [[(id3, .row [.int .i64 ls.length] 3 .fixed)], [(id1, .row [.slice a ls.length c] 24 .fixed)], []] ∧ ((rowsOf ls).take k).all (fun r => !r.any (eBad ls.length)) = true) ⟨rfl, rfl, rfl⟩ ?_
  rintro k E L hk' ⟨rfl, rfl, hi⟩ ih
  have hin := hr.at k
  have hil := hin.len
  have hrn := rowsOf_nth ls k
  by_cases hlt : k < ls.length
  · have hft := flat_take (rowsOf ls) k (by simpa using hlt)
    have hta := take_all (d := []) (p := fun r => !r.any (eBad ls.length)) (l := rowsOf ls) (k := k) (by simpa using hlt)
    have hfk := flat_le 1099511627776 ((rowsOf ls).take k) (fun r hr' => by
      have := List.mem_of_mem_take hr'
      simp only [rowsOf, List.mem_map] at this
      obtain ⟨x, hx, rfl⟩ := this
      exact (hr.inn x hx).len)
    have hfk2 : ((rowsOf ls).take k).length ≤ 2000 := by simp; omega
    rw [hrn] at hft hta
    repeat' (first | rfl | assumption | (apply stp tt_ok; constructor) | exact Rng.mk (by omega) (by omega) | exact Bd.mk (by first | omega | (refine Nat.lt_of_lt_of_le (show _ < 1 by decide) ?_; first | omega | (rw [List.length_replicate]; omega)) | (refine Nat.lt_of_lt_of_le (show _ < 2 by decide) ?_; first | omega | (rw [List.length_replicate]; omega)) | (simp only [List.length_cons, List.length_nil]; omega)) | refine J.draw (by assumption) follows_ok (by kernel_rfl) (by decide +kernel) (by decide +kernel) ?_ | refine J.done ⟨rfl, rfl, rfl, ?_⟩ | constructor | (intro _; exfalso; omega) | intro _)
    refine CallJ.same .here (f49_ok U M hin fun x => f50_ok U M x _ id3) ?_
    cases hb : (nthAt (eSl P2).dflt ls k).l.any (eBad ls.length)
    all_goals repeat' (first | rfl | assumption | (apply stp tt_ok; constructor) | exact Rng.mk (by omega) (by omega) | exact Bd.mk (by first | omega | (refine Nat.lt_of_lt_of_le (show _ < 1 by decide) ?_; first | omega | (rw [List.length_replicate]; omega)) | (refine Nat.lt_of_lt_of_le (show _ < 2 by decide) ?_; first | omega | (rw [List.length_replicate]; omega)) | (simp only [List.length_cons, List.length_nil]; omega)) | refine J.draw (by assumption) follows_ok (by kernel_rfl) (by decide +kernel) (by decide +kernel) ?_ | refine J.done ⟨rfl, rfl, rfl, ?_⟩ | constructor | (intro _; exfalso; omega) | intro _)
    · refine J.keep [19, 18, 17, 4, 3] rfl (ih hlt _ _ ⟨by rw [hft]; rfl, rfl, by rw [hta, hi, hb]; rfl⟩)
    · refine J.give0 tt_ok rfl (.cons (.tmp rfl) .nil) ?_
      have := all_false (d := []) (p := fun r => !r.any (eBad ls.length)) (l := rowsOf ls) (k := k) (by simpa using hlt) (by rw [hrn, hb]; rfl)
      unfold netGood; rw [rowsOf_length, this]; simp [resV]
  · have hkk : (rowsOf ls).take k = rowsOf ls := List.take_of_length_le (by simp; omega)
    rw [hkk] at hi
    repeat' (first | rfl | assumption | (apply stp tt_ok; constructor) | exact Rng.mk (by omega) (by omega) | exact Bd.mk (by first | omega | (refine Nat.lt_of_lt_of_le (show _ < 1 by decide) ?_; first | omega | (rw [List.length_replicate]; omega)) | (refine Nat.lt_of_lt_of_le (show _ < 2 by decide) ?_; first | omega | (rw [List.length_replicate]; omega)) | (simp only [List.length_cons, List.length_nil]; omega)) | refine J.draw (by assumption) follows_ok (by kernel_rfl) (by decide +kernel) (by decide +kernel) ?_ | refine J.done ⟨rfl, rfl, rfl, ?_⟩ | constructor | (intro _; exfalso; omega) | intro _)
    all_goals
      refine J.give0 tt_ok rfl (.cons (.tmp rfl) .nil) ?_
      rename_i hm
      rw [hkk] at hm
      unfold netGood; rw [rowsOf_length, hi]; simp [resV, -List.length_flatten]; omega
end
end Go.Proofs.YtmlgmgjakhbhjaaGreatDoor.Ab

namespace Go.Proofs.YtmlgmgjakhbhjaaGreatDoor.Ab
open Go Go.Proofs
noncomputable section
attribute [local irreducible] J Con Lv CallJ

theorem take_eq_succ {α : Type} {d : α} {l m : List α} {k : Nat} (h1 : k < l.length) (h2 : k < m.length) : l.take (k + 1) = m.take (k + 1) ↔ l.take k = m.take k ∧ nthAt d l k = nthAt d m k := by
  rw [List.take_succ_eq_append_getElem h1, List.take_succ_eq_append_getElem h2, nthAt_get h1, nthAt_get h2]
  constructor
  · intro h
    have := List.append_inj' h rfl
    exact ⟨this.1, by simpa using this.2⟩
  · rintro ⟨a, b⟩; rw [a, b]
theorem ne_of_nth {α : Type} {d : α} {l m : List α} {k : Nat} (h : nthAt d l k ≠ nthAt d m k) : l ≠ m := fun e => h (by rw [e])
theorem take_full {α : Type} {l m : List α} (hl : l.length = m.length) (h : l.take l.length = m.take l.length) : l = m := by
  rw [List.take_length, hl, List.take_length] at h; exact h

/- Are two rows of numbers alike? -/
theorem f31_ok {hk : HKT} (U : HkU hk) (M : Imm) {a b : Option Addr} {c d : Nat} {l m : List Int} (hl : IsSl M eI a l) (hm : IsSl M eI b m) :
    Con Tryz.prog hk 31 [.slice a l.length c, .slice b m.length d] M [] (Gives (.bool (decide (l = m))) []) := by
  refine Con.of_body (U.no 31 rfl) Tryz.func31 rfl rfl Tryz.ntmps31 rfl rfl ?_
  have hn := U.n
  have h1 := hl.len
  have h2 := hm.len
  repeat' (first | rfl | assumption | (apply stp tt_ok; constructor) | exact Rng.mk (by omega) (by omega) | exact Bd.mk (by first | omega | (refine Nat.lt_of_lt_of_le (show _ < 1 by decide) ?_; first | omega | (rw [List.length_replicate]; omega)) | (refine Nat.lt_of_lt_of_le (show _ < 2 by decide) ?_; first | omega | (rw [List.length_replicate]; omega)) | (simp only [List.length_cons, List.length_nil]; omega)) | refine J.draw (by assumption) follows_ok (by kernel_rfl) (by decide +kernel) (by decide +kernel) ?_ | refine J.done ⟨rfl, rfl, rfl, ?_⟩ | constructor | (intro _; exfalso; omega) | intro _)
  · rename_i he
    have he : l.length = m.length := by omega
    refine J.keep [5, 0, 1] rfl ?_
    refine J.forN l.length (fun k E L => E = [(5, .int .i64 (k : Int)), (0, .slice a l.length c), (1, .slice b m.length d)] ∧ L = [[]] ∧ l.take k = m.take k) ⟨rfl, rfl, by simp⟩ ?_
    rintro k E L hk' ⟨rfl, rfl, hi⟩ ih
    by_cases hlt : k < l.length
    · have ht := take_eq_succ (d := eI.dflt) hlt (he ▸ hlt)
      repeat' (first | rfl | assumption | (apply stp tt_ok; constructor) | exact Rng.mk (by omega) (by omega) | exact Bd.mk (by first | omega | (refine Nat.lt_of_lt_of_le (show _ < 1 by decide) ?_; first | omega | (rw [List.length_replicate]; omega)) | (refine Nat.lt_of_lt_of_le (show _ < 2 by decide) ?_; first | omega | (rw [List.length_replicate]; omega)) | (simp only [List.length_cons, List.length_nil]; omega)) | refine J.draw (by assumption) follows_ok (by kernel_rfl) (by decide +kernel) (by decide +kernel) ?_ | refine J.done ⟨rfl, rfl, rfl, ?_⟩ | constructor | (intro _; exfalso; omega) | intro _)
      · exact J.keep [5, 0, 1] rfl (ih hlt _ _ ⟨rfl, rfl, ht.2 ⟨hi, by assumption⟩⟩)
      · refine J.give0 tt_ok rfl (.cons (.tmp rfl) .nil) (bF (ne_of_nth (d := eI.dflt) (k := k) (by assumption)))
    · obtain rfl : k = l.length := by omega
      repeat' (first | rfl | assumption | (apply stp tt_ok; constructor) | exact Rng.mk (by omega) (by omega) | exact Bd.mk (by first | omega | (refine Nat.lt_of_lt_of_le (show _ < 1 by decide) ?_; first | omega | (rw [List.length_replicate]; omega)) | (refine Nat.lt_of_lt_of_le (show _ < 2 by decide) ?_; first | omega | (rw [List.length_replicate]; omega)) | (simp only [List.length_cons, List.length_nil]; omega)) | refine J.draw (by assumption) follows_ok (by kernel_rfl) (by decide +kernel) (by decide +kernel) ?_ | refine J.done ⟨rfl, rfl, rfl, ?_⟩ | constructor | (intro _; exfalso; omega) | intro _)
      refine J.give0 tt_ok rfl (.cons (.tmp rfl) .nil) (bT (take_full he hi))
  · rename_i he
    refine J.give0 tt_ok rfl (.cons (.tmp rfl) .nil) (bF fun e => ?_)
    subst e; exact he rfl

theorem f33_ok {hk : HKT} (U : HkU hk) (M : Imm) {a b : Option Addr} {c d : Nat} {l m : List Bool} (hl : IsSl M eB a l) (hm : IsSl M eB b m) :
    Con Tryz.prog hk 33 [.slice a l.length c, .slice b m.length d] M [] (Gives (.bool (decide (l = m))) []) := by
  refine Con.of_body (U.no 33 rfl) Tryz.func33 rfl rfl Tryz.ntmps33 rfl rfl ?_
  have hn := U.n
  have h1 := hl.len
  have h2 := hm.len
  repeat' (first | rfl | assumption | (apply stp tt_ok; constructor) | exact Rng.mk (by omega) (by omega) | exact Bd.mk (by first | omega | (refine Nat.lt_of_lt_of_le (show _ < 1 by decide) ?_; first | omega | (rw [List.length_replicate]; omega)) | (refine Nat.lt_of_lt_of_le (show _ < 2 by decide) ?_; first | omega | (rw [List.length_replicate]; omega)) | (simp only [List.length_cons, List.length_nil]; omega)) | refine J.draw (by assumption) follows_ok (by kernel_rfl) (by decide +kernel) (by decide +kernel) ?_ | refine J.done ⟨rfl, rfl, rfl, ?_⟩ | constructor | (intro _; exfalso; omega) | intro _)
  · rename_i he
    have he : l.length = m.length := by omega
    refine J.keep [5, 0, 1] rfl ?_
    refine J.forN l.length (fun k E L => E = [(5, .int .i64 (k : Int)), (0, .slice a l.length c), (1, .slice b m.length d)] ∧ L = [[]] ∧ l.take k = m.take k) ⟨rfl, rfl, by simp⟩ ?_
    rintro k E L hk' ⟨rfl, rfl, hi⟩ ih
    by_cases hlt : k < l.length
    · have ht := take_eq_succ (d := eB.dflt) hlt (he ▸ hlt)
      repeat' (first | rfl | assumption | (apply stp tt_ok; constructor) | exact Rng.mk (by omega) (by omega) | exact Bd.mk (by first | omega | (refine Nat.lt_of_lt_of_le (show _ < 1 by decide) ?_; first | omega | (rw [List.length_replicate]; omega)) | (refine Nat.lt_of_lt_of_le (show _ < 2 by decide) ?_; first | omega | (rw [List.length_replicate]; omega)) | (simp only [List.length_cons, List.length_nil]; omega)) | refine J.draw (by assumption) follows_ok (by kernel_rfl) (by decide +kernel) (by decide +kernel) ?_ | refine J.done ⟨rfl, rfl, rfl, ?_⟩ | constructor | (intro _; exfalso; omega) | intro _)
      · exact J.keep [5, 0, 1] rfl (ih hlt _ _ ⟨rfl, rfl, ht.2 ⟨hi, by assumption⟩⟩)
      · refine J.give0 tt_ok rfl (.cons (.tmp rfl) .nil) (bF (ne_of_nth (d := eB.dflt) (k := k) (by assumption)))
    · obtain rfl : k = l.length := by omega
      repeat' (first | rfl | assumption | (apply stp tt_ok; constructor) | exact Rng.mk (by omega) (by omega) | exact Bd.mk (by first | omega | (refine Nat.lt_of_lt_of_le (show _ < 1 by decide) ?_; first | omega | (rw [List.length_replicate]; omega)) | (refine Nat.lt_of_lt_of_le (show _ < 2 by decide) ?_; first | omega | (rw [List.length_replicate]; omega)) | (simp only [List.length_cons, List.length_nil]; omega)) | refine J.draw (by assumption) follows_ok (by kernel_rfl) (by decide +kernel) (by decide +kernel) ?_ | refine J.done ⟨rfl, rfl, rfl, ?_⟩ | constructor | (intro _; exfalso; omega) | intro _)
      refine J.give0 tt_ok rfl (.cons (.tmp rfl) .nil) (bT (take_full he hi))
  · rename_i he
    refine J.give0 tt_ok rfl (.cons (.tmp rfl) .nil) (bF fun e => ?_)
    subst e; exact he rfl

theorem eP_inj {x y : P2} (h : eP.enc x = eP.enc y) : x = y := by
  obtain ⟨x1, x2⟩ := x
  obtain ⟨y1, y2⟩ := y
  simp [eP] at h
  simp [h]

/- Are edges alike? -/
theorem f18_ok {hk : HKT} (U : HkU hk) (M : Imm) {a b : Option Addr} {c d : Nat} {l m : List (SlOf P2)} (hl : Rows M eP a l) (hm : Rows M eP b m) :
    Con Tryz.prog hk 18 [.slice a l.length c, .slice b m.length d] M [] (Gives (.bool (decide (rowsOf l = rowsOf m))) []) := by
  refine Con.of_body (U.no 18 rfl) Tryz.func18 rfl rfl Tryz.ntmps18 rfl rfl ?_
  have hn := U.n
  have h1 := hl.out.len
  have h2 := hm.out.len
  have o1 := hl.out
  have o2 := hm.out
  repeat' (first | rfl | assumption | (apply stp tt_ok; constructor) | exact Rng.mk (by omega) (by omega) | exact Bd.mk (by first | omega | (refine Nat.lt_of_lt_of_le (show _ < 1 by decide) ?_; first | omega | (rw [List.length_replicate]; omega)) | (refine Nat.lt_of_lt_of_le (show _ < 2 by decide) ?_; first | omega | (rw [List.length_replicate]; omega)) | (simp only [List.length_cons, List.length_nil]; omega)) | refine J.draw (by assumption) follows_ok (by kernel_rfl) (by decide +kernel) (by decide +kernel) ?_ | refine J.done ⟨rfl, rfl, rfl, ?_⟩ | constructor | (intro _; exfalso; omega) | intro _)
  · rename_i he
    have he : l.length = m.length := by omega
    refine J.keep [5, 0, 1] rfl ?_
    refine J.forN l.length (fun k E L => E = [(5, .int .i64 (k : Int)), (0, .slice a l.length c), (1, .slice b m.length d)] ∧ L = [[]] ∧ (rowsOf l).take k = (rowsOf m).take k) ⟨rfl, rfl, by simp⟩ ?_
    rintro k E L hk' ⟨rfl, rfl, hi⟩ ih
    have i1 := hl.at k
    have i2 := hm.at k
    have n1 := i1.len
    have n2 := i2.len
    have r1 := rowsOf_nth l k
    have r2 := rowsOf_nth m k
    by_cases hlt : k < l.length
    · have ht := take_eq_succ (d := []) (l := rowsOf l) (m := rowsOf m) (k := k) (by simpa using hlt) (by simpa using he ▸ hlt)
      repeat' (first | rfl | assumption | (apply stp tt_ok; constructor) | exact Rng.mk (by omega) (by omega) | exact Bd.mk (by first | omega | (refine Nat.lt_of_lt_of_le (show _ < 1 by decide) ?_; first | omega | (rw [List.length_replicate]; omega)) | (refine Nat.lt_of_lt_of_le (show _ < 2 by decide) ?_; first | omega | (rw [List.length_replicate]; omega)) | (simp only [List.length_cons, List.length_nil]; omega)) | refine J.draw (by assumption) follows_ok (by kernel_rfl) (by decide +kernel) (by decide +kernel) ?_ | refine J.done ⟨rfl, rfl, rfl, ?_⟩ | constructor | (intro _; exfalso; omega) | intro _)
      · rename_i hlen
        have hlen : (nthAt (eSl P2).dflt l k).l.length = (nthAt (eSl P2).dflt m k).l.length := by omega
        refine J.keep [6, 5, 0, 1] rfl ?_
        refine J.forN (nthAt (eSl P2).dflt l k).l.length (fun j E L => E = [(6, .int .i64 (j : Int)), (5, .int .i64 (k : Int)), (0, .slice a l.length c), (1, .slice b m.length d)] ∧ L = [[]] ∧ (nthAt (eSl P2).dflt l k).l.take j = (nthAt (eSl P2).dflt m k).l.take j) ⟨rfl, rfl, by simp⟩ ?_
        rintro j E L hj ⟨rfl, rfl, hi2⟩ ih2
        by_cases hjl : j < (nthAt (eSl P2).dflt l k).l.length
        · have ht2 := take_eq_succ (d := eP.dflt) hjl (hlen ▸ hjl)
          repeat' (first | rfl | assumption | (apply stp tt_ok; constructor) | exact Rng.mk (by omega) (by omega) | exact Bd.mk (by first | omega | (refine Nat.lt_of_lt_of_le (show _ < 1 by decide) ?_; first | omega | (rw [List.length_replicate]; omega)) | (refine Nat.lt_of_lt_of_le (show _ < 2 by decide) ?_; first | omega | (rw [List.length_replicate]; omega)) | (simp only [List.length_cons, List.length_nil]; omega)) | refine J.draw (by assumption) follows_ok (by kernel_rfl) (by decide +kernel) (by decide +kernel) ?_ | refine J.done ⟨rfl, rfl, rfl, ?_⟩ | constructor | (intro _; exfalso; omega) | intro _)
          · rename_i hxy
            exact J.keep [6, 5, 0, 1] rfl (ih2 hjl _ _ ⟨rfl, rfl, ht2.2 ⟨hi2, eP_inj hxy⟩⟩)
          · rename_i hxy
            refine J.give0 tt_ok rfl (.cons (.tmp rfl) .nil) (bF fun e => hxy ?_)
            have := congrArg (nthAt [] · k) e
            simp only [rowsOf_nth] at this
            rw [this]
        · obtain rfl : j = (nthAt (eSl P2).dflt l k).l.length := by omega
          repeat' (first | rfl | assumption | (apply stp tt_ok; constructor) | exact Rng.mk (by omega) (by omega) | exact Bd.mk (by first | omega | (refine Nat.lt_of_lt_of_le (show _ < 1 by decide) ?_; first | omega | (rw [List.length_replicate]; omega)) | (refine Nat.lt_of_lt_of_le (show _ < 2 by decide) ?_; first | omega | (rw [List.length_replicate]; omega)) | (simp only [List.length_cons, List.length_nil]; omega)) | refine J.draw (by assumption) follows_ok (by kernel_rfl) (by decide +kernel) (by decide +kernel) ?_ | refine J.done ⟨rfl, rfl, rfl, ?_⟩ | constructor | (intro _; exfalso; omega) | intro _)
          exact J.keep [5, 0, 1] rfl (ih hlt _ _ ⟨rfl, rfl, ht.2 ⟨hi, by rw [r1, r2]; exact take_full hlen hi2⟩⟩)
      · rename_i hlen
        refine J.give0 tt_ok rfl (.cons (.tmp rfl) .nil) (bF fun e => hlen ?_)
        have := congrArg (nthAt [] · k) e
        simp only [rowsOf_nth] at this
        rw [this]
    · obtain rfl : k = l.length := by omega
      repeat' (first | rfl | assumption | (apply stp tt_ok; constructor) | exact Rng.mk (by omega) (by omega) | exact Bd.mk (by first | omega | (refine Nat.lt_of_lt_of_le (show _ < 1 by decide) ?_; first | omega | (rw [List.length_replicate]; omega)) | (refine Nat.lt_of_lt_of_le (show _ < 2 by decide) ?_; first | omega | (rw [List.length_replicate]; omega)) | (simp only [List.length_cons, List.length_nil]; omega)) | refine J.draw (by assumption) follows_ok (by kernel_rfl) (by decide +kernel) (by decide +kernel) ?_ | refine J.done ⟨rfl, rfl, rfl, ?_⟩ | constructor | (intro _; exfalso; omega) | intro _)
      refine J.give0 tt_ok rfl (.cons (.tmp rfl) .nil) (bT (take_full (by simpa using he) (by simpa using hi)))
  · rename_i he
    refine J.give0 tt_ok rfl (.cons (.tmp rfl) .nil) (bF fun e => ?_)
    have := congrArg List.length e
    simp at this
    omega

theorem f13_ok {hk : HKT} (U : HkU hk) (M : Imm) {a b a' b' : Option Addr} {c d c' d' : Nat} {l m : List (SlOf P2)} {p q : List Bool} (hl : Rows M eP a l) (hm : Rows M eP b m) (hp : IsSl M eB a' p) (hq : IsSl M eB b' q) :
    Con Tryz.prog hk 13 [.agg ⟨[.slice a l.length c, .slice a' p.length c']⟩, .agg ⟨[.slice b m.length d, .slice b' q.length d']⟩] M [] (Gives (.bool (decide (rowsOf l = rowsOf m ∧ p = q))) []) := by
  refine Con.of_body (U.no 13 rfl) Tryz.func13 rfl rfl Tryz.ntmps13 rfl rfl ?_
  have hn := U.n
  repeat' (first | rfl | assumption | (apply stp tt_ok; constructor) | exact Rng.mk (by omega) (by omega) | exact Bd.mk (by first | omega | (refine Nat.lt_of_lt_of_le (show _ < 1 by decide) ?_; first | omega | (rw [List.length_replicate]; omega)) | (refine Nat.lt_of_lt_of_le (show _ < 2 by decide) ?_; first | omega | (rw [List.length_replicate]; omega)) | (simp only [List.length_cons, List.length_nil]; omega)) | refine J.draw (by assumption) follows_ok (by kernel_rfl) (by decide +kernel) (by decide +kernel) ?_ | refine J.done ⟨rfl, rfl, rfl, ?_⟩ | constructor | (intro _; exfalso; omega) | intro _)
  refine CallJ.val (f18_ok U M hl hm) ?_
  by_cases h : rowsOf l = rowsOf m
  · rw [decide_eq_true h]
    repeat' (first | rfl | assumption | (apply stp tt_ok; constructor) | exact Rng.mk (by omega) (by omega) | exact Bd.mk (by first | omega | (refine Nat.lt_of_lt_of_le (show _ < 1 by decide) ?_; first | omega | (rw [List.length_replicate]; omega)) | (refine Nat.lt_of_lt_of_le (show _ < 2 by decide) ?_; first | omega | (rw [List.length_replicate]; omega)) | (simp only [List.length_cons, List.length_nil]; omega)) | refine J.draw (by assumption) follows_ok (by kernel_rfl) (by decide +kernel) (by decide +kernel) ?_ | refine J.done ⟨rfl, rfl, rfl, ?_⟩ | constructor | (intro _; exfalso; omega) | intro _)
    refine CallJ.val (f33_ok U M hp hq) ?_
    repeat' (first | rfl | assumption | (apply stp tt_ok; constructor) | exact Rng.mk (by omega) (by omega) | exact Bd.mk (by first | omega | (refine Nat.lt_of_lt_of_le (show _ < 1 by decide) ?_; first | omega | (rw [List.length_replicate]; omega)) | (refine Nat.lt_of_lt_of_le (show _ < 2 by decide) ?_; first | omega | (rw [List.length_replicate]; omega)) | (simp only [List.length_cons, List.length_nil]; omega)) | refine J.draw (by assumption) follows_ok (by kernel_rfl) (by decide +kernel) (by decide +kernel) ?_ | refine J.done ⟨rfl, rfl, rfl, ?_⟩ | constructor | (intro _; exfalso; omega) | intro _)
    refine J.give0 tt_ok rfl (.cons (.tmp rfl) .nil) ?_
    simp [resV, h]
  · rw [decide_eq_false h]
    repeat' (first | rfl | assumption | (apply stp tt_ok; constructor) | exact Rng.mk (by omega) (by omega) | exact Bd.mk (by first | omega | (refine Nat.lt_of_lt_of_le (show _ < 1 by decide) ?_; first | omega | (rw [List.length_replicate]; omega)) | (refine Nat.lt_of_lt_of_le (show _ < 2 by decide) ?_; first | omega | (rw [List.length_replicate]; omega)) | (simp only [List.length_cons, List.length_nil]; omega)) | refine J.draw (by assumption) follows_ok (by kernel_rfl) (by decide +kernel) (by decide +kernel) ?_ | refine J.done ⟨rfl, rfl, rfl, ?_⟩ | constructor | (intro _; exfalso; omega) | intro _)
    refine J.give0 tt_ok rfl (.cons (.tmp rfl) .nil) (bF fun e => h e.1)
end
end Go.Proofs.YtmlgmgjakhbhjaaGreatDoor.Ab

namespace Go.Proofs.YtmlgmgjakhbhjaaGreatDoor.Ab
open Go Go.Proofs
noncomputable section
attribute [local irreducible] J Con Lv CallJ

/- IndexFunc over numbers -/
theorem f122_ok {hk : HKT} (U : HkU hk) (M : Imm) {a : Option Addr} {c : Nat} {l : List Int} {fc : FuncId} {cap : List Value} {l0 : Seg} {p : Int → Bool} (hl : IsSl M eI a l)
    (hc : ∀ x, Con Tryz.prog hk fc (.int .i64 x :: cap) M l0 (Gives (.bool (p x)) l0)) :
    Con Tryz.prog hk 122 [.slice a l.length c, .func (.func fc) #[] ⟨cap⟩] M l0 (Gives (.int .i64 (idxB p l 0)) l0) := by
  refine Con.of_body (U.no 122 rfl) Tryz.func122 rfl rfl Tryz.ntmps122 rfl rfl ?_
  have hlen := hl.len
  repeat' (first | rfl | assumption | (apply stp tt_ok; constructor) | exact Rng.mk (by omega) (by omega) | exact Bd.mk (by first | omega | (refine Nat.lt_of_lt_of_le (show _ < 1 by decide) ?_; first | omega | (rw [List.length_replicate]; omega)) | (refine Nat.lt_of_lt_of_le (show _ < 2 by decide) ?_; first | omega | (rw [List.length_replicate]; omega)) | (simp only [List.length_cons, List.length_nil]; omega)) | refine J.draw (by assumption) follows_ok (by kernel_rfl) (by decide +kernel) (by decide +kernel) ?_ | refine J.done ⟨rfl, rfl, rfl, ?_⟩ | constructor | (intro _; exfalso; omega) | intro _)
  refine J.keep [8, 7, 0, 1] rfl ?_
  refine J.forN l.length (fun k E L => E = [(8, .int .i64 (k : Int)), (7, .int .i64 l.length), (0, .slice a l.length c), (1, .func (.func fc) #[] ⟨cap⟩)] ∧ L = [l0] ∧ idxB p (l.drop k) k = idxB p l 0) ⟨rfl, rfl, rfl⟩ ?_
  rintro k E L hk ⟨rfl, rfl, hi⟩ ih
  by_cases hlt : k < l.length
  · repeat' (first | rfl | assumption | (apply stp tt_ok; constructor) | exact Rng.mk (by omega) (by omega) | exact Bd.mk (by first | omega | (refine Nat.lt_of_lt_of_le (show _ < 1 by decide) ?_; first | omega | (rw [List.length_replicate]; omega)) | (refine Nat.lt_of_lt_of_le (show _ < 2 by decide) ?_; first | omega | (rw [List.length_replicate]; omega)) | (simp only [List.length_cons, List.length_nil]; omega)) | refine J.draw (by assumption) follows_ok (by kernel_rfl) (by decide +kernel) (by decide +kernel) ?_ | refine J.done ⟨rfl, rfl, rfl, ?_⟩ | constructor | (intro _; exfalso; omega) | intro _)
    have hd := idxB_drop eI.dflt p l k (by omega)
    have hcx := hc (nthAt eI.dflt l k)
    cases hb : p (nthAt eI.dflt l k)
    all_goals
      rw [hb] at hcx hd
      refine CallJ.same .here hcx ?_
      repeat' (first | rfl | assumption | (apply stp tt_ok; constructor) | exact Rng.mk (by omega) (by omega) | exact Bd.mk (by first | omega | (refine Nat.lt_of_lt_of_le (show _ < 1 by decide) ?_; first | omega | (rw [List.length_replicate]; omega)) | (refine Nat.lt_of_lt_of_le (show _ < 2 by decide) ?_; first | omega | (rw [List.length_replicate]; omega)) | (simp only [List.length_cons, List.length_nil]; omega)) | refine J.draw (by assumption) follows_ok (by kernel_rfl) (by decide +kernel) (by decide +kernel) ?_ | refine J.done ⟨rfl, rfl, rfl, ?_⟩ | constructor | (intro _; exfalso; omega) | intro _)
    · refine J.keep [8, 7, 0, 1] rfl (ih (by omega) _ _ ⟨rfl, rfl, by simpa [hd] using hi⟩)
    · refine J.give tt_ok rfl (.cons (.tmp rfl) .nil) .here ?_
      rw [← hi, hd]; rfl
  · obtain rfl : k = l.length := by omega
    repeat' (first | rfl | assumption | (apply stp tt_ok; constructor) | exact Rng.mk (by omega) (by omega) | exact Bd.mk (by first | omega | (refine Nat.lt_of_lt_of_le (show _ < 1 by decide) ?_; first | omega | (rw [List.length_replicate]; omega)) | (refine Nat.lt_of_lt_of_le (show _ < 2 by decide) ?_; first | omega | (rw [List.length_replicate]; omega)) | (simp only [List.length_cons, List.length_nil]; omega)) | refine J.draw (by assumption) follows_ok (by kernel_rfl) (by decide +kernel) (by decide +kernel) ?_ | refine J.done ⟨rfl, rfl, rfl, ?_⟩ | constructor | (intro _; exfalso; omega) | intro _)
    refine J.give tt_ok rfl (.cons (.tmp rfl) .nil) .here ?_
    rw [← hi]; simp [idxB, resV]
theorem f91_ok {hk : HKT} (U : HkU hk) (M : Imm) {a : Option Addr} {c : Nat} {l : List Int} {fc : FuncId} {cap : List Value} {l0 : Seg} {p : Int → Bool} (hl : IsSl M eI a l)
    (hc : ∀ x, Con Tryz.prog hk fc (.int .i64 x :: cap) M l0 (Gives (.bool (p x)) l0)) :
    Con Tryz.prog hk 91 [.slice a l.length c, .func (.func fc) #[] ⟨cap⟩] M l0 (Gives (.bool (l.any p)) l0) := by
  refine Con.of_body (U.no 91 rfl) Tryz.func91 rfl rfl Tryz.ntmps91 rfl rfl ?_
  repeat' (first | rfl | assumption | (apply stp tt_ok; constructor) | exact Rng.mk (by omega) (by omega) | exact Bd.mk (by first | omega | (refine Nat.lt_of_lt_of_le (show _ < 1 by decide) ?_; first | omega | (rw [List.length_replicate]; omega)) | (refine Nat.lt_of_lt_of_le (show _ < 2 by decide) ?_; first | omega | (rw [List.length_replicate]; omega)) | (simp only [List.length_cons, List.length_nil]; omega)) | refine J.draw (by assumption) follows_ok (by kernel_rfl) (by decide +kernel) (by decide +kernel) ?_ | refine J.done ⟨rfl, rfl, rfl, ?_⟩ | constructor | (intro _; exfalso; omega) | intro _)
  refine CallJ.same .here (f122_ok U M hl hc) ?_
  repeat' (first | rfl | assumption | (apply stp tt_ok; constructor) | exact Rng.mk (by omega) (by omega) | exact Bd.mk (by first | omega | (refine Nat.lt_of_lt_of_le (show _ < 1 by decide) ?_; first | omega | (rw [List.length_replicate]; omega)) | (refine Nat.lt_of_lt_of_le (show _ < 2 by decide) ?_; first | omega | (rw [List.length_replicate]; omega)) | (simp only [List.length_cons, List.length_nil]; omega)) | refine J.draw (by assumption) follows_ok (by kernel_rfl) (by decide +kernel) (by decide +kernel) ?_ | refine J.done ⟨rfl, rfl, rfl, ?_⟩ | constructor | (intro _; exfalso; omega) | intro _)
  all_goals refine J.give tt_ok rfl (.cons (.tmp rfl) .nil) .here ?_
  all_goals rw [← idxB_any p l 0]
  · exact bT (by assumption)
  · exact bF (by assumption)
/- Index over numbers -/
theorem f126_ok {hk : HKT} (U : HkU hk) (M : Imm) {a : Option Addr} {c : Nat} {l : List Int} (v : Int) (hl : IsSl M eI a l) :
    Con Tryz.prog hk 126 [.slice a l.length c, .int .i64 v] M [] (Gives (.int .i64 (idxB (fun x => decide (v = x)) l 0)) []) := by
  refine Con.of_body (U.no 126 rfl) Tryz.func126 rfl rfl Tryz.ntmps126 rfl rfl ?_
  have hlen := hl.len
  repeat' (first | rfl | assumption | (apply stp tt_ok; constructor) | exact Rng.mk (by omega) (by omega) | exact Bd.mk (by first | omega | (refine Nat.lt_of_lt_of_le (show _ < 1 by decide) ?_; first | omega | (rw [List.length_replicate]; omega)) | (refine Nat.lt_of_lt_of_le (show _ < 2 by decide) ?_; first | omega | (rw [List.length_replicate]; omega)) | (simp only [List.length_cons, List.length_nil]; omega)) | refine J.draw (by assumption) follows_ok (by kernel_rfl) (by decide +kernel) (by decide +kernel) ?_ | refine J.done ⟨rfl, rfl, rfl, ?_⟩ | constructor | (intro _; exfalso; omega) | intro _)
  refine J.keep [8, 7, 0, 1] rfl ?_
  refine J.forN l.length (fun k E L => E = [(8, .int .i64 (k : Int)), (7, .int .i64 l.length), (0, .slice a l.length c), (1, .int .i64 v)] ∧ L = [[]] ∧ idxB (fun x => decide (v = x)) (l.drop k) k = idxB (fun x => decide (v = x)) l 0) ⟨rfl, rfl, rfl⟩ ?_
  rintro k E L hk ⟨rfl, rfl, hi⟩ ih
  by_cases hlt : k < l.length
  · have hd := idxB_drop eI.dflt (fun x => decide (v = x)) l k (by omega)
    repeat' (first | rfl | assumption | (apply stp tt_ok; constructor) | exact Rng.mk (by omega) (by omega) | exact Bd.mk (by first | omega | (refine Nat.lt_of_lt_of_le (show _ < 1 by decide) ?_; first | omega | (rw [List.length_replicate]; omega)) | (refine Nat.lt_of_lt_of_le (show _ < 2 by decide) ?_; first | omega | (rw [List.length_replicate]; omega)) | (simp only [List.length_cons, List.length_nil]; omega)) | refine J.draw (by assumption) follows_ok (by kernel_rfl) (by decide +kernel) (by decide +kernel) ?_ | refine J.done ⟨rfl, rfl, rfl, ?_⟩ | constructor | (intro _; exfalso; omega) | intro _)
    · refine J.give0 tt_ok rfl (.cons (.tmp rfl) .nil) ?_
      rename_i hv
      rw [if_pos (decide_eq_true hv)] at hd
      rw [← hi, hd]; rfl
    · rename_i hv
      rw [if_neg (by simp [hv])] at hd
      refine J.keep [8, 7, 0, 1] rfl (ih (by omega) _ _ ⟨rfl, rfl, by rw [← hi, hd]⟩)
  · obtain rfl : k = l.length := by omega
    repeat' (first | rfl | assumption | (apply stp tt_ok; constructor) | exact Rng.mk (by omega) (by omega) | exact Bd.mk (by first | omega | (refine Nat.lt_of_lt_of_le (show _ < 1 by decide) ?_; first | omega | (rw [List.length_replicate]; omega)) | (refine Nat.lt_of_lt_of_le (show _ < 2 by decide) ?_; first | omega | (rw [List.length_replicate]; omega)) | (simp only [List.length_cons, List.length_nil]; omega)) | refine J.draw (by assumption) follows_ok (by kernel_rfl) (by decide +kernel) (by decide +kernel) ?_ | refine J.done ⟨rfl, rfl, rfl, ?_⟩ | constructor | (intro _; exfalso; omega) | intro _)
    refine J.give0 tt_ok rfl (.cons (.tmp rfl) .nil) ?_
    rw [← hi]; simp [idxB, resV]
theorem f96_ok {hk : HKT} (U : HkU hk) (M : Imm) {a : Option Addr} {c : Nat} {l : List Int} (v : Int) (hl : IsSl M eI a l) :
    Con Tryz.prog hk 96 [.slice a l.length c, .int .i64 v] M [] (Gives (.bool (l.any fun x => decide (v = x))) []) := by
  refine Con.of_body (U.no 96 rfl) Tryz.func96 rfl rfl Tryz.ntmps96 rfl rfl ?_
  repeat' (first | rfl | assumption | (apply stp tt_ok; constructor) | exact Rng.mk (by omega) (by omega) | exact Bd.mk (by first | omega | (refine Nat.lt_of_lt_of_le (show _ < 1 by decide) ?_; first | omega | (rw [List.length_replicate]; omega)) | (refine Nat.lt_of_lt_of_le (show _ < 2 by decide) ?_; first | omega | (rw [List.length_replicate]; omega)) | (simp only [List.length_cons, List.length_nil]; omega)) | refine J.draw (by assumption) follows_ok (by kernel_rfl) (by decide +kernel) (by decide +kernel) ?_ | refine J.done ⟨rfl, rfl, rfl, ?_⟩ | constructor | (intro _; exfalso; omega) | intro _)
  refine CallJ.val (f126_ok U M v hl) ?_
  repeat' (first | rfl | assumption | (apply stp tt_ok; constructor) | exact Rng.mk (by omega) (by omega) | exact Bd.mk (by first | omega | (refine Nat.lt_of_lt_of_le (show _ < 1 by decide) ?_; first | omega | (rw [List.length_replicate]; omega)) | (refine Nat.lt_of_lt_of_le (show _ < 2 by decide) ?_; first | omega | (rw [List.length_replicate]; omega)) | (simp only [List.length_cons, List.length_nil]; omega)) | refine J.draw (by assumption) follows_ok (by kernel_rfl) (by decide +kernel) (by decide +kernel) ?_ | refine J.done ⟨rfl, rfl, rfl, ?_⟩ | constructor | (intro _; exfalso; omega) | intro _)
  all_goals refine J.give0 tt_ok rfl (.cons (.tmp rfl) .nil) ?_
  all_goals rw [← idxB_any _ l 0]
  · exact bT (by assumption)
  · exact bF (by assumption)

/- May states be a net's? -/
def sBad (n : Nat) (s : Int) : Bool := decide (s < 0 ∨ (n : Int) ≤ s)
def mayB (n : List (List P2)) (l : List Int) : Bool := netGood n && !l.any (sBad n.length)
theorem f92_ok {hk : HKT} (U : HkU hk) (M : Imm) (s : Int) (id : Nat) (a : Option Addr) (m c : Nat) :
    Con Tryz.prog hk 92 [.int .i64 s, .pointer (some ⟨id, 0, none⟩)] M [(id, .row [.slice a m c] 24 .fixed)] (Gives (.bool (sBad m s)) [(id, .row [.slice a m c] 24 .fixed)]) := by
  refine Con.of_body (U.no 92 rfl) Tryz.func92 rfl rfl Tryz.ntmps92 rfl rfl ?_
  repeat' (first | rfl | assumption | (apply stp tt_ok; constructor) | exact Rng.mk (by omega) (by omega) | exact Bd.mk (by first | omega | (refine Nat.lt_of_lt_of_le (show _ < 1 by decide) ?_; first | omega | (rw [List.length_replicate]; omega)) | (refine Nat.lt_of_lt_of_le (show _ < 2 by decide) ?_; first | omega | (rw [List.length_replicate]; omega)) | (simp only [List.length_cons, List.length_nil]; omega)) | refine J.draw (by assumption) follows_ok (by kernel_rfl) (by decide +kernel) (by decide +kernel) ?_ | refine J.done ⟨rfl, rfl, rfl, ?_⟩ | constructor | (intro _; exfalso; omega) | intro _)
  all_goals refine J.give tt_ok rfl (.cons (.tmp rfl) .nil) .here ?_
  all_goals first | exact bT (by omega) | exact bF (by omega)
theorem f51_ok {hk : HKT} (U : HkU hk) (M : Imm) {a b : Option Addr} {c d : Nat} {ls : List (SlOf P2)} {l : List Int} (hr : Rows M eP a ls) (hl : IsSl M eI b l) :
    Con Tryz.prog hk 51 [.agg ⟨[.slice a ls.length c]⟩, .slice b l.length d] M [] (Gives (.bool (mayB (rowsOf ls) l)) []) := by
  refine Con.of_body (U.no 51 rfl) Tryz.func51 rfl rfl Tryz.ntmps51 rfl rfl ?_
  repeat' (first | rfl | assumption | (apply stp tt_ok; constructor) | exact Rng.mk (by omega) (by omega) | exact Bd.mk (by first | omega | (refine Nat.lt_of_lt_of_le (show _ < 1 by decide) ?_; first | omega | (rw [List.length_replicate]; omega)) | (refine Nat.lt_of_lt_of_le (show _ < 2 by decide) ?_; first | omega | (rw [List.length_replicate]; omega)) | (simp only [List.length_cons, List.length_nil]; omega)) | refine J.draw (by assumption) follows_ok (by kernel_rfl) (by decide +kernel) (by decide +kernel) ?_ | refine J.done ⟨rfl, rfl, rfl, ?_⟩ | constructor | (intro _; exfalso; omega) | intro _)
  rename_i id
  refine CallJ.val (f23_ok U M hr) ?_
  cases hg : netGood (rowsOf ls)
  all_goals repeat' (first | rfl | assumption | (apply stp tt_ok; constructor) | exact Rng.mk (by omega) (by omega) | exact Bd.mk (by first | omega | (refine Nat.lt_of_lt_of_le (show _ < 1 by decide) ?_; first | omega | (rw [List.length_replicate]; omega)) | (refine Nat.lt_of_lt_of_le (show _ < 2 by decide) ?_; first | omega | (rw [List.length_replicate]; omega)) | (simp only [List.length_cons, List.length_nil]; omega)) | refine J.draw (by assumption) follows_ok (by kernel_rfl) (by decide +kernel) (by decide +kernel) ?_ | refine J.done ⟨rfl, rfl, rfl, ?_⟩ | constructor | (intro _; exfalso; omega) | intro _)
  · refine J.give0 tt_ok rfl (.cons (.tmp rfl) .nil) ?_
    unfold mayB; rw [hg]; rfl
  · refine CallJ.same .here (f91_ok U M hl fun x => f92_ok U M x id a ls.length c) ?_
    cases hb : l.any (sBad ls.length)
    all_goals repeat' (first | rfl | assumption | (apply stp tt_ok; constructor) | exact Rng.mk (by omega) (by omega) | exact Bd.mk (by first | omega | (refine Nat.lt_of_lt_of_le (show _ < 1 by decide) ?_; first | omega | (rw [List.length_replicate]; omega)) | (refine Nat.lt_of_lt_of_le (show _ < 2 by decide) ?_; first | omega | (rw [List.length_replicate]; omega)) | (simp only [List.length_cons, List.length_nil]; omega)) | refine J.draw (by assumption) follows_ok (by kernel_rfl) (by decide +kernel) (by decide +kernel) ?_ | refine J.done ⟨rfl, rfl, rfl, ?_⟩ | constructor | (intro _; exfalso; omega) | intro _)
    all_goals
      refine J.give0 tt_ok rfl (.cons (.tmp rfl) .nil) ?_
      unfold mayB; rw [hg, rowsOf_length, hb]; rfl
theorem f54_ok {hk : HKT} (U : HkU hk) (M : Imm) {a b : Option Addr} {c d : Nat} {ls : List (SlOf P2)} {l : List Int} (hr : Rows M eP a ls) (hl : IsSl M eI b l) :
    Con Tryz.prog hk 54 [.agg ⟨[.slice a ls.length c]⟩, .slice b l.length d] M [] (Gives (.bool (mayB (rowsOf ls) l && l.any fun x => decide (1 = x))) []) := by
  refine Con.of_body (U.no 54 rfl) Tryz.func54 rfl rfl Tryz.ntmps54 rfl rfl ?_
  repeat' (first | rfl | assumption | (apply stp tt_ok; constructor) | exact Rng.mk (by omega) (by omega) | exact Bd.mk (by first | omega | (refine Nat.lt_of_lt_of_le (show _ < 1 by decide) ?_; first | omega | (rw [List.length_replicate]; omega)) | (refine Nat.lt_of_lt_of_le (show _ < 2 by decide) ?_; first | omega | (rw [List.length_replicate]; omega)) | (simp only [List.length_cons, List.length_nil]; omega)) | refine J.draw (by assumption) follows_ok (by kernel_rfl) (by decide +kernel) (by decide +kernel) ?_ | refine J.done ⟨rfl, rfl, rfl, ?_⟩ | constructor | (intro _; exfalso; omega) | intro _)
  refine CallJ.val (f51_ok U M hr hl) ?_
  cases hg : mayB (rowsOf ls) l
  all_goals repeat' (first | rfl | assumption | (apply stp tt_ok; constructor) | exact Rng.mk (by omega) (by omega) | exact Bd.mk (by first | omega | (refine Nat.lt_of_lt_of_le (show _ < 1 by decide) ?_; first | omega | (rw [List.length_replicate]; omega)) | (refine Nat.lt_of_lt_of_le (show _ < 2 by decide) ?_; first | omega | (rw [List.length_replicate]; omega)) | (simp only [List.length_cons, List.length_nil]; omega)) | refine J.draw (by assumption) follows_ok (by kernel_rfl) (by decide +kernel) (by decide +kernel) ?_ | refine J.done ⟨rfl, rfl, rfl, ?_⟩ | constructor | (intro _; exfalso; omega) | intro _)
  · exact J.give0 tt_ok rfl (.cons (.tmp rfl) .nil) rfl
  · refine CallJ.val (f96_ok U M 1 hl) ?_
    repeat' (first | rfl | assumption | (apply stp tt_ok; constructor) | exact Rng.mk (by omega) (by omega) | exact Bd.mk (by first | omega | (refine Nat.lt_of_lt_of_le (show _ < 1 by decide) ?_; first | omega | (rw [List.length_replicate]; omega)) | (refine Nat.lt_of_lt_of_le (show _ < 2 by decide) ?_; first | omega | (rw [List.length_replicate]; omega)) | (simp only [List.length_cons, List.length_nil]; omega)) | refine J.draw (by assumption) follows_ok (by kernel_rfl) (by decide +kernel) (by decide +kernel) ?_ | refine J.done ⟨rfl, rfl, rfl, ?_⟩ | constructor | (intro _; exfalso; omega) | intro _)
    exact J.give0 tt_ok rfl (.cons (.tmp rfl) .nil) rfl
/- the reference's -/
theorem f19_ok {hk : HKT} (U : HkU hk) (M : Imm) {a : Option Addr} {c : Nat} {ls : List (SlOf P2)} (hr : Rows M eP a ls) (hb : (rowsOf ls).flatten.length ≤ 1099511627776) :
    Con Tryz.prog hk 19 [.agg ⟨[.slice a ls.length c]⟩] M [] (Gives (.bool (netGood (rowsOf ls))) []) := by
  refine Con.of_body (U.no 19 rfl) Tryz.func19 rfl rfl Tryz.ntmps19 rfl rfl ?_
  have hout := hr.out
  have hlen := hout.len
  repeat' (first | rfl | assumption | (apply stp tt_ok; constructor) | exact Rng.mk (by omega) (by omega) | exact Bd.mk (by first | omega | (refine Nat.lt_of_lt_of_le (show _ < 1 by decide) ?_; first | omega | (rw [List.length_replicate]; omega)) | (refine Nat.lt_of_lt_of_le (show _ < 2 by decide) ?_; first | omega | (rw [List.length_replicate]; omega)) | (simp only [List.length_cons, List.length_nil]; omega)) | refine J.draw (by assumption) follows_ok (by kernel_rfl) (by decide +kernel) (by decide +kernel) ?_ | refine J.done ⟨rfl, rfl, rfl, ?_⟩ | constructor | (intro _; exfalso; omega) | intro _)
  rename_i id1
  refine J.keep [4, 3, 1] rfl ?_
  refine J.forN ls.length (fun k E L => E = [(4, .int .i64 (k : Int)), (3, .int .i64 (((rowsOf ls).take k).flatten.length : Nat)), (1, .pointer (some ⟨id1, 0, none⟩))] ∧
    L = [[(id1, .row [.slice a ls.length c] 24 .fixed)], []] ∧ ((rowsOf ls).take k).all (fun r => !r.any (eBad ls.length)) = true) ⟨rfl, rfl, rfl⟩ ?_
  rintro k E L hk' ⟨rfl, rfl, hi⟩ ih
  have hin := hr.at k
  have hil := hin.len
  have hrn := rowsOf_nth ls k
  by_cases hlt : k < ls.length
  · have hft := flat_take (rowsOf ls) k (by simpa using hlt)
    have hta := take_all (d := []) (p := fun r => !r.any (eBad ls.length)) (l := rowsOf ls) (k := k) (by simpa using hlt)
    have hfl : ((rowsOf ls).take (k + 1)).flatten.length ≤ (rowsOf ls).flatten.length := by
      have := congrArg List.length (congrArg List.flatten (List.take_append_drop (k + 1) (rowsOf ls)))
      rw [List.flatten_append, List.length_append] at this
      omega
    rw [hrn] at hft hta
    repeat' (first | rfl | assumption | (apply stp tt_ok; constructor) | exact Rng.mk (by omega) (by omega) | exact Bd.mk (by first | omega | (refine Nat.lt_of_lt_of_le (show _ < 1 by decide) ?_; first | omega | (rw [List.length_replicate]; omega)) | (refine Nat.lt_of_lt_of_le (show _ < 2 by decide) ?_; first | omega | (rw [List.length_replicate]; omega)) | (simp only [List.length_cons, List.length_nil]; omega)) | refine J.draw (by assumption) follows_ok (by kernel_rfl) (by decide +kernel) (by decide +kernel) ?_ | refine J.done ⟨rfl, rfl, rfl, ?_⟩ | constructor | (intro _; exfalso; omega) | intro _)
    refine J.keep [5, 4, 3, 1] rfl ?_
    refine J.forN (nthAt (eSl P2).dflt ls k).l.length (fun j E L => E = [(5, .int .i64 (j : Int)), (4, .int .i64 (k : Int)), (3, .int .i64 ((((rowsOf ls).take k).flatten.length + j : Nat) : Int)), (1, .pointer (some ⟨id1, 0, none⟩))] ∧
      L = [[(id1, .row [.slice a ls.length c] 24 .fixed)], []] ∧ ((nthAt (eSl P2).dflt ls k).l.take j).any (eBad ls.length) = false) ⟨rfl, rfl, rfl⟩ ?_
    rintro j E L hj ⟨rfl, rfl, hi2⟩ ih2
    by_cases hjl : j < (nthAt (eSl P2).dflt ls k).l.length
    · have hsn : ((nthAt (eSl P2).dflt ls k).l.take (j + 1)).any (eBad ls.length) = (((nthAt (eSl P2).dflt ls k).l.take j).any (eBad ls.length) || eBad ls.length (nthAt eP.dflt (nthAt (eSl P2).dflt ls k).l j)) := by
        rw [List.take_succ_eq_append_getElem hjl, nthAt_get hjl, List.any_append]; simp only [List.any_cons, List.any_nil, Bool.or_false]
      have bad : eBad ls.length (nthAt eP.dflt (nthAt (eSl P2).dflt ls k).l j) = true → netGood (rowsOf ls) = false := by
        intro hb
        have h1 : (nthAt (eSl P2).dflt ls k).l.any (eBad ls.length) = true := by
          rw [List.any_eq_true]
          exact ⟨_, List.mem_of_getElem? (nthAt_lt hjl), hb⟩
        have := all_false (d := []) (p := fun r => !r.any (eBad ls.length)) (l := rowsOf ls) (k := k) (by simpa using hlt) (by rw [hrn, h1]; rfl)
        unfold netGood; rw [rowsOf_length, this]; simp
      repeat' (first | rfl | assumption | (apply stp tt_ok; constructor) | exact Rng.mk (by omega) (by omega) | exact Bd.mk (by first | omega | (refine Nat.lt_of_lt_of_le (show _ < 1 by decide) ?_; first | omega | (rw [List.length_replicate]; omega)) | (refine Nat.lt_of_lt_of_le (show _ < 2 by decide) ?_; first | omega | (rw [List.length_replicate]; omega)) | (simp only [List.length_cons, List.length_nil]; omega)) | refine J.draw (by assumption) follows_ok (by kernel_rfl) (by decide +kernel) (by decide +kernel) ?_ | refine J.done ⟨rfl, rfl, rfl, ?_⟩ | constructor | (intro _; exfalso; omega) | intro _)
      · refine J.give0 tt_ok rfl (.cons (.tmp rfl) .nil) ?_
        rw [bad (decide_eq_true (by omega))]; rfl
      · refine J.give0 tt_ok rfl (.cons (.tmp rfl) .nil) ?_
        rw [bad (decide_eq_true (by omega))]; rfl
      · refine J.give0 tt_ok rfl (.cons (.tmp rfl) .nil) ?_
        rw [bad (decide_eq_true (by omega))]; rfl
      · rename_i h1 h2 h3
        refine J.keep [5, 4, 3, 1] rfl (J.dropHd (ih2 hjl _ _ ⟨rfl, rfl, ?_⟩))
        rw [hsn, hi2]
        simp only [Bool.false_or]
        exact decide_eq_false (by omega)
    · obtain rfl : j = (nthAt (eSl P2).dflt ls k).l.length := by omega
      rw [List.take_length] at hi2
      repeat' (first | rfl | assumption | (apply stp tt_ok; constructor) | exact Rng.mk (by omega) (by omega) | exact Bd.mk (by first | omega | (refine Nat.lt_of_lt_of_le (show _ < 1 by decide) ?_; first | omega | (rw [List.length_replicate]; omega)) | (refine Nat.lt_of_lt_of_le (show _ < 2 by decide) ?_; first | omega | (rw [List.length_replicate]; omega)) | (simp only [List.length_cons, List.length_nil]; omega)) | refine J.draw (by assumption) follows_ok (by kernel_rfl) (by decide +kernel) (by decide +kernel) ?_ | refine J.done ⟨rfl, rfl, rfl, ?_⟩ | constructor | (intro _; exfalso; omega) | intro _)
      refine J.keep [4, 3, 1] rfl (ih hlt _ _ ⟨by rw [hft]; rfl, rfl, by rw [hta, hi, hi2]; rfl⟩)
  · have hkk : (rowsOf ls).take k = rowsOf ls := List.take_of_length_le (by simp; omega)
    rw [hkk] at hi
    rw [hkk]
    repeat' (first | rfl | assumption | (apply stp tt_ok; constructor) | exact Rng.mk (by omega) (by omega) | exact Bd.mk (by first | omega | (refine Nat.lt_of_lt_of_le (show _ < 1 by decide) ?_; first | omega | (rw [List.length_replicate]; omega)) | (refine Nat.lt_of_lt_of_le (show _ < 2 by decide) ?_; first | omega | (rw [List.length_replicate]; omega)) | (simp only [List.length_cons, List.length_nil]; omega)) | refine J.draw (by assumption) follows_ok (by kernel_rfl) (by decide +kernel) (by decide +kernel) ?_ | refine J.done ⟨rfl, rfl, rfl, ?_⟩ | constructor | (intro _; exfalso; omega) | intro _)
    all_goals
      refine J.give0 tt_ok rfl (.cons (.tmp rfl) .nil) ?_
      unfold netGood; rw [rowsOf_length, hi]; simp [resV, -List.length_flatten]; omega
end
end Go.Proofs.YtmlgmgjakhbhjaaGreatDoor.Ab

namespace Go.Proofs.YtmlgmgjakhbhjaaGreatDoor.Ab
open Go

/-- What edges by nothing lead to. -/
inductive Reach (n : List (List P2)) (l : List Int) : Int → Prop where
  | seed {s} : s ∈ l → Reach n l s
  | step {s t} : Reach n l s → ((-1 : Int), t) ∈ nthAt [] n s.toNat → Reach n l t

/-- A set as a rising list. -/
structure IsSet (p : Int → Prop) (l : List Int) : Prop where
  up : l.Pairwise (· < ·)
  mem : ∀ s, s ∈ l ↔ p s

theorem rising_ext : ∀ (l m : List Int), l.Pairwise (· < ·) → m.Pairwise (· < ·) → (∀ s, s ∈ l ↔ s ∈ m) → l = m
  | [], [], _, _, _ => rfl
  | [], b :: m, _, _, h => absurd ((h b).2 (.head _)) (by simp)
  | a :: l, [], _, _, h => absurd ((h a).1 (.head _)) (by simp)
  | a :: l, b :: m, hl, hm, h => by
    rw [List.pairwise_cons] at hl hm
    have hab : a = b := by
      have h1 := (h a).1 (.head _)
      have h2 := (h b).2 (.head _)
      simp only [List.mem_cons] at h1 h2
      rcases h1 with h1 | h1
      · exact h1
      · rcases h2 with h2 | h2
        · exact h2.symm
        · have := hm.1 a h1
          have := hl.1 b h2
          omega
    subst hab
    congr 1
    refine rising_ext l m hl.2 hm.2 fun s => ?_
    have hs := h s
    simp only [List.mem_cons] at hs
    constructor
    · intro hx
      rcases hs.1 (.inr hx) with e | e
      · subst e; have := hl.1 s hx; omega
      · exact e
    · intro hx
      rcases hs.2 (.inr hx) with e | e
      · subst e; have := hm.1 s hx; omega
      · exact e
theorem IsSet.ext {p q : Int → Prop} {l m : List Int} (h : IsSet p l) (h' : IsSet q m) (hpq : ∀ s, p s ↔ q s) : l = m := rising_ext l m h.up h'.up fun s => by rw [h.mem, h'.mem, hpq]

theorem nodup_le : ∀ (m : Nat) (l : List Int), l.Nodup → (∀ s ∈ l, 0 ≤ s ∧ s < m) → l.length ≤ m
  | 0, [], _, _ => Nat.le_refl _
  | 0, a :: l, _, h => by have := h a (.head _); omega
  | m + 1, l, hn, h => by
    by_cases hm : (m : Int) ∈ l
    · have h1 := nodup_le m (l.erase (m : Int)) (hn.erase _) fun s hs => by
        have h2 := (List.Nodup.mem_erase_iff hn).1 hs
        have := h s h2.2
        omega
      rw [List.length_erase_of_mem hm] at h1
      omega
    · have := nodup_le m l hn fun s hs => by
        have := h s hs
        have : s ≠ m := fun e => hm (e ▸ hs)
        omega
      omega

/-- Edges and seeds stay within the states. -/
structure NetIn (n : List (List P2)) (l : List Int) : Prop where
  to : ∀ s x, x ∈ nthAt [] n s → 0 ≤ x.2 ∧ x.2 < n.length
  from' : ∀ s ∈ l, 0 ≤ s ∧ s < n.length
theorem Reach.in {n : List (List P2)} {l : List Int} (h : NetIn n l) {s : Int} (hr : Reach n l s) : 0 ≤ s ∧ s < n.length := by
  cases hr with
  | seed hs => exact h.from' _ hs
  | step _ hx => exact h.to _ _ hx

theorem netGood_spec {n : List (List P2)} (h : netGood n = true) : 2 ≤ n.length ∧ n.length ≤ 2000 ∧ n.flatten.length ≤ 8000 ∧ ∀ s x, x ∈ nthAt [] n s → -1 ≤ x.1 ∧ 0 ≤ x.2 ∧ x.2 < n.length := by
  unfold netGood at h
  simp only [Bool.and_eq_true, decide_eq_true_eq] at h
  obtain ⟨⟨h1, h2⟩, h3⟩ := h
  refine ⟨h1.1, h1.2, h3, fun s x hx => ?_⟩
  by_cases hs : s < n.length
  · rw [nthAt_get hs] at hx
    rw [List.all_eq_true] at h2
    have := h2 _ (List.getElem_mem hs)
    simp only [Bool.not_eq_true', List.any_eq_false] at this
    have := this x hx
    unfold eBad at this
    simp only [decide_eq_true_eq] at this
    omega
  · unfold nthAt at hx
    rw [List.getD_eq_getElem?_getD, List.getElem?_eq_none (by omega)] at hx
    cases hx
theorem mayB_spec {n : List (List P2)} {l : List Int} (h : mayB n l = true) : netGood n = true ∧ NetIn n l := by
  unfold mayB at h
  simp only [Bool.and_eq_true, Bool.not_eq_true', List.any_eq_false] at h
  obtain ⟨_, _, _, h4⟩ := netGood_spec h.1
  refine ⟨h.1, fun s x hx => (h4 s x hx).2, fun s hs => ?_⟩
  have := h.2 s hs
  unfold sBad at this
  simp only [decide_eq_true_eq] at this
  omega

/- ## going through, with a queue -/
structure CI (n : List (List P2)) (l : List Int) (inb : List Bool) (q out : List Int) : Prop where
  len : inb.length = n.length
  nd : (out ++ q).Nodup
  mem : ∀ s, s ∈ out ++ q ↔ (0 ≤ s ∧ s < n.length ∧ nthAt false inb s.toNat = true)
  sound : ∀ s ∈ out ++ q, Reach n l s

theorem nthAt_set {α : Type} {d : α} {l : List α} {k j : Nat} {x : α} (hk : k < l.length) : nthAt d (l.set k x) j = if j = k then x else nthAt d l j := by
  unfold nthAt
  rw [List.getD_eq_getElem?_getD, List.getD_eq_getElem?_getD, List.getElem?_set]
  by_cases h : k = j
  · subst h; simp [hk]
  · rw [if_neg h, if_neg (Ne.symm h)]

theorem CI.add {n : List (List P2)} {l : List Int} {inb : List Bool} {q out : List Int} (h : CI n l inb q out) {k : Nat} (hk : k < n.length) (hr : Reach n l k) (hb : nthAt false inb k = false) : CI n l (inb.set k true) (q ++ [(k : Int)]) out where
  len := by simp [h.len]
  nd := by
    rw [← List.append_assoc]
    rw [List.nodup_append]
    refine ⟨h.nd, by simp, fun a ha b hb' e => ?_⟩
    simp only [List.mem_singleton] at hb'
    subst hb'
    subst e
    have := ((h.mem _).1 ha).2.2
    simp only [Int.toNat_natCast] at this
    rw [hb] at this
    cases this
  mem s := by
    rw [← List.append_assoc, List.mem_append, h.mem, List.mem_singleton]
    constructor
    · rintro (⟨a, b, c⟩ | rfl)
      · refine ⟨a, b, ?_⟩
        rw [nthAt_set (by rw [h.len]; exact hk)]
        split
        · rfl
        · exact c
      · refine ⟨by omega, by omega, ?_⟩
        rw [nthAt_set (by rw [h.len]; exact hk)]
        simp
    · rintro ⟨a, b, c⟩
      rw [nthAt_set (by rw [h.len]; exact hk)] at c
      split at c
      · right; omega
      · exact .inl ⟨a, b, c⟩
  sound s hs := by
    rw [← List.append_assoc, List.mem_append, List.mem_singleton] at hs
    rcases hs with hs | rfl
    · exact h.sound s hs
    · exact hr

theorem CI.room {n : List (List P2)} {l : List Int} {inb : List Bool} {q out : List Int} (h : CI n l inb q out) {k : Nat} (hk : k < n.length) (hb : nthAt false inb k = false) : q.length < n.length := by
  have hnd : ((k : Int) :: (out ++ q)).Nodup := by
    rw [List.nodup_cons]
    refine ⟨fun hm => ?_, h.nd⟩
    have := ((h.mem _).1 hm).2.2
    simp only [Int.toNat_natCast] at this
    rw [hb] at this
    cases this
  have := nodup_le n.length _ hnd fun s hs => by
    simp only [List.mem_cons] at hs
    rcases hs with rfl | hs
    · omega
    · have := (h.mem s).1 hs
      exact ⟨this.1, this.2.1⟩
  simp only [List.length_cons, List.length_append] at this
  omega
theorem CI.out_le {n : List (List P2)} {l : List Int} {inb : List Bool} {q out : List Int} (h : CI n l inb q out) : out.length + q.length ≤ n.length := by
  have := nodup_le n.length _ h.nd fun s hs => by
    have := (h.mem s).1 hs
    exact ⟨this.1, this.2.1⟩
  simpa using this
theorem CI.pop {n : List (List P2)} {l : List Int} {inb : List Bool} {q out : List Int} {s : Int} (h : CI n l inb (s :: q) out) : CI n l inb q (out ++ [s]) where
  len := h.len
  nd := by have := h.nd; simpa using this
  mem t := by have := h.mem t; simpa using this
  sound t ht := h.sound t (by simpa using ht)

/-- What is in, stays in. -/
def isIn (inb : List Bool) (s : Int) : Prop := nthAt false inb s.toNat = true
theorem isIn_set {inb : List Bool} {s : Int} {k : Nat} (hk : k < inb.length) (h : isIn inb s) : isIn (inb.set k true) s := by
  unfold isIn at h ⊢
  rw [nthAt_set hk]
  split
  · rfl
  · exact h
theorem isIn_self {inb : List Bool} {k : Nat} (hk : k < inb.length) : isIn (inb.set k true) (k : Int) := by
  unfold isIn
  rw [nthAt_set hk]
  simp

/-- All is gone through. -/
theorem CI.done {n : List (List P2)} {l : List Int} {inb : List Bool} {out : List Int} (h : CI n l inb [] out) (hn : NetIn n l) (hs : ∀ s ∈ l, isIn inb s) (hc : ∀ s ∈ out, ∀ t, ((-1 : Int), t) ∈ nthAt [] n s.toNat → isIn inb t) : ∀ s, s ∈ out ↔ Reach n l s := by
  have hm : ∀ s, s ∈ out ↔ (0 ≤ s ∧ s < n.length ∧ isIn inb s) := fun s => by have := h.mem s; simpa [isIn] using this
  intro s
  constructor
  · intro hx; exact h.sound s (by simpa using hx)
  · intro hr
    have key : 0 ≤ s ∧ s < n.length := hr.in hn
    induction hr with
    | seed hx => exact (hm _).2 ⟨key.1, key.2, hs _ hx⟩
    | step hr' hx ih => exact (hm _).2 ⟨key.1, key.2, hc _ (ih (hr'.in hn)) _ hx⟩

theorem sortI_perm (l : List Int) : (sortI l).Perm l := List.mergeSort_perm l _
theorem sortI_le (l : List Int) : (sortI l).Pairwise (· ≤ ·) := by
  have := List.pairwise_mergeSort (le := fun x y : Int => decide (x ≤ y)) (fun a b c h1 h2 => by simp at h1 h2 ⊢; omega) (fun a b => by simp; omega) l
  exact this.imp fun h => by simpa using h
theorem sortI_set {p : Int → Prop} {l : List Int} (hn : l.Nodup) (h : ∀ s, s ∈ l ↔ p s) : IsSet p (sortI l) where
  up := by
    have h1 := sortI_le l
    have h2 : (sortI l).Nodup := (sortI_perm l).nodup_iff.2 hn
    have h3 := h1.and h2
    exact h3.imp fun ⟨a, b⟩ => by omega
  mem s := by rw [(sortI_perm l).mem_iff, h]
theorem sortI_len (l : List Int) : (sortI l).length = l.length := (sortI_perm l).length_eq
end Go.Proofs.YtmlgmgjakhbhjaaGreatDoor.Ab

namespace Go.Proofs.YtmlgmgjakhbhjaaGreatDoor.Ab
open Go Go.Proofs
noncomputable section
attribute [local irreducible] J Con Lv CallJ

/-- What is gone through: which states are in, and a queue. -/
def stQ (i5 ir i6 ic m : Nat) (inb : List Bool) (q : List Int) : Seg := [(i5, .row [.slice (some ⟨ir, 0, none⟩) m m] 25 .fixed), (ir, .row (inb.flatMap eB.enc) 4 .fixed), (i6, .row [.chan (some ic)] 151 .fixed), (ic, .chan m (q.map (Value.int .i64)))]

theorem f93_ok {hk : HKT} (U : HkU hk) (M : Imm) (i5 ir i6 ic m : Nat) (inb : List Bool) (q : List Int) (k : Nat) (hk' : k < m) (hm : inb.length = m) (hq : nthAt false inb k = false → q.length < m) :
    Con Tryz.prog hk 93 [.int .i64 (k : Int), .pointer (some ⟨i5, 0, none⟩), .pointer (some ⟨i6, 0, none⟩)] M (stQ i5 ir i6 ic m inb q)
      (Returns fun v l' => v = .tuple ⟨[]⟩ ∧ l' = if nthAt false inb k then stQ i5 ir i6 ic m inb q else stQ i5 ir i6 ic m (inb.set k true) (q ++ [(k : Int)])) := by
  refine Con.of_body (U.no 93 rfl) Tryz.func93 rfl rfl Tryz.ntmps93 rfl rfl ?_
  refine J.perm (L' := [[_], [_], [_], [_]]) (List.Perm.refl (stQ i5 ir i6 ic m inb q)) ?_
  subst hm
  have hdf : nthAt eB.dflt inb k = nthAt false inb k := rfl
  cases hb : nthAt false inb k
  · rw [hb] at hdf
    have hq' := hq hb
    have hml : (q.map (Value.int .i64)).length = q.length := List.length_map _
    repeat' (first | rfl | assumption | (apply stp tt_ok; constructor) | exact Rng.mk (by omega) (by omega) | exact Bd.mk (by first | omega | (refine Nat.lt_of_lt_of_le (show _ < 1 by decide) ?_; first | omega | (rw [List.length_replicate]; omega)) | (refine Nat.lt_of_lt_of_le (show _ < 2 by decide) ?_; first | omega | (rw [List.length_replicate]; omega)) | (simp only [List.length_cons, List.length_nil]; omega)) | refine J.draw (by assumption) follows_ok (by kernel_rfl) (by decide +kernel) (by decide +kernel) ?_ | refine J.done ⟨rfl, rfl, rfl, ?_⟩ | constructor | (intro _; exfalso; omega) | intro _)
    rw [hdf]
    repeat' (first | rfl | assumption | (apply stp tt_ok; constructor) | exact Rng.mk (by omega) (by omega) | exact Bd.mk (by first | omega | (refine Nat.lt_of_lt_of_le (show _ < 1 by decide) ?_; first | omega | (rw [List.length_replicate]; omega)) | (refine Nat.lt_of_lt_of_le (show _ < 2 by decide) ?_; first | omega | (rw [List.length_replicate]; omega)) | (simp only [List.length_cons, List.length_nil]; omega)) | refine J.draw (by assumption) follows_ok (by kernel_rfl) (by decide +kernel) (by decide +kernel) ?_ | refine J.done ⟨rfl, rfl, rfl, ?_⟩ | constructor | (intro _; exfalso; omega) | intro _)
    refine J.retsD tt_ok rfl .nil rfl (R := []) (s := stQ i5 ir i6 ic inb.length (inb.set k true) (q ++ [(k : Int)])) (by simp [stQ]) ⟨rfl, by simp⟩
  · rw [hb] at hdf
    repeat' (first | rfl | assumption | (apply stp tt_ok; constructor) | exact Rng.mk (by omega) (by omega) | exact Bd.mk (by first | omega | (refine Nat.lt_of_lt_of_le (show _ < 1 by decide) ?_; first | omega | (rw [List.length_replicate]; omega)) | (refine Nat.lt_of_lt_of_le (show _ < 2 by decide) ?_; first | omega | (rw [List.length_replicate]; omega)) | (simp only [List.length_cons, List.length_nil]; omega)) | refine J.draw (by assumption) follows_ok (by kernel_rfl) (by decide +kernel) (by decide +kernel) ?_ | refine J.done ⟨rfl, rfl, rfl, ?_⟩ | constructor | (intro _; exfalso; omega) | intro _)
    rw [hdf]
    repeat' (first | rfl | assumption | (apply stp tt_ok; constructor) | exact Rng.mk (by omega) (by omega) | exact Bd.mk (by first | omega | (refine Nat.lt_of_lt_of_le (show _ < 1 by decide) ?_; first | omega | (rw [List.length_replicate]; omega)) | (refine Nat.lt_of_lt_of_le (show _ < 2 by decide) ?_; first | omega | (rw [List.length_replicate]; omega)) | (simp only [List.length_cons, List.length_nil]; omega)) | refine J.draw (by assumption) follows_ok (by kernel_rfl) (by decide +kernel) (by decide +kernel) ?_ | refine J.done ⟨rfl, rfl, rfl, ?_⟩ | constructor | (intro _; exfalso; omega) | intro _)
    refine J.retsD tt_ok rfl .nil rfl (R := []) (s := stQ i5 ir i6 ic inb.length inb q) (List.Perm.refl _) ⟨rfl, by simp⟩

theorem CI.init (n : List (List P2)) (l : List Int) (m : Nat) (hm : m = n.length) : CI n l (List.replicate m false) [] [] where
  len := by simp [hm]
  nd := by simp
  mem s := by
    simp only [List.append_nil, List.not_mem_nil, false_iff]
    rintro ⟨_, _, h⟩
    unfold nthAt at h
    rw [List.getD_eq_getElem?_getD, List.getElem?_replicate] at h
    by_cases hh : s.toNat < m
    · rw [if_pos hh] at h; cases h
    · rw [if_neg hh] at h; cases h
  sound := by simp
end
end Go.Proofs.YtmlgmgjakhbhjaaGreatDoor.Ab

namespace Go.Proofs.YtmlgmgjakhbhjaaGreatDoor.Ab
open Go Go.Proofs
noncomputable section
attribute [local irreducible] J Con Lv CallJ

set_option maxHeartbeats 4000000 in
theorem f52_ok {hk : HKT} (U : HkU hk) (M : Imm) {a b : Option Addr} {c d : Nat} {ls : List (SlOf P2)} {l : List Int} (hr : Rows M eP a ls) (hl : IsSl M eI b l) (hg : netGood (rowsOf ls) = true) (hn : NetIn (rowsOf ls) l) :
    Con Tryz.prog hk 52 [.agg ⟨[.slice a ls.length c]⟩, .slice b l.length d] M []
      (Returns fun v l' => ∃ out, v = .slice (segA l') out.length (segC l') ∧ Own 3 eI l' out ∧ IsSet (Reach (rowsOf ls) l) out ∧ out.length ≤ 2000) := by
  refine Con.of_body (U.no 52 rfl) Tryz.func52 rfl rfl Tryz.ntmps52 rfl rfl ?_
  have hout := hr.out
  have hlen := hl.len
  obtain ⟨_, h2000, _, _⟩ := netGood_spec hg
  rw [rowsOf_length] at h2000
  repeat' (first | rfl | assumption | (apply stp tt_ok; constructor) | exact Rng.mk (by omega) (by omega) | exact Bd.mk (by first | omega | (refine Nat.lt_of_lt_of_le (show _ < 1 by decide) ?_; first | omega | (rw [List.length_replicate]; omega)) | (refine Nat.lt_of_lt_of_le (show _ < 2 by decide) ?_; first | omega | (rw [List.length_replicate]; omega)) | (simp only [List.length_cons, List.length_nil]; omega)) | refine J.draw (by assumption) follows_ok (by kernel_rfl) (by decide +kernel) (by decide +kernel) ?_ | refine J.done ⟨rfl, rfl, rfl, ?_⟩ | constructor | (intro _; exfalso; omega) | intro _)
  rename_i id2 ir i5 ic i6
  -- what lies about
  have seedsIn : ∀ k, k < l.length → ∃ kk : Nat, nthAt eI.dflt l k = (kk : Int) ∧ kk < ls.length ∧ nthAt eI.dflt l k ∈ l := by
    intro k hk
    have hm : nthAt eI.dflt l k ∈ l := List.mem_of_getElem? (nthAt_lt hk)
    obtain ⟨h1, h2⟩ := hn.from' _ hm
    rw [rowsOf_length] at h2
    obtain ⟨kk, e⟩ := Int.eq_ofNat_of_zero_le h1
    exact ⟨kk, e, by omega, hm⟩
  refine J.perm (L' := [stQ i5 ir i6 ic ls.length (List.replicate ls.length false) [], [(id2, .row [.slice a ls.length c] 24 .fixed)]]) (by
    simp only [stQ, List.map_nil, List.flatten_cons, List.flatten_nil, List.append_nil, List.cons_append, List.nil_append]
    exact (List.perm_append_comm (l₁ := [_, _]) (l₂ := [_, _])).append_right [_]) ?_
  refine J.keep [24, 23, 22, 7, 6, 2] rfl ?_
  refine J.forN l.length (fun k E L => ∃ inb q, E = [(24, .int .i64 (k : Int)), (23, .int .i64 l.length), (22, .slice b l.length d), (7, .func (.func 93) #[] ⟨[.pointer (some ⟨i5, 0, none⟩), .pointer (some ⟨i6, 0, none⟩)]⟩), (6, .pointer (some ⟨i6, 0, none⟩)), (2, .pointer (some ⟨id2, 0, none⟩))] ∧
    L = [stQ i5 ir i6 ic ls.length inb q, [(id2, .row [.slice a ls.length c] 24 .fixed)]] ∧ CI (rowsOf ls) l inb q [] ∧ ∀ j, j < k → isIn inb (nthAt eI.dflt l j))
    ⟨_, _, rfl, rfl, CI.init _ _ _ (by simp), fun j hj => by omega⟩ ?_
  rintro k E L hk' ⟨inb, q, rfl, rfl, hci, hin⟩ ih
  have hil := hci.len
  rw [rowsOf_length] at hil
  by_cases hlt : k < l.length
  · obtain ⟨kk, hkk, hkl, hmem⟩ := seedsIn k hlt
    repeat' (first | rfl | assumption | (apply stp tt_ok; constructor) | exact Rng.mk (by omega) (by omega) | exact Bd.mk (by first | omega | (refine Nat.lt_of_lt_of_le (show _ < 1 by decide) ?_; first | omega | (rw [List.length_replicate]; omega)) | (refine Nat.lt_of_lt_of_le (show _ < 2 by decide) ?_; first | omega | (rw [List.length_replicate]; omega)) | (simp only [List.length_cons, List.length_nil]; omega)) | refine J.draw (by assumption) follows_ok (by kernel_rfl) (by decide +kernel) (by decide +kernel) ?_ | refine J.done ⟨rfl, rfl, rfl, ?_⟩ | constructor | (intro _; exfalso; omega) | intro _)
    rw [hkk]
    refine CallJ.ret (Pick.perm .here) (f93_ok U M i5 ir i6 ic ls.length inb q kk hkl hil fun hb => by have := hci.room (k := kk) (by simpa using hkl) hb; simpa using this) ?_
    rintro v l' ⟨rfl, rfl⟩
    cases hb : nthAt false inb kk
    · repeat' (first | rfl | assumption | (apply stp tt_ok; constructor) | exact Rng.mk (by omega) (by omega) | exact Bd.mk (by first | omega | (refine Nat.lt_of_lt_of_le (show _ < 1 by decide) ?_; first | omega | (rw [List.length_replicate]; omega)) | (refine Nat.lt_of_lt_of_le (show _ < 2 by decide) ?_; first | omega | (rw [List.length_replicate]; omega)) | (simp only [List.length_cons, List.length_nil]; omega)) | refine J.draw (by assumption) follows_ok (by kernel_rfl) (by decide +kernel) (by decide +kernel) ?_ | refine J.done ⟨rfl, rfl, rfl, ?_⟩ | constructor | (intro _; exfalso; omega) | intro _)
      refine J.keep [24, 23, 22, 7, 6, 2] rfl (ih hlt _ _ ⟨_, _, rfl, rfl, hci.add (by simpa using hkl) (.seed (hkk ▸ hmem)) hb, fun j hj => ?_⟩)
      by_cases hjk : j = k
      · subst hjk; rw [hkk]; exact isIn_self (by omega)
      · exact isIn_set (by omega) (hin j (by omega))
    · repeat' (first | rfl | assumption | (apply stp tt_ok; constructor) | exact Rng.mk (by omega) (by omega) | exact Bd.mk (by first | omega | (refine Nat.lt_of_lt_of_le (show _ < 1 by decide) ?_; first | omega | (rw [List.length_replicate]; omega)) | (refine Nat.lt_of_lt_of_le (show _ < 2 by decide) ?_; first | omega | (rw [List.length_replicate]; omega)) | (simp only [List.length_cons, List.length_nil]; omega)) | refine J.draw (by assumption) follows_ok (by kernel_rfl) (by decide +kernel) (by decide +kernel) ?_ | refine J.done ⟨rfl, rfl, rfl, ?_⟩ | constructor | (intro _; exfalso; omega) | intro _)
      refine J.keep [24, 23, 22, 7, 6, 2] rfl (ih hlt _ _ ⟨_, _, rfl, rfl, hci, fun j hj => ?_⟩)
      by_cases hjk : j = k
      · subst hjk; rw [hkk]; unfold isIn; simpa using hb
      · exact hin j (by omega)
  · have hseeds : ∀ s ∈ l, isIn inb s := by
      intro s hs
      obtain ⟨j, hj, e⟩ := List.mem_iff_getElem.1 hs
      have := hin j (by omega)
      rw [nthAt_get hj, e] at this
      exact this
    clear hin ih
    repeat' (first | rfl | assumption | (apply stp tt_ok; constructor) | exact Rng.mk (by omega) (by omega) | exact Bd.mk (by first | omega | (refine Nat.lt_of_lt_of_le (show _ < 1 by decide) ?_; first | omega | (rw [List.length_replicate]; omega)) | (refine Nat.lt_of_lt_of_le (show _ < 2 by decide) ?_; first | omega | (rw [List.length_replicate]; omega)) | (simp only [List.length_cons, List.length_nil]; omega)) | refine J.draw (by assumption) follows_ok (by kernel_rfl) (by decide +kernel) (by decide +kernel) ?_ | refine J.done ⟨rfl, rfl, rfl, ?_⟩ | constructor | (intro _; exfalso; omega) | intro _)
    refine J.addNil ?_
    refine J.keep [10, 7, 6, 2] rfl ?_
    refine J.while (fun mm E D' M' L rc' => ∃ inb q out s, mm = ls.length - out.length ∧ E = [(10, .slice (segA s) out.length (segC s)), (7, .func (.func 93) #[] ⟨[.pointer (some ⟨i5, 0, none⟩), .pointer (some ⟨i6, 0, none⟩)]⟩), (6, .pointer (some ⟨i6, 0, none⟩)), (2, .pointer (some ⟨id2, 0, none⟩))] ∧
      D' = [] ∧ M' = M ∧ rc' = .norm ∧ L = [s, stQ i5 ir i6 ic ls.length inb q, [(id2, .row [.slice a ls.length c] 24 .fixed)]] ∧ Own 3 eI s out ∧ CI (rowsOf ls) l inb q out ∧ (∀ s ∈ l, isIn inb s) ∧ ∀ s ∈ out, ∀ t, ((-1 : Int), t) ∈ nthAt [] (rowsOf ls) s.toNat → isIn inb t)
      (m := ls.length) ⟨inb, q, [], [], rfl, rfl, rfl, rfl, rfl, rfl, Own.nil _ _, hci, hseeds, by simp⟩ ?_
    clear hci hseeds hil
    rintro mm E D' M' L rc' ⟨inb, q, out, s, rfl, rfl, rfl, rfl, rfl, rfl, hown, hci, hseeds, hclo⟩ ih
    have hil := hci.len
    rw [rowsOf_length] at hil
    have hol := hci.out_le
    rw [rowsOf_length] at hol
    cases q with
    | nil =>
      refine J.perm (L' := [s, [_], [_], [_], [_], [_]]) (List.Perm.refl _) ?_
      repeat' (first | rfl | assumption | (apply stp tt_ok; constructor) | exact Rng.mk (by omega) (by omega) | exact Bd.mk (by first | omega | (refine Nat.lt_of_lt_of_le (show _ < 1 by decide) ?_; first | omega | (rw [List.length_replicate]; omega)) | (refine Nat.lt_of_lt_of_le (show _ < 2 by decide) ?_; first | omega | (rw [List.length_replicate]; omega)) | (simp only [List.length_cons, List.length_nil]; omega)) | refine J.draw (by assumption) follows_ok (by kernel_rfl) (by decide +kernel) (by decide +kernel) ?_ | refine J.done ⟨rfl, rfl, rfl, ?_⟩ | constructor | (intro _; exfalso; omega) | intro _)
      refine CallJ.ret (Pick.perm .here) (U.sort _ s out hown (Nat.le_trans hol (by omega))) ?_
      rintro v l' ⟨rfl, hl', ha, hc⟩
      repeat' (first | rfl | assumption | (apply stp tt_ok; constructor) | exact Rng.mk (by omega) (by omega) | exact Bd.mk (by first | omega | (refine Nat.lt_of_lt_of_le (show _ < 1 by decide) ?_; first | omega | (rw [List.length_replicate]; omega)) | (refine Nat.lt_of_lt_of_le (show _ < 2 by decide) ?_; first | omega | (rw [List.length_replicate]; omega)) | (simp only [List.length_cons, List.length_nil]; omega)) | refine J.draw (by assumption) follows_ok (by kernel_rfl) (by decide +kernel) (by decide +kernel) ?_ | refine J.done ⟨rfl, rfl, rfl, ?_⟩ | constructor | (intro _; exfalso; omega) | intro _)
      have hd := hci.done hn hseeds hclo
      have hlen' : (sortI out).length = out.length := by simp [sortI]
      refine J.rets tt_ok rfl (.cons (.tmp rfl) .nil) rfl (s := l') (List.Perm.refl _) ⟨sortI out, by rw [hlen', ha, hc]; rfl, hl', sortI_set (by simpa using hci.nd) hd, by rw [hlen']; omega⟩
    | cons s0 q =>
      refine J.perm (L' := [s, [_], [_], [_], [_], [_]]) (List.Perm.refl _) ?_
      have hs0 := (hci.mem s0).1 (by simp)
      obtain ⟨k0, rfl⟩ := Int.eq_ofNat_of_zero_le hs0.1
      have hk0 : k0 < ls.length := by have := hs0.2.1; rw [rowsOf_length] at this; omega
      have hin := hr.at k0
      have hil2 := hin.len
      have hrn := rowsOf_nth ls k0
      repeat' (first | rfl | assumption | (apply stp tt_ok; constructor) | exact Rng.mk (by omega) (by omega) | exact Bd.mk (by first | omega | (refine Nat.lt_of_lt_of_le (show _ < 1 by decide) ?_; first | omega | (rw [List.length_replicate]; omega)) | (refine Nat.lt_of_lt_of_le (show _ < 2 by decide) ?_; first | omega | (rw [List.length_replicate]; omega)) | (simp only [List.length_cons, List.length_nil]; omega)) | refine J.draw (by assumption) follows_ok (by kernel_rfl) (by decide +kernel) (by decide +kernel) ?_ | refine J.done ⟨rfl, rfl, rfl, ?_⟩ | constructor | (intro _; exfalso; omega) | intro _)
      rename_i _ idb s'X hownX
      refine J.dropHd ?_
      refine J.perm (L' := [s'X, stQ i5 ir i6 ic ls.length inb q, [(id2, .row [.slice a ls.length c] 24 .fixed)]]) (by
        simp only [stQ, List.flatten_cons, List.flatten_nil, List.append_nil, List.cons_append, List.nil_append]
        exact List.Perm.refl _) ?_
      refine J.keep [50, 49, 48, 10, 7, 6, 2] rfl ?_
      refine J.forN (nthAt (eSl P2).dflt ls k0).l.length (fun k E L => ∃ inb q, E = [(50, .int .i64 (k : Int)), (49, .int .i64 (nthAt (eSl P2).dflt ls k0).l.length), (48, .slice (nthAt (eSl P2).dflt ls k0).a (nthAt (eSl P2).dflt ls k0).l.length (nthAt (eSl P2).dflt ls k0).c), (10, .slice (segA s'X) (out ++ [(k0 : Int)]).length (segC s'X)), (7, .func (.func 93) #[] ⟨[.pointer (some ⟨i5, 0, none⟩), .pointer (some ⟨i6, 0, none⟩)]⟩), (6, .pointer (some ⟨i6, 0, none⟩)), (2, .pointer (some ⟨id2, 0, none⟩))] ∧
        L = [s'X, stQ i5 ir i6 ic ls.length inb q, [(id2, .row [.slice a ls.length c] 24 .fixed)]] ∧ CI (rowsOf ls) l inb q (out ++ [(k0 : Int)]) ∧ (∀ s ∈ l, isIn inb s) ∧ (∀ s ∈ out, ∀ t, ((-1 : Int), t) ∈ nthAt [] (rowsOf ls) s.toNat → isIn inb t) ∧
        ∀ j, j < k → (nthAt eP.dflt (nthAt (eSl P2).dflt ls k0).l j).1 = -1 → isIn inb (nthAt eP.dflt (nthAt (eSl P2).dflt ls k0).l j).2)
        ⟨inb, q, rfl, rfl, hci.pop, hseeds, hclo, fun j hj => by omega⟩ ?_
      clear hci hseeds hclo
      rintro k E L hk' ⟨inb, q, rfl, rfl, hci, hseeds, hclo, hrow⟩ ih2
      by_cases hlt : k < (nthAt (eSl P2).dflt ls k0).l.length
      · repeat' (first | rfl | assumption | (apply stp tt_ok; constructor) | exact Rng.mk (by omega) (by omega) | exact Bd.mk (by first | omega | (refine Nat.lt_of_lt_of_le (show _ < 1 by decide) ?_; first | omega | (rw [List.length_replicate]; omega)) | (refine Nat.lt_of_lt_of_le (show _ < 2 by decide) ?_; first | omega | (rw [List.length_replicate]; omega)) | (simp only [List.length_cons, List.length_nil]; omega)) | refine J.draw (by assumption) follows_ok (by kernel_rfl) (by decide +kernel) (by decide +kernel) ?_ | refine J.done ⟨rfl, rfl, rfl, ?_⟩ | constructor | (intro _; exfalso; omega) | intro _)
        · have hx : nthAt eP.dflt (nthAt (eSl P2).dflt ls k0).l k ∈ nthAt [] (rowsOf ls) k0 := by
            rw [hrn]; exact List.mem_of_getElem? (nthAt_lt hlt)
          have hto := hn.to k0 _ hx
          rw [rowsOf_length] at hto
          rename_i idg he
          obtain ⟨kk, hkk⟩ := Int.eq_ofNat_of_zero_le hto.1
          have hkl : kk < ls.length := by omega
          have hi2 := hci.len
          rw [rowsOf_length] at hi2
          have hrk : Reach (rowsOf ls) l kk := by
            refine .step (hci.sound k0 (by simp)) ?_
            rw [← hkk, ← he]
            exact hx
          rw [hkk]
          refine CallJ.ret (Pick.perm (.there (.there .here))) (f93_ok U _ i5 ir i6 ic ls.length inb q kk hkl hi2 fun hb => by have := hci.room (k := kk) (by simpa using hkl) hb; simpa using this) ?_
          rintro v l' ⟨rfl, rfl⟩
          cases hb : nthAt false inb kk
          · repeat' (first | rfl | assumption | (apply stp tt_ok; constructor) | exact Rng.mk (by omega) (by omega) | exact Bd.mk (by first | omega | (refine Nat.lt_of_lt_of_le (show _ < 1 by decide) ?_; first | omega | (rw [List.length_replicate]; omega)) | (refine Nat.lt_of_lt_of_le (show _ < 2 by decide) ?_; first | omega | (rw [List.length_replicate]; omega)) | (simp only [List.length_cons, List.length_nil]; omega)) | refine J.draw (by assumption) follows_ok (by kernel_rfl) (by decide +kernel) (by decide +kernel) ?_ | refine J.done ⟨rfl, rfl, rfl, ?_⟩ | constructor | (intro _; exfalso; omega) | intro _)
            refine J.sel [2, 0, 1] rfl ?_
            refine J.keep [50, 49, 48, 10, 7, 6, 2] rfl (ih2 hlt _ _ ⟨_, _, rfl, rfl, hci.add (by simpa using hkl) hrk hb, fun s hs => isIn_set (by omega) (hseeds s hs), fun s hs t ht => isIn_set (by omega) (hclo s hs t ht), fun j hj h1 => ?_⟩)
            by_cases hjk : j = k
            · subst hjk; rw [hkk]; exact isIn_self (by omega)
            · exact isIn_set (by omega) (hrow j (by omega) h1)
          · repeat' (first | rfl | assumption | (apply stp tt_ok; constructor) | exact Rng.mk (by omega) (by omega) | exact Bd.mk (by first | omega | (refine Nat.lt_of_lt_of_le (show _ < 1 by decide) ?_; first | omega | (rw [List.length_replicate]; omega)) | (refine Nat.lt_of_lt_of_le (show _ < 2 by decide) ?_; first | omega | (rw [List.length_replicate]; omega)) | (simp only [List.length_cons, List.length_nil]; omega)) | refine J.draw (by assumption) follows_ok (by kernel_rfl) (by decide +kernel) (by decide +kernel) ?_ | refine J.done ⟨rfl, rfl, rfl, ?_⟩ | constructor | (intro _; exfalso; omega) | intro _)
            refine J.sel [2, 0, 1] rfl ?_
            refine J.keep [50, 49, 48, 10, 7, 6, 2] rfl (ih2 hlt _ _ ⟨_, _, rfl, rfl, hci, hseeds, hclo, fun j hj h1 => ?_⟩)
            by_cases hjk : j = k
            · subst hjk; rw [hkk]; unfold isIn; simpa using hb
            · exact hrow j (by omega) h1
        · refine J.dropHd ?_
          refine J.keep [50, 49, 48, 10, 7, 6, 2] rfl (ih2 hlt _ _ ⟨_, _, rfl, rfl, hci, hseeds, hclo, fun j hj h1 => ?_⟩)
          by_cases hjk : j = k
          · subst hjk; rename_i he; exact absurd h1 he
          · exact hrow j (by omega) h1
      · repeat' (first | rfl | assumption | (apply stp tt_ok; constructor) | exact Rng.mk (by omega) (by omega) | exact Bd.mk (by first | omega | (refine Nat.lt_of_lt_of_le (show _ < 1 by decide) ?_; first | omega | (rw [List.length_replicate]; omega)) | (refine Nat.lt_of_lt_of_le (show _ < 2 by decide) ?_; first | omega | (rw [List.length_replicate]; omega)) | (simp only [List.length_cons, List.length_nil]; omega)) | refine J.draw (by assumption) follows_ok (by kernel_rfl) (by decide +kernel) (by decide +kernel) ?_ | refine J.done ⟨rfl, rfl, rfl, ?_⟩ | constructor | (intro _; exfalso; omega) | intro _)
        refine J.keep [10, 7, 6, 2] rfl (ih _ _ _ _ _ _ ?_ ⟨inb, q, out ++ [(k0 : Int)], s'X, rfl, rfl, rfl, rfl, rfl, rfl, hownX, hci, hseeds, fun s hs t ht => ?_⟩)
        · simp only [List.length_append, List.length_cons, List.length_nil] at hol ⊢
          omega
        · simp only [List.mem_append, List.mem_singleton] at hs
          rcases hs with hs | rfl
          · exact hclo s hs t ht
          · rw [Int.toNat_natCast, hrn] at ht
            obtain ⟨j, hj, e⟩ := List.mem_iff_getElem.1 ht
            have := hrow j (by omega)
            rw [nthAt_get hj, e] at this
            exact this rfl
end
end Go.Proofs.YtmlgmgjakhbhjaaGreatDoor.Ab

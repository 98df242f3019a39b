/- How an abstract heap stands for a part of the model's memory; reading, writing and making cells. Reading and writing rows of cells: the abstract heap's and the model's. Stores and new rows: the abstract heap's and the model's. Slices made, appended to, cut and cleared: the abstract heap's and the model's. -/
import Derived.Test.YtibeinbfhhoeiaaGreatDoorZA1
import Derived.IntWalk
import Derived.Laws.BytesString
namespace Go.Proofs.YtibeinbfhhoeiaaGreatDoor.Ab
open Go
noncomputable section

def elSize (P : Program) (t : TypeId) : Nat := (xsize P t).getD 0

def AObj.own : AObj → Bool
  | .row _ _ .ro => false
  | .row _ _ .dead => false
  | _ => true
def AObj.live : AObj → Bool
  | .row _ _ .dead => false
  | _ => true

def ObjRep (P : Program) (σ : Sig) (w : World) (id : Nat) : AObj → Prop
  | .row cells elem kind => kind = .dead ∨ ∃ c fr, w.heap[(σ id).blk]? = some (.cells c elem fr) ∧ (σ id).off + cells.length ≤ c.size ∧
      (∀ (j : Nat) v, cells[j]? = some v → c[(σ id).off + j]? = some (ren σ v)) ∧ (kind ≠ .ro → fr = (0, 0)) ∧
      (kind = .opn → cells.length ≤ (σ id).cap * elSize P elem ∧ (σ id).off + (σ id).cap * elSize P elem ≤ c.size) ∧
      (id < P.globals.size → c.size = cells.length) ∧ (kind = .fixed → (σ id).off = 0 ∧ c.size = cells.length)
  | .map es => ∃ me clock, w.heap[(σ id).blk]? = some (.map me clock) ∧ me.toList.map (fun e => (e.key, e.val)) = es.map (fun p => (p.1, ren σ p.2)) ∧
      (∀ p ∈ es, clo p.1 = true)
  | .chan cap buf => ∃ s r, w.heap[(σ id).blk]? = some (.chan cap ⟨buf.map (ren σ)⟩ false s r false)

def StabObj (n : Nat) : AObj → Prop
  | .row cells _ _ => ∀ v ∈ cells, Stab n v
  | .map es => ∀ p ∈ es, Stab n p.2
  | .chan _ buf => ∀ v ∈ buf, Stab n v

/-- The global variables are their own ids. -/
def GlobOk (P : Program) (σ : Sig) (n : Nat) : Prop := P.globals.size ≤ n ∧ ∀ g, g < P.globals.size → σ g = ⟨g, 0, 0⟩

structure Rep (P : Program) (σ : Sig) (H : Heap) (w : World) : Prop where
  obj : ∀ id o, H.get id = some o → ObjRep P σ w id o
  lt : ∀ id o, H.get id = some o → id < H.next
  apart : ∀ i j oi oj, i ≠ j → H.get i = some oi → H.get j = some oj → oi.live = true → oj.own = true → (σ i).blk ≠ (σ j).blk
  stab : ∀ id o, H.get id = some o → StabObj H.next o
  glob : GlobOk P σ H.next

theorem GlobOk.mono {P : Program} {σ : Sig} {n m : Nat} (h : GlobOk P σ n) (hm : n ≤ m) : GlobOk P σ m := ⟨Nat.le_trans h.1 hm, h.2⟩
theorem GlobOk.sig {P : Program} {σ σ' : Sig} {n : Nat} (h : GlobOk P σ n) (hs : ∀ i, i < n → σ i = σ' i) : GlobOk P σ' n :=
  ⟨h.1, fun g hg => by rw [← hs g (Nat.lt_of_lt_of_le hg h.1)]; exact h.2 g hg⟩

structure Stp (σ : Sig) (H : Heap) (w : World) (σ' : Sig) (H' : Heap) (w' : World) : Prop where
  ext : ∀ i, i < H.next → σ i = σ' i
  nxt : H.next ≤ H'.next
  os : w'.os = w.os
  tape : w'.tape = w.tape
  output : w'.output = w.output
  size : w.heap.size ≤ w'.heap.size
  frame : ∀ b, b < w.heap.size → (∀ i o, H.get i = some o → o.own = true → (σ i).blk ≠ b) → w'.heap[b]? = w.heap[b]?
  foot : ∀ i o, H'.get i = some o → o.own = true → (∃ j o', H.get j = some o' ∧ o'.own = true ∧ (σ j).blk = (σ' i).blk) ∨ w.heap.size ≤ (σ' i).blk
  lv : ∀ i o, H'.get i = some o → o.live = true → (∃ j o', H.get j = some o' ∧ o'.live = true ∧ (σ j).blk = (σ' i).blk) ∨ w.heap.size ≤ (σ' i).blk

theorem Stp.refl (σ : Sig) (H : Heap) (w : World) : Stp σ H w σ H w :=
  ⟨fun _ _ => rfl, Nat.le_refl _, rfl, rfl, rfl, Nat.le_refl _, fun _ _ _ => rfl, fun i o h ho => .inl ⟨i, o, h, ho, rfl⟩, fun i o h ho => .inl ⟨i, o, h, ho, rfl⟩⟩

theorem Stp.trans {σ : Sig} {H : Heap} {w : World} {σ1 : Sig} {H1 : Heap} {w1 : World} {σ2 : Sig} {H2 : Heap} {w2 : World}
    (a : Stp σ H w σ1 H1 w1) (b : Stp σ1 H1 w1 σ2 H2 w2) : Stp σ H w σ2 H2 w2 where
  ext i hi := (a.ext i hi).trans (b.ext i (Nat.lt_of_lt_of_le hi a.nxt))
  nxt := Nat.le_trans a.nxt b.nxt
  os := b.os.trans a.os
  tape := b.tape.trans a.tape
  output := b.output.trans a.output
  size := Nat.le_trans a.size b.size
  frame k hk hn := by
    rw [b.frame k (Nat.lt_of_lt_of_le hk a.size) ?_, a.frame k hk hn]
    intro i o hi ho e
    rcases a.foot i o hi ho with ⟨j, o', hj, ho', e'⟩ | h
    · exact hn j o' hj ho' (e'.trans e)
    · omega
  foot i o hi ho := by
    rcases b.foot i o hi ho with ⟨j, o', hj, ho', e'⟩ | h
    · rcases a.foot j o' hj ho' with ⟨l, o'', hl, ho'', e''⟩ | h
      · exact .inl ⟨l, o'', hl, ho'', e''.trans e'⟩
      · exact .inr (e' ▸ h)
    · exact .inr (Nat.le_trans a.size h)
  lv i o hi ho := by
    rcases b.lv i o hi ho with ⟨j, o', hj, ho', e'⟩ | h
    · rcases a.lv j o' hj ho' with ⟨l, o'', hl, ho'', e''⟩ | h
      · exact .inl ⟨l, o'', hl, ho'', e''.trans e'⟩
      · exact .inr (e' ▸ h)
    · exact .inr (Nat.le_trans a.size h)

theorem Stp.drew {σ : Sig} {H : Heap} {w : World} : Stp σ H w σ H { w with drawn := w.drawn + 1 } :=
  ⟨fun _ _ => rfl, Nat.le_refl _, rfl, rfl, rfl, Nat.le_refl _, fun _ _ _ => rfl, fun i o h ho => .inl ⟨i, o, h, ho, rfl⟩, fun i o h ho => .inl ⟨i, o, h, ho, rfl⟩⟩

/-- Only the heap is looked at. -/
theorem ObjRep.of_heap {P : Program} {σ : Sig} {w w' : World} {id : Nat} {o : AObj} (h : ObjRep P σ w id o) (hb : w'.heap[(σ id).blk]? = w.heap[(σ id).blk]?) :
    ObjRep P σ w' id o := by
  cases o with
  | row cells elem kind => simpa only [ObjRep, hb] using h
  | map es => simpa only [ObjRep, hb] using h
  | chan cap buf => simpa only [ObjRep, hb] using h

theorem Rep.of_heap {P : Program} {σ : Sig} {H : Heap} {w w' : World} (h : Rep P σ H w) (hb : w'.heap = w.heap) : Rep P σ H w' :=
  ⟨fun id o ho => (h.obj id o ho).of_heap (by rw [hb]), h.lt, h.apart, h.stab, h.glob⟩

theorem Rep.drew {P : Program} {σ : Sig} {H : Heap} {w : World} (h : Rep P σ H w) : Rep P σ H { w with drawn := w.drawn + 1 } := h.of_heap rfl

theorem ObjRep.of_sig {P : Program} {σ σ' : Sig} {w : World} {id n : Nat} {o : AObj} (h : ObjRep P σ w id o) (hσ : ∀ i, i < n → σ i = σ' i) (hid : id < n)
    (hs : StabObj n o) : ObjRep P σ' w id o := by
  have e := hσ id hid
  cases o with
  | row cells elem kind =>
    rcases h with h | ⟨c, fr, h1, h0, h2, h3, h4, h5, h6⟩
    · exact .inl h
    · refine .inr ⟨c, fr, e ▸ h1, e ▸ h0, fun j v hv => ?_, h3, e ▸ h4, h5, fun hk => e ▸ h6 hk⟩
      rw [← e, ← hs v (List.mem_of_getElem? hv) σ σ' hσ]
      exact h2 j v hv
  | map es =>
    obtain ⟨me, clock, h1, h2, h3⟩ := h
    refine ⟨me, clock, e ▸ h1, h2.trans ?_, h3⟩
    exact List.map_congr_left fun p hp => by rw [hs p hp σ σ' hσ]
  | chan cap buf =>
    obtain ⟨s, r, h1⟩ := h
    refine ⟨s, r, ?_⟩
    rw [← e, h1]
    have : buf.map (ren σ) = buf.map (ren σ') := List.map_congr_left fun p hp => hs p hp σ σ' hσ
    rw [this]

theorem StabObj.mono {n m : Nat} {o : AObj} (h : StabObj n o) (hm : n ≤ m) : StabObj m o := by
  cases o with
  | row cells elem kind => exact fun v hv => (h v hv).mono hm
  | map es => exact fun v hv => (h v hv).mono hm
  | chan cap buf => exact fun v hv => (h v hv).mono hm

/-- What lives lies in memory. -/
theorem ObjRep.lt_size {P : Program} {σ : Sig} {w : World} {id : Nat} {o : AObj} (h : ObjRep P σ w id o) (hl : o.live = true) : (σ id).blk < w.heap.size := by
  have key : ∀ {x : Obj}, w.heap[(σ id).blk]? = some x → (σ id).blk < w.heap.size := by
    intro x hx
    rcases Nat.lt_or_ge (σ id).blk w.heap.size with h | h
    · exact h
    · rw [Array.getElem?_eq_none h] at hx; cases hx
  cases o with
  | row cells elem kind =>
    rcases h with h | ⟨c, fr, h1, _⟩
    · subst h; cases hl
    · exact key h1
  | map es => obtain ⟨me, clock, h1, _⟩ := h; exact key h1
  | chan cap buf => obtain ⟨s, r, h1⟩ := h; exact key h1

def upd (σ : Sig) (i : Nat) (p : Place) : Sig := fun j => if j = i then p else σ j
theorem upd_same (σ : Sig) (i : Nat) (p : Place) : upd σ i p i = p := by simp [upd]
theorem upd_ne (σ : Sig) {i j : Nat} (p : Place) (h : j ≠ i) : upd σ i p j = σ j := by simp [upd, h]
theorem upd_below {σ : Sig} {n : Nat} {p : Place} : ∀ i, i < n → σ i = upd σ n p i := fun i hi => (upd_ne σ p (by omega)).symm

/-- A new object. -/
theorem Rep.alloc {P : Program} {σ : Sig} {H : Heap} {w : World} (h : Rep P σ H w) {o : AObj} {x : Obj} {p : Place} (hp : p.blk = w.heap.size)
    (hs : StabObj (H.next + 1) o) (ho : ObjRep P (upd σ H.next p) { w with heap := w.heap.push x } H.next o) :
    Rep P (upd σ H.next p) (H.alloc o) { w with heap := w.heap.push x } ∧ Stp σ H w (upd σ H.next p) (H.alloc o) { w with heap := w.heap.push x } := by
  have hgrow : ∀ b, b < w.heap.size → (w.heap.push x)[b]? = w.heap[b]? := fun b hb => by
    rw [Array.getElem?_push, if_neg (by omega)]
  have hold : ∀ id o', H.get id = some o' → (H.alloc o).get id = some o' := fun id o' hid => by
    rw [Heap.get_alloc_ne _ _ (by have := h.lt id o' hid; omega)]; exact hid
  have hinv : ∀ id o', (H.alloc o).get id = some o' → (id = H.next ∧ o' = o) ∨ (id ≠ H.next ∧ H.get id = some o') := by
    intro id o' hid
    by_cases e : id = H.next
    · subst e; rw [Heap.get_alloc_same] at hid; exact .inl ⟨rfl, (Option.some.inj hid).symm⟩
    · rw [Heap.get_alloc_ne _ _ (Ne.symm e)] at hid; exact .inr ⟨e, hid⟩
  refine ⟨⟨?_, ?_, ?_, ?_, (h.glob.sig fun i hi => upd_below i hi).mono (Nat.le_succ _)⟩, ⟨fun i hi => upd_below i hi, Nat.le_succ _, rfl, rfl, rfl, ?_, ?_, ?_, ?_⟩⟩
  · intro id o' hid
    rcases hinv id o' hid with ⟨rfl, rfl⟩ | ⟨hne, hid⟩
    · exact ho
    · have hlt := h.lt id o' hid
      refine ObjRep.of_sig (n := H.next) (σ := σ) ?_ (fun i hi => upd_below i hi) hlt (h.stab id o' hid)
      by_cases hl : o'.live = true
      · exact (h.obj id o' hid).of_heap (hgrow _ ((h.obj id o' hid).lt_size hl))
      · cases o' with
        | row cells elem kind => cases kind <;> first | exact absurd rfl hl | exact .inl rfl
        | map es => exact absurd rfl hl
        | chan cap buf => exact absurd rfl hl
  · intro id o' hid
    rcases hinv id o' hid with ⟨rfl, _⟩ | ⟨_, hid⟩
    · exact Nat.lt_succ_self _
    · exact Nat.lt_succ_of_lt (h.lt id o' hid)
  · intro i j oi oj hij hi hj hli hoj
    have hlive : ∀ {a : AObj}, a.own = true → a.live = true := by
      intro a ha
      cases a with
      | row cells elem kind => cases kind <;> first | rfl | cases ha
      | map es => rfl
      | chan cap buf => rfl
    rcases hinv i oi hi with ⟨rfl, rfl⟩ | ⟨hni, hi⟩
    · rcases hinv j oj hj with ⟨rfl, _⟩ | ⟨hnj, hj⟩
      · exact absurd rfl hij
      · rw [upd_same, upd_ne _ _ hnj, hp]
        have := (h.obj j oj hj).lt_size (hlive hoj)
        omega
    · rcases hinv j oj hj with ⟨rfl, _⟩ | ⟨hnj, hj⟩
      · rw [upd_same, upd_ne _ _ hni, hp]
        have := (h.obj i oi hi).lt_size hli
        omega
      · rw [upd_ne _ _ hni, upd_ne _ _ hnj]
        exact h.apart i j oi oj hij hi hj hli hoj
  · intro id o' hid
    rcases hinv id o' hid with ⟨_, rfl⟩ | ⟨_, hid⟩
    · exact hs
    · exact (h.stab id o' hid).mono (Nat.le_succ _)
  · simp
  · intro b hb _
    exact hgrow b hb
  · intro i o' hi ho'
    rcases hinv i o' hi with ⟨rfl, _⟩ | ⟨hne, hi⟩
    · right; rw [upd_same, hp]; exact Nat.le_refl _
    · left; exact ⟨i, o', hi, ho', by rw [upd_ne _ _ hne]⟩
  · intro i o' hi ho'
    rcases hinv i o' hi with ⟨rfl, _⟩ | ⟨hne, hi⟩
    · right; rw [upd_same, hp]; exact Nat.le_refl _
    · left; exact ⟨i, o', hi, ho', by rw [upd_ne _ _ hne]⟩

/-- An object that the heap owns is written: its block, and no other one, turns. -/
theorem Rep.write {P : Program} {σ : Sig} {H : Heap} {w w' : World} (h : Rep P σ H w) {id : Nat} {o o' : AObj} (ho : H.get id = some o) (hown : o.own = true)
    (hown' : o'.own = true) (hs : StabObj H.next o') (hb : ∀ b, b ≠ (σ id).blk → w'.heap[b]? = w.heap[b]?) (hsz : w'.heap.size = w.heap.size)
    (h1 : w'.os = w.os) (h2 : w'.tape = w.tape) (h3 : w'.output = w.output) (hr : ObjRep P σ w' id o') :
    Rep P σ (H.set id o') w' ∧ Stp σ H w σ (H.set id o') w' := by
  have hlive : ∀ {a : AObj}, a.own = true → a.live = true := by
    intro a ha
    cases a with
    | row cells elem kind => cases kind <;> first | rfl | cases ha
    | map es => rfl
    | chan cap buf => rfl
  have hinv : ∀ i a, (H.set id o').get i = some a → (i = id ∧ a = o') ∨ (i ≠ id ∧ H.get i = some a) := by
    intro i a hi
    by_cases e : i = id
    · subst e; rw [Heap.get_set_same] at hi; exact .inl ⟨rfl, (Option.some.inj hi).symm⟩
    · rw [Heap.get_set_ne _ _ (Ne.symm e)] at hi; exact .inr ⟨e, hi⟩
  refine ⟨⟨?_, ?_, ?_, ?_, h.glob⟩, ⟨fun _ _ => rfl, Nat.le_refl _, h1, h2, h3, Nat.le_of_eq hsz.symm, ?_, ?_, ?_⟩⟩
  · intro i a hi
    rcases hinv i a hi with ⟨rfl, rfl⟩ | ⟨hne, hi⟩
    · exact hr
    · by_cases hl : a.live = true
      · exact (h.obj i a hi).of_heap (hb _ (h.apart i id a o hne hi ho hl hown))
      · cases a with
        | row cells elem kind => cases kind <;> first | exact absurd rfl hl | exact .inl rfl
        | map es => exact absurd rfl hl
        | chan cap buf => exact absurd rfl hl
  · intro i a hi
    rcases hinv i a hi with ⟨rfl, _⟩ | ⟨_, hi⟩
    · exact h.lt _ _ ho
    · exact h.lt _ _ hi
  · intro i j oi oj hij hi hj hli hoj
    rcases hinv i oi hi with ⟨ei, ei2⟩ | ⟨hni, hi2⟩
    · rcases hinv j oj hj with ⟨ej, _⟩ | ⟨hnj, hj2⟩
      · exact absurd (ei.trans ej.symm) hij
      · exact h.apart i j o oj hij (ei ▸ ho) hj2 (hlive hown) hoj
    · rcases hinv j oj hj with ⟨ej, _⟩ | ⟨hnj, hj2⟩
      · exact h.apart i j oi o hij hi2 (ej ▸ ho) hli hown
      · exact h.apart i j oi oj hij hi2 hj2 hli hoj
  · intro i a hi
    rcases hinv i a hi with ⟨_, rfl⟩ | ⟨_, hi⟩
    · exact hs
    · exact h.stab i a hi
  · intro b hb' hn
    exact hb b (Ne.symm (hn id o ho hown))
  · intro i a hi ha
    rcases hinv i a hi with ⟨rfl, _⟩ | ⟨_, hi⟩
    · exact .inl ⟨i, o, ho, hown, rfl⟩
    · exact .inl ⟨i, a, hi, ha, rfl⟩
  · intro i a hi ha
    rcases hinv i a hi with ⟨rfl, _⟩ | ⟨_, hi⟩
    · exact .inl ⟨i, o, ho, hlive hown, rfl⟩
    · exact .inl ⟨i, a, hi, ha, rfl⟩

end
end Go.Proofs.YtibeinbfhhoeiaaGreatDoor.Ab

namespace Go.Proofs.YtibeinbfhhoeiaaGreatDoor.Ab
open Go
noncomputable section

/- ## rows as lists -/
def takeX {α : Type} : Nat → List α → Option (List α)
  | 0, _ => some []
  | _ + 1, [] => none
  | n + 1, a :: l => match takeX n l with
    | some r => some (a :: r)
    | none => none

theorem takeX_spec {α : Type} : ∀ (n : Nat) (l r : List α), takeX n l = some r → r.length = n ∧ ∀ j, j < n → l[j]? = r[j]? := by
  intro n
  induction n with
  | zero => intro l r h; simp only [takeX, Option.some.injEq] at h; subst h; exact ⟨rfl, fun j hj => by omega⟩
  | succ n ih =>
    intro l r h
    cases l with
    | nil => simp [takeX] at h
    | cons a l =>
      simp only [takeX] at h
      split at h
      · rename_i r' hr
        simp only [Option.some.injEq] at h
        subst h
        obtain ⟨h1, h2⟩ := ih _ _ hr
        refine ⟨by simp [h1], fun j hj => ?_⟩
        cases j with
        | zero => rfl
        | succ j => simpa using h2 j (by omega)
      · simp at h

def putX {α : Type} : Nat → List α → List α → Option (List α)
  | 0, cells, [] => some cells
  | 0, [], _ :: _ => none
  | 0, _ :: cells, v :: vs => match putX 0 cells vs with
    | some r => some (v :: r)
    | none => none
  | _ + 1, [], _ => none
  | n + 1, c :: cells, vs => match putX n cells vs with
    | some r => some (c :: r)
    | none => none

theorem putX_spec {α : Type} : ∀ (cells : List α) (off : Nat) (vs r : List α), putX off cells vs = some r →
    r.length = cells.length ∧ off + vs.length ≤ cells.length ∧ ∀ j, r[j]? = if off ≤ j ∧ j < off + vs.length then vs[j - off]? else cells[j]? := by
  intro cells
  induction cells with
  | nil =>
    intro off vs r h
    cases off with
    | zero =>
      cases vs with
      | nil => simp only [putX, Option.some.injEq] at h; subst h; exact ⟨rfl, by simp, fun j => by simp⟩
      | cons v vs => simp [putX] at h
    | succ n => simp [putX] at h
  | cons c cells ih =>
    intro off vs r h
    cases off with
    | zero =>
      cases vs with
      | nil =>
        simp only [putX, Option.some.injEq] at h
        subst h
        exact ⟨rfl, by simp, fun j => by simp⟩
      | cons v vs =>
        simp only [putX] at h
        split at h
        · rename_i r' hr
          simp only [Option.some.injEq] at h
          subst h
          obtain ⟨h1, h2, h3⟩ := ih 0 vs r' hr
          refine ⟨by simp [h1], by simp only [List.length_cons]; omega, fun j => ?_⟩
          cases j with
          | zero => simp
          | succ j =>
            have := h3 j
            simp only [Nat.zero_le, true_and, Nat.zero_add, List.getElem?_cons_succ, List.length_cons, Nat.sub_zero, Nat.add_lt_add_iff_right] at this ⊢
            exact this
        · simp at h
    | succ n =>
      simp only [putX] at h
      split at h
      · rename_i r' hr
        simp only [Option.some.injEq] at h
        subst h
        obtain ⟨h1, h2, h3⟩ := ih n vs r' hr
        refine ⟨by simp [h1], by simp only [List.length_cons]; omega, fun j => ?_⟩
        cases j with
        | zero => simp
        | succ j =>
          have := h3 j
          simp only [List.getElem?_cons_succ, Nat.add_le_add_iff_right, Nat.add_sub_add_right] at this ⊢
          rw [this]
          by_cases hx : n ≤ j ∧ j < n + vs.length
          · rw [if_pos hx, if_pos ⟨hx.1, by omega⟩]
          · rw [if_neg hx, if_neg (by omega)]
      · simp at h

def isDead : Kind → Bool
  | .dead => true
  | _ => false
def isOwn : Kind → Bool
  | .fixed => true
  | .opn => true
  | _ => false

def xcells (H : Heap) (a : Addr) (n : Nat) : Option (List Value) :=
  match a.spot, H.get a.block with
  | none, some (.row cells _ kind) => match isDead kind with
    | false => takeX n (cells.drop a.off)
    | true => none
  | _, _ => none

theorem add_off (a : Addr) (n : Nat) (h : a.spot = none) : a.add n = ⟨a.block, a.off + n, none⟩ := by
  obtain ⟨b, o, s⟩ := a
  simp only at h
  subst h
  unfold Addr.add
  split
  · rename_i h; subst h; rfl
  · rfl

theorem xcells_spec {P : Program} {σ : Sig} {H : Heap} {w : World} (hR : Rep P σ H w) {a : Addr} {n : Nat} {vs : List Value} (h : xcells H a n = some vs) :
    vs.length = n ∧ a.spot = none ∧ (∀ j v, vs[j]? = some v → w.cell? ((renAddr σ a).add j) = some (ren σ v)) ∧ (∀ v ∈ vs, Stab H.next v) := by
  unfold xcells at h
  split at h
  · rename_i cells elem kind hs hg
    split at h
    · rename_i hd
      obtain ⟨h1, h2⟩ := takeX_spec _ _ _ h
      refine ⟨h1, hs, ?_, ?_⟩
      · intro j v hj
        have hj' : j < n := by
          rcases Nat.lt_or_ge j n with h | h
          · exact h
          · rw [List.getElem?_eq_none (by omega)] at hj; cases hj
        rcases hR.obj _ _ hg with hk | ⟨c, fr, hc, _, hcell, _⟩
        · rw [hk] at hd; cases hd
        · have e := h2 j hj'
          rw [hj, List.getElem?_drop] at e
          have := hcell _ _ e
          rw [add_off _ _ (by simp [renAddr, hs])]
          simp only [World.cell?, renAddr, hc, Option.isSome_none, Bool.false_eq_true, if_false]
          rw [← this, Nat.add_assoc]
      · intro v hv
        obtain ⟨j, hj⟩ := List.mem_iff_getElem?.1 hv
        have hj' : j < n := by
          rcases Nat.lt_or_ge j n with h | h
          · exact h
          · rw [List.getElem?_eq_none (by omega)] at hj; cases hj
        have e := h2 j hj'
        rw [hj, List.getElem?_drop] at e
        exact hR.stab _ _ hg v (List.mem_of_getElem? e)
    · simp at h
  · simp at h

theorem run_loadCellsFrom {P : Program} {w : World} {a : Addr} : ∀ (vs : List Value) (i : Nat) (acc : Array Value),
    (∀ j v, vs[j]? = some v → w.cell? (a.add (i + j)) = some v) → (loadCellsFrom a i vs.length acc).run P w = .ok (acc ++ vs.toArray) w := by
  intro vs
  induction vs with
  | nil => intro i acc _; simp [loadCellsFrom]
  | cons v vs ih =>
    intro i acc h
    have h0 := h 0 v rfl
    simp only [Nat.add_zero] at h0
    simp only [List.length_cons, loadCellsFrom, Sem.run_bind, run_load, h0, Result.andThen_ok]
    rw [ih (i + 1) _ (fun j u hj => by rw [Nat.add_assoc, Nat.add_comm 1 j]; exact h (j + 1) u hj)]
    simp

theorem run_loadCells {P : Program} {σ : Sig} {H : Heap} {w : World} (hR : Rep P σ H w) {a : Addr} {n : Nat} {vs : List Value} (h : xcells H a n = some vs) :
    (loadCells (renAddr σ a) n).run P w = .ok ⟨vs.map (ren σ)⟩ w := by
  obtain ⟨h1, _, h2, _⟩ := xcells_spec hR h
  have := run_loadCellsFrom (P := P) (w := w) (a := renAddr σ a) (vs.map (ren σ)) 0 #[] (fun j v hj => by
    rw [List.getElem?_map] at hj
    cases hv : vs[j]? with
    | none => simp [hv] at hj
    | some u =>
      simp only [hv, Option.map_some, Option.some.injEq] at hj
      subst hj
      rw [Nat.zero_add]
      exact h2 j u hv)
  rw [List.length_map, h1] at this
  simpa [loadCells] using this

/- ## load -/
def xload (P : Program) (H : Heap) (t : TypeId) (x : Value) : Option Value := match x with
  | .pointer (some a) => match xagg P t with
    | some true => match xsize P t with
      | some n => match xcells H a n with
        | some l => some (.agg ⟨l⟩)
        | none => none
      | none => none
    | some false => match xcells H a 1 with
      | some [v] => some v
      | _ => none
    | none => none
  | _ => none

theorem Stab.agg {n : Nat} {l : List Value} (h : ∀ v ∈ l, Stab n v) : Stab n (.agg ⟨l⟩) := fun σ σ' hs => by
  simp only [ren, renArr, renL_eq]
  rw [List.map_congr_left fun v hv => h v hv σ σ' hs]
theorem Stab.tuple {n : Nat} {l : List Value} (h : ∀ v ∈ l, Stab n v) : Stab n (.tuple ⟨l⟩) := fun σ σ' hs => by
  simp only [ren, renArr, renL_eq]
  rw [List.map_congr_left fun v hv => h v hv σ σ' hs]

theorem run_xload {P : Program} {σ : Sig} {H : Heap} {w : World} (hR : Rep P σ H w) {t : TypeId} {x v : Value} (h : xload P H t x = some v) :
    (Instr.loadAt t (ren σ x)).run P w = .ok (ren σ v) w ∧ Stab H.next v := by
  unfold xload at h
  split at h
  · rename_i a
    split at h
    · rename_i ha
      split at h
      · rename_i n hn
        split at h
        · rename_i l hl
          simp only [Option.some.injEq] at h
          subst h
          refine ⟨?_, Stab.agg (xcells_spec hR hl).2.2.2⟩
          simp only [Instr.loadAt, ren, Instr.sureAddr, loadVar, Sem.run_bind, Sem.run_pure, Result.andThen_ok, is_isAgg ha w, if_true, is_sizeOf hn w,
            run_loadCells hR hl]
          simp [renArr, renL_eq]
        · simp at h
      · simp at h
    · rename_i ha
      split at h
      · rename_i u hl
        simp only [Option.some.injEq] at h
        subst h
        obtain ⟨_, hs, h2, h3⟩ := xcells_spec hR hl
        refine ⟨?_, h3 u (by simp)⟩
        have h0 := h2 0 u rfl
        have : (renAddr σ a).add 0 = renAddr σ a := rfl
        rw [this] at h0
        simp [Instr.loadAt, ren, Instr.sureAddr, loadVar, is_isAgg ha w, h0]
      · simp at h
    · simp at h
  · simp at h

/- ## store -/
def flat : Value → Bool
  | .agg _ => false
  | .tuple _ => false
  | _ => true
def flatL : List Value → Bool
  | [] => true
  | v :: l => flat v && flatL l

theorem flat_ren (σ : Sig) (v : Value) : flat (ren σ v) = flat v := by
  cases v with
  | pointer a => cases a <;> simp [ren, flat]
  | slice a l c => cases a <;> simp [ren, flat]
  | map a => cases a <;> simp [ren, flat]
  | chan a => cases a <;> simp [ren, flat]
  | _ => simp [ren, flat]

theorem flatL_mem : ∀ {l : List Value}, flatL l = true → ∀ v ∈ l, flat v = true := by
  intro l
  induction l with
  | nil => intro _ v hv; cases hv
  | cons u l ih =>
    intro h v hv
    simp only [flatL, Bool.and_eq_true] at h
    rcases List.mem_cons.1 hv with rfl | hv
    · exact h.1
    · exact ih h.2 v hv

theorem run_store_plain {P : Program} {w : World} {a : Addr} {v u : Value} (hf : flat v = true) (hc : w.cell? a = some u) (hz : w.frozen? a = false) :
    (store a v).run P w = .ok () (w.setCell a v) := by
  have ho : v.oneCell' = true := by cases v <;> first | rfl | cases hf
  rw [run_store P w a v .plain ho]
  simp [hc, hz]

theorem setCell_heap {w : World} {a : Addr} {v : Value} {c : Array Value} {elem : TypeId} {fr : Nat × Nat} (h : w.heap[a.block]? = some (.cells c elem fr)) (hs : a.spot = none) :
    (w.setCell a v).heap[a.block]? = some (.cells (c.setIfInBounds a.off v) elem fr) := by
  simp [World.setCell, Array.getElem?_modify, h, hs]

theorem run_storeCells {P : Program} : ∀ (vs : List Value) (i : Nat) (w : World) (a : Addr) (c : Array Value) (elem : TypeId), a.spot = none →
    w.heap[a.block]? = some (.cells c elem (0, 0)) → (∀ v ∈ vs, flat v = true) → a.off + i + vs.length ≤ c.size →
    ∃ w', (storeCells a vs i).run P w = .ok () w' ∧ w'.os = w.os ∧ w'.tape = w.tape ∧ w'.output = w.output ∧ w'.heap.size = w.heap.size ∧
      (∀ b, b ≠ a.block → w'.heap[b]? = w.heap[b]?) ∧ ∃ c', w'.heap[a.block]? = some (.cells c' elem (0, 0)) ∧ c'.size = c.size ∧
      ∀ j, c'[j]? = if a.off + i ≤ j ∧ j < a.off + i + vs.length then vs[j - (a.off + i)]? else c[j]? := by
  intro vs
  induction vs with
  | nil =>
    intro i w a c elem hs hb _ _
    exact ⟨w, by simp [storeCells], rfl, rfl, rfl, rfl, fun _ _ => rfl, c, hb, rfl, fun j => by rw [if_neg (by simp only [List.length_nil]; omega)]⟩
  | cons v vs ih =>
    intro i w a c elem hs hb hf hn
    simp only [List.length_cons] at hn
    have hadd := add_off a i hs
    have hcell : w.cell? (a.add i) = some (c[a.off + i]'(by omega)) := by
      simp [hadd, World.cell?, hb, Array.getElem?_eq_getElem (show a.off + i < c.size by omega)]
    have hz : w.frozen? (a.add i) = false := by
      simp [hadd, World.frozen?, hb]
    have hblk : (a.add i).block = a.block := by rw [hadd]
    have hspot : (a.add i).spot = none := by rw [hadd]
    have hoff : (a.add i).off = a.off + i := by rw [hadd]
    have h1 := run_store_plain (P := P) (hf v (by simp)) hcell hz
    have hb1 : (w.setCell (a.add i) v).heap[a.block]? = some (.cells (c.setIfInBounds (a.off + i) v) elem (0, 0)) := by
      have := setCell_heap (w := w) (a := a.add i) (v := v) (by rw [hblk]; exact hb) hspot
      rw [hblk, hoff] at this
      exact this
    obtain ⟨w', hr, e1, e2, e3, e4, e5, c', e6, e7, e8⟩ := ih (i + 1) (w.setCell (a.add i) v) a _ elem hs hb1 (fun u hu => hf u (List.mem_cons_of_mem _ hu)) (by simp; omega)
    refine ⟨w', ?_, e1, e2, e3, ?_, ?_, c', e6, by simpa using e7, fun j => ?_⟩
    · simp only [storeCells, Sem.run_bind, h1, Result.andThen_ok]
      exact hr
    · rw [e4]; simp [World.setCell]
    · intro b hne
      rw [e5 b hne]
      exact RowKit.Below.heap_setCell _ _ _ _ (by rw [hblk]; exact hne)
    · rw [e8 j]
      by_cases hj : j = a.off + i
      · subst hj
        rw [if_neg (by omega), if_pos ⟨Nat.le_refl _, by simp⟩]
        simp [show a.off + i < c.size by omega]
      · by_cases hr : a.off + (i + 1) ≤ j ∧ j < a.off + (i + 1) + vs.length
        · rw [if_pos hr, if_pos ⟨by omega, by simp only [List.length_cons]; omega⟩]
          rw [show j - (a.off + i) = (j - (a.off + (i + 1))) + 1 by omega, List.getElem?_cons_succ]
        · rw [if_neg hr, if_neg (by simp only [List.length_cons]; omega)]
          rw [Array.getElem?_setIfInBounds_ne (by omega)]

end
end Go.Proofs.YtibeinbfhhoeiaaGreatDoor.Ab

namespace Go.Proofs.YtibeinbfhhoeiaaGreatDoor.Ab
open Go
noncomputable section

/-- What an operation does: its run in the model, and that the heaps stand for each other behind it. -/
def Does (P : Program) (σ : Sig) (H : Heap) (w : World) (m : Sem Value) (v : Value) (H' : Heap) : Prop :=
  ∃ σ' w', m.run P w = .ok (ren σ' v) w' ∧ Rep P σ' H' w' ∧ Stp σ H w σ' H' w' ∧ Stab H'.next v

/-- .. that makes one new thing. -/
def DoesF (P : Program) (σ : Sig) (H : Heap) (w : World) (m : Sem Value) (v : Value) (H' : Heap) : Prop :=
  ∃ w', m.run P w = .ok (ren (upd σ H.next ⟨w.heap.size, 0, 0⟩) v) w' ∧ Rep P (upd σ H.next ⟨w.heap.size, 0, 0⟩) H' w' ∧ Stp σ H w (upd σ H.next ⟨w.heap.size, 0, 0⟩) H' w' ∧ Stab H'.next v
theorem DoesF.does {P : Program} {σ : Sig} {H H' : Heap} {w : World} {m : Sem Value} {v : Value} (h : DoesF P σ H w m v H') : Does P σ H w m v H' := ⟨_, h⟩

def xput (H : Heap) (a : Addr) (vs : List Value) : Option Heap :=
  match a.spot, H.get a.block with
  | none, some (.row cells elem kind) => match isOwn kind, putX a.off cells vs with
    | true, some r => some (H.set a.block (.row r elem kind))
    | _, _ => none
  | _, _ => none

theorem own_of_isOwn {cells : List Value} {elem : TypeId} {kind : Kind} (h : isOwn kind = true) : (AObj.row cells elem kind).own = true := by
  cases kind <;> first | rfl | cases h

theorem run_put {P : Program} {σ : Sig} {H H' : Heap} {w : World} (hR : Rep P σ H w) {a : Addr} {vs : List Value} (h : xput H a vs = some H')
    (hf : ∀ v ∈ vs, flat v = true) (hst : ∀ v ∈ vs, Stab H.next v) :
    ∃ w', (storeCells (renAddr σ a) (vs.map (ren σ))).run P w = .ok () w' ∧ Rep P σ H' w' ∧ Stp σ H w σ H' w' ∧ H'.next = H.next := by
  unfold xput at h
  split at h
  · rename_i cells elem kind hs hg
    split at h
    · rename_i r hown hr
      simp only [Option.some.injEq] at h
      subst h
      obtain ⟨l1, l2, l3⟩ := putX_spec _ _ _ _ hr
      rcases hR.obj _ _ hg with hk | ⟨c, fr, hc, hlen, hcell, hfr, hcap, hgl, hfx⟩
      · subst hk; cases hown
      · have hfr0 := hfr (by intro e; subst e; cases hown)
        subst hfr0
        obtain ⟨w', hrun, e1, e2, e3, e4, e5, c', e6, e7, e8⟩ := run_storeCells (P := P) (vs.map (ren σ)) 0 w ⟨(σ a.block).blk, (σ a.block).off + a.off, a.spot⟩ c elem hs
          hc (fun v hv => by obtain ⟨u, hu, rfl⟩ := List.mem_map.1 hv; rw [flat_ren]; exact hf u hu)
          (by simp only [List.length_map]; omega)
        dsimp only at e5 e6 e8
        have key : ∀ (j : Nat) v, r[j]? = some v → c'[(σ a.block).off + j]? = some (ren σ v) := by
          intro j v hj
          rw [l3 j] at hj
          have h8 := e8 ((σ a.block).off + j)
          by_cases hx : a.off ≤ j ∧ j < a.off + vs.length
          · rw [if_pos hx] at hj
            have hx' : (σ a.block).off + a.off + 0 ≤ (σ a.block).off + j ∧ (σ a.block).off + j < (σ a.block).off + a.off + 0 + (vs.map (ren σ)).length :=
              ⟨by omega, by simp only [List.length_map]; omega⟩
            rw [h8, if_pos hx', List.getElem?_map, show (σ a.block).off + j - ((σ a.block).off + a.off + 0) = j - a.off by omega, hj]; rfl
          · rw [if_neg hx] at hj
            have hx' : ¬ ((σ a.block).off + a.off + 0 ≤ (σ a.block).off + j ∧ (σ a.block).off + j < (σ a.block).off + a.off + 0 + (vs.map (ren σ)).length) := by
              simp only [List.length_map]; omega
            rw [h8, if_neg hx']
            exact hcell j v hj
        have hst' : StabObj H.next (.row r elem kind) := by
          intro v hv
          obtain ⟨j, hj⟩ := List.mem_iff_getElem?.1 hv
          rw [l3 j] at hj
          split at hj
          · exact hst v (List.mem_of_getElem? hj)
          · exact hR.stab _ _ hg v (List.mem_of_getElem? hj)
        have hobj : ObjRep P σ w' a.block (.row r elem kind) :=
          .inr ⟨c', (0, 0), e6, by rw [l1, e7]; exact hlen, key, fun _ => rfl, fun hk => by rw [l1, e7]; exact hcap hk, (fun hg => by rw [l1, e7]; exact hgl hg), fun hk => by rw [l1, e7]; exact hfx hk⟩
        obtain ⟨hR', hS'⟩ := hR.write (o' := .row r elem kind) hg (own_of_isOwn hown) (own_of_isOwn hown) (w' := w') hst' e5 e4 e1 e2 e3 hobj
        exact ⟨w', hrun, hR', hS', rfl⟩
    · simp at h
  · simp at h


/- ## store -/
def xstore (P : Program) (H : Heap) (t : TypeId) (x v : Value) : Option Heap := match x with
  | .pointer (some a) => match xsize P t with
    | some n => match Nat.beq v.cells.size n, flatL v.cells.toList with
      | true, true => xput H a v.cells.toList
      | _, _ => none
    | none => none
  | _ => none

theorem Stab.cells {n : Nat} {v : Value} (h : Stab n v) : ∀ u ∈ v.cells.toList, Stab n u := by
  intro u hu
  cases v with
  | agg cs =>
    obtain ⟨j, hj⟩ := List.mem_iff_getElem?.1 hu
    intro σ σ' hs
    have := h σ σ' hs
    simp only [ren_agg, Value.agg.injEq] at this
    have e := congrArg (fun a : Array Value => a.toList[j]?) this
    simp only [Array.toList_map, List.getElem?_map] at e
    simp only [Value.cells] at hj
    rw [hj] at e
    simpa using e
  | _ => simp only [Value.cells, List.mem_singleton] at hu; subst hu; exact h

theorem run_xstore {P : Program} {σ : Sig} {H H' : Heap} {w : World} (hR : Rep P σ H w) {t : TypeId} {x v : Value} (h : xstore P H t x v = some H')
    (hst : Stab H.next v) :
    ∃ w', (Instr.storeAt t (ren σ x) (ren σ v)).run P w = .ok () w' ∧ Rep P σ H' w' ∧ Stp σ H w σ H' w' ∧ H'.next = H.next := by
  unfold xstore at h
  split at h
  · rename_i a
    split at h
    · rename_i n hn
      split at h
      · rename_i hsz hfl
        obtain ⟨w', h1, h2⟩ := run_put hR h (flatL_mem hfl) hst.cells
        refine ⟨w', ?_, h2⟩
        have hsz := Nat.eq_of_beq_eq_true hsz
        simp only [Instr.storeAt, ren, Instr.sureAddr, storeVar, Sem.run_bind, Sem.run_pure, Result.andThen_ok, is_sizeOf hn w, cells_ren, Array.size_map, hsz,
          Array.toList_map]
        simpa using h1
      · simp at h
    · simp at h
  · simp at h

/- ## new rows -/
theorem run_newRow {P : Program} (elem : TypeId) (c : Array Value) (w : World) :
    (newRow elem c).run P w = .ok ⟨w.heap.size, 0, none⟩ { w with heap := w.heap.push (.cells c elem) } := by
  simp [newRow]

theorem push_new {w : World} {x : Obj} : (w.heap.push x)[w.heap.size]? = some x := by simp

/-- A new row whose first cells are known. -/
theorem Rep.newRow {P : Program} {σ : Sig} {H : Heap} {w : World} (h : Rep P σ H w) {vs : List Value} {elem : TypeId} {kind : Kind} {c : Array Value} {cap : Nat}
    (hst : ∀ v ∈ vs, Stab H.next v) (hc : ∀ (j : Nat) v, vs[j]? = some v → c[j]? = some (ren σ v)) (hl : vs.length ≤ c.size)
    (hcap : kind = .opn → vs.length ≤ cap * elSize P elem ∧ cap * elSize P elem ≤ c.size) (hfx : kind = .fixed → c.size = vs.length) :
    Rep P (upd σ H.next ⟨w.heap.size, 0, cap⟩) (H.alloc (.row vs elem kind)) { w with heap := w.heap.push (.cells c elem) } ∧
      Stp σ H w (upd σ H.next ⟨w.heap.size, 0, cap⟩) (H.alloc (.row vs elem kind)) { w with heap := w.heap.push (.cells c elem) } := by
  refine h.alloc rfl (fun v hv => (hst v hv).mono (Nat.le_succ _)) (.inr ⟨c, (0, 0), ?_, ?_, fun j v hj => ?_, fun _ => rfl, fun hk => ?_, (fun hg => absurd hg (Nat.not_lt.2 h.glob.1)), fun hk => ⟨by rw [upd_same], hfx hk⟩⟩)
  · rw [upd_same]; exact push_new
  · rw [upd_same, Nat.zero_add]; exact hl
  · rw [upd_same, Nat.zero_add, hc j v hj, hst v (List.mem_of_getElem? hj) σ (upd σ H.next ⟨w.heap.size, 0, cap⟩) (fun i hi => upd_below i hi)]
  · rw [upd_same, Nat.zero_add]; exact hcap hk

theorem ren_upd {σ : Sig} {n : Nat} {p : Place} {v : Value} (h : Stab n v) : ren (upd σ n p) v = ren σ v := (h σ _ (fun i hi => upd_below i hi)).symm

theorem stab_ptr {n i : Nat} (h : i < n) (o : Nat) : Stab n (.pointer (some ⟨i, o, none⟩)) := fun σ σ' hs => by simp [ren, renAddr, hs i h]
theorem stab_slice {n i : Nat} (h : i < n) (o l c : Nat) : Stab n (.slice (some ⟨i, o, none⟩) l c) := fun σ σ' hs => by simp [ren, renAddr, renCap, hs i h]

def xnewVar (H : Heap) (t : TypeId) (v : Value) : Value × Heap := (.pointer (some ⟨H.next, 0, none⟩), H.alloc (.row v.cells.toList t .fixed))

theorem does_newVar {P : Program} {σ : Sig} {H : Heap} {w : World} (hR : Rep P σ H w) {t : TypeId} {v : Value} (hst : Stab H.next v) {m : Sem Value}
    (hm : ∀ w, m.run P w = ((do pure (.pointer (some (← newVar t (ren σ v))))) : Sem Value).run P w) :
    DoesF P σ H w m (xnewVar H t v).1 (xnewVar H t v).2 := by
  have := hR.newRow (vs := v.cells.toList) (elem := t) (kind := .fixed) (c := (ren σ v).cells) (cap := 0) hst.cells (fun j u hj => by
    rw [cells_ren, Array.getElem?_map, ← Array.getElem?_toList, hj]; rfl) (by rw [cells_ren, Array.size_map, Array.length_toList]; exact Nat.le_refl _) (fun h => by cases h) (fun _ => by rw [cells_ren, Array.size_map, Array.length_toList])
  refine ⟨_, ?_, this.1, this.2, stab_ptr (Nat.lt_succ_self _) 0⟩
  rw [hm]
  simp [newVar, run_newRow, ren, renAddr, upd_same, xnewVar]

def xalloc (P : Program) (H : Heap) (t : TypeId) : Option (Value × Heap) := match xzero P t with
  | some z => some (xnewVar H t z)
  | none => none

theorem does_alloc {P : Program} {σ : Sig} {H H' : Heap} {w : World} (hR : Rep P σ H w) {t : TypeId} {v : Value} (h : xalloc P H t = some (v, H')) :
    DoesF P σ H w (Instr.alloc t true (.tuple #[])) v H' := by
  unfold xalloc at h
  split at h
  · rename_i z hz
    obtain ⟨iz, hc⟩ := is_zero hz
    have := does_newVar hR (t := t) (v := z) (Stab.clo hc) (m := Instr.alloc t true (.tuple #[])) (fun w => by
      rw [ren_clo σ z hc]
      simp [Instr.alloc, iz w])
    simp only [Option.some.injEq] at h
    rw [h] at this
    exact this
  · simp at h

theorem does_box {P : Program} {σ : Sig} {H : Heap} {w : World} (hR : Rep P σ H w) {t : TypeId} {x : Value} (hst : Stab H.next x) :
    DoesF P σ H w (Instr.box t (ren σ x)) (xnewVar H t x).1 (xnewVar H t x).2 :=
  does_newVar hR hst fun _ => rfl

end
end Go.Proofs.YtibeinbfhhoeiaaGreatDoor.Ab

namespace Go.Proofs.YtibeinbfhhoeiaaGreatDoor.Ab
open Go
noncomputable section

/- ## rows of zeros -/
def zerosL (z : List Value) : Nat → List Value
  | 0 => []
  | n + 1 => z ++ zerosL z n

theorem zerosL_length (z : List Value) (n : Nat) : (zerosL z n).length = n * z.length := by
  induction n with
  | zero => simp [zerosL]
  | succ n ih => simp [zerosL, ih, Nat.succ_mul, Nat.add_comm]

theorem zerosL_get (z : List Value) (n : Nat) : ∀ j, j < n * z.length → (zerosL z n)[j]? = z[j % z.length]? := by
  induction n with
  | zero => intro j h; simp at h
  | succ n ih =>
    intro j h
    rw [Nat.succ_mul] at h
    simp only [zerosL]
    by_cases hj : j < z.length
    · rw [List.getElem?_append_left hj, Nat.mod_eq_of_lt hj]
    · rw [List.getElem?_append_right (by omega), ih _ (by omega), ← Nat.mod_eq_sub_mod (by omega)]

theorem zeros_model (z : Array Value) (n size : Nat) (hs : z.size = size) :
    ((Array.range (n * size)).map (z[· % z.size]!)) = (zerosL z.toList n).toArray := by
  subst hs
  apply Array.ext_getElem?
  intro j
  rw [Array.getElem?_map, show (zerosL z.toList n).toArray[j]? = (zerosL z.toList n)[j]? from by simp]
  by_cases h : j < n * z.size
  · have hz : 0 < z.size := by
      rcases Nat.eq_zero_or_pos z.size with h0 | h0
      · rw [h0, Nat.mul_zero] at h; omega
      · exact h0
    have hm := Nat.mod_lt j hz
    have hj : j < n * z.toList.length := by rw [Array.length_toList]; exact h
    rw [zerosL_get _ _ _ hj]
    simp only [Array.getElem?_range, h, if_true, Option.map_some, Array.length_toList]
    rw [getElem!_pos z _ hm, Array.getElem?_toList, Array.getElem?_eq_getElem hm]
  · rw [List.getElem?_eq_none (by rw [zerosL_length, Array.length_toList]; omega)]
    simp only [Array.getElem?_range, h, if_false, Option.map_none]

theorem cloL_mem : ∀ {l : List Value}, cloL l = true → ∀ v ∈ l, clo v = true := by
  intro l
  induction l with
  | nil => intro _ v hv; cases hv
  | cons u l ih =>
    intro h v hv
    simp only [cloL, Bool.and_eq_true] at h
    rcases List.mem_cons.1 hv with rfl | hv
    · exact h.1
    · exact ih h.2 v hv

theorem clo_cells {z : Value} (h : clo z = true) : ∀ v ∈ z.cells.toList, clo v = true := by
  intro v hv
  cases z with
  | agg cs =>
    simp only [clo] at h
    cases cs with
    | mk l => simp only [cloArr] at h; exact cloL_mem h v hv
  | _ => simp only [Value.cells, List.mem_singleton] at hv; subst hv; exact h

theorem zerosL_mem {z : List Value} {n : Nat} : ∀ v ∈ zerosL z n, v ∈ z := by
  induction n with
  | zero => intro v hv; cases hv
  | succ n ih =>
    intro v hv
    simp only [zerosL, List.mem_append] at hv
    rcases hv with hv | hv
    · exact hv
    · exact ih v hv

/- ## buildSlice -/
def xbuildSlice (P : Program) (H : Heap) (t : TypeId) (len : Nat) (parts : List (Nat × Value)) : Option (Value × Heap) := match xunder P t with
  | some (.slice elem) => match xsize P elem, xzero P elem with
    | some size, some z => match Nat.beq z.cells.size size, Nat.ble (len * size) 16777216, Nat.ble 1 size with
      | true, true, true => match Instr.fill (fun i => some (i * size, size)) (zerosL z.cells.toList len).toArray parts with
        | some cells => some (.slice (some ⟨H.next, 0, none⟩) len len, H.alloc (.row cells.toList elem .fixed))
        | none => none
      | _, _, _ => none
    | _, _ => none
  | _ => none

theorem fill_mem {place : Nat → Option (Nat × Nat)} {Q : Value → Prop} : ∀ (parts : List (Nat × Value)) (cells r : Array Value),
    (∀ v ∈ cells, Q v) → (∀ p ∈ parts, ∀ v ∈ p.2.cells, Q v) → Instr.fill place cells parts = some r → ∀ v ∈ r, Q v := by
  intro parts
  induction parts with
  | nil => intro cells r hc _ h; simp only [Instr.fill, Option.some.injEq] at h; subst h; exact hc
  | cons p parts ih =>
    intro cells r hc hp h
    obtain ⟨i, v⟩ := p
    simp only [Instr.fill] at h
    split at h
    · simp at h
    · rename_i off size _
      split at h
      · simp at h
      · refine ih _ r ?_ (fun p hp' => hp p (List.mem_cons_of_mem _ hp')) h
        have hv := hp (i, v) (by simp)
        simp only at hv
        rw [← Array.foldl_toList]
        have : ∀ (l : List (Value × Nat)) (cs : Array Value), (∀ x ∈ cs, Q x) → (∀ x ∈ l, Q x.1) →
            ∀ x ∈ l.foldl (fun cs (c, j) => cs.setIfInBounds (off + j) c) cs, Q x := by
          intro l
          induction l with
          | nil => intro cs h1 _; exact h1
          | cons y l ih2 =>
            intro cs h1 h2
            refine ih2 _ ?_ (fun x hx => h2 x (List.mem_cons_of_mem _ hx))
            intro x hx
            rcases Array.mem_or_eq_of_mem_setIfInBounds hx with hx | rfl
            · exact h1 x hx
            · exact h2 y (by simp)
        refine this _ _ hc ?_
        intro x hx
        rw [Array.toList_zipIdx] at hx
        exact hv x.1 (by simpa using List.fst_mem_of_mem_zipIdx (x := x) hx)

theorem does_buildSlice {P : Program} {σ : Sig} {H H' : Heap} {w : World} (hR : Rep P σ H w) {t : TypeId} {len : Nat} {parts : List (Nat × Value)} {v : Value}
    (h : xbuildSlice P H t len parts = some (v, H')) (hst : ∀ p ∈ parts, Stab H.next p.2) :
    DoesF P σ H w (Instr.buildSlice t len (parts.map fun x => (x.1, ren σ x.2)).toArray) v H' := by
  unfold xbuildSlice at h
  split at h
  · rename_i elem hu
    split at h
    · rename_i size z hs hz
      obtain ⟨iz, hc⟩ := is_zero hz
      split at h
      · rename_i e1 e2 e3
        have e1 := Nat.eq_of_beq_eq_true e1
        have e2 := Nat.le_of_ble_eq_true e2
        have e3 := Nat.le_of_ble_eq_true e3
        split at h
        · rename_i cells hf
          simp only [Option.some.injEq, Prod.mk.injEq] at h
          obtain ⟨rfl, rfl⟩ := h
          have hf' := fill_ren σ (fun i => some (i * size, size)) parts (zerosL z.cells.toList len).toArray
          have hzr : (zerosL z.cells.toList len).toArray.map (ren σ) = (zerosL z.cells.toList len).toArray := by
            simp only [List.map_toArray]
            congr 1
            exact (List.map_congr_left fun v hv => ren_clo σ v (clo_cells hc v (zerosL_mem v hv))).trans (List.map_id _)
          rw [hzr, hf] at hf'
          have hm : ∀ v ∈ cells.toList, Stab H.next v := fun v hv => fill_mem (Q := Stab H.next) parts _ cells
            (fun u hu => Stab.clo (clo_cells hc u (zerosL_mem u (by simpa using hu)))) (fun p hp u hu => (hst p hp).cells u (by simpa using hu)) hf v (by simpa using hv)
          obtain ⟨r1, r2⟩ := hR.newRow (vs := cells.toList) (elem := elem) (kind := .fixed) (c := cells.map (ren σ)) (cap := 0) hm (fun j u hj => by
            rw [Array.getElem?_map, ← Array.getElem?_toList, hj]; rfl) (by simp) (fun h => by cases h) (fun _ => by simp)
          refine ⟨_, ?_, r1, r2, stab_slice (Nat.lt_succ_self _) 0 _ _⟩
          simp only [Instr.buildSlice, Sem.run_bind, is_underlying hu w, Result.andThen_ok, is_sizeOf hs w]
          rw [if_neg (by omega)]
          have hlen : len < OPEN := lt_open (by
            have : len ≤ len * size := Nat.le_mul_of_pos_right _ e3
            omega)
          by_cases h0 : len * size = 0
          · have hl0 : len = 0 := by
              rcases Nat.mul_eq_zero.1 h0 with h | h
              · exact h
              · omega
            subst hl0
            simp only [Nat.zero_mul, if_true, Sem.run_bind, Sem.run_pure, Result.andThen_ok, show Array.range 0 = #[] from Array.eq_empty_of_size_eq_zero (by simp), Array.map_empty]
            have hz0 : (zerosL z.cells.toList 0).toArray = #[] := rfl
            rw [hz0] at hf'
            rw [hf']
            simp [run_newRow, ren, renAddr, renCap, upd_same, open_pos]
          · simp only [Sem.run_pure, Result.andThen_ok, h0, if_false, Sem.run_bind, iz w]
            rw [zeros_model _ _ _ e1, hf']
            simp [run_newRow, ren, renAddr, renCap, upd_same, hlen]
        · simp at h
      · simp at h
    · simp at h
  · simp at h

/- ## make([]T, l, c) -/
def xmakeSlice (P : Program) (H : Heap) (t : TypeId) (l c : Value) : Option (Value × Heap) := match xunder P t, l, c with
  | some (.slice elem), .int _ len, .int _ cap => match xsize P elem, xzero P elem, xbytes P elem with
    | some size, some z, some bytes => match Nat.beq z.cells.size size, decide (0 ≤ len) && decide (len ≤ cap) && decide (cap ≤ 1099511627776) && decide (bytes * cap ≤ 281474976710656) && Nat.ble 1 size with
      | true, true => some (.slice (some ⟨H.next, 0, none⟩) len.toNat cap.toNat, H.alloc (.row (zerosL z.cells.toList cap.toNat) elem .fixed))
      | _, _ => none
    | _, _, _ => none
  | _, _, _ => none

theorem is_bytes {P : Program} {t : TypeId} {n : Nat} (h : xbytes P t = some n) : ∃ i, P.info? t = some i ∧ i.bytes = n ∧ Is P (typeInfo t) i := by
  unfold xbytes at h
  cases hi : P.info? t with
  | none => simp [hi] at h
  | some d =>
    simp only [hi, Option.map_some, Option.some.injEq] at h
    exact ⟨d, rfl, h, is_typeInfo hi⟩

theorem does_makeSlice {P : Program} {σ : Sig} {H H' : Heap} {w : World} (hR : Rep P σ H w) {t : TypeId} {l c v : Value}
    (h : xmakeSlice P H t l c = some (v, H')) : DoesF P σ H w (Instr.makeSlice t (ren σ l) (ren σ c)) v H' := by
  unfold xmakeSlice at h
  split at h
  · rename_i elem k1 len k2 cap hu
    split at h
    · rename_i size z bytes hs hz hb
      obtain ⟨iz, hc⟩ := is_zero hz
      obtain ⟨i, _, hib, iti⟩ := is_bytes hb
      split at h
      · rename_i e1 e2
        have e1 := Nat.eq_of_beq_eq_true e1
        simp only [Bool.and_eq_true, decide_eq_true_eq] at e2
        obtain ⟨⟨⟨⟨g1, g2⟩, g3⟩, g4⟩, g5⟩ := e2
        have g5 := Nat.le_of_ble_eq_true g5
        simp only [Option.some.injEq, Prod.mk.injEq] at h
        obtain ⟨rfl, rfl⟩ := h
        have w1 : IntKind.i64.wrap len = len := IntWalk.i64_in _ (by omega)
        have w2 : IntKind.i64.wrap cap = cap := IntWalk.i64_in _ (by omega)
        have hm : ∀ v ∈ zerosL z.cells.toList cap.toNat, Stab H.next v := fun v hv => Stab.clo (clo_cells hc v (zerosL_mem v hv))
        obtain ⟨r1, r2⟩ := hR.newRow (vs := zerosL z.cells.toList cap.toNat) (elem := elem) (kind := .fixed) (c := (zerosL z.cells.toList cap.toNat).toArray) (cap := 0) hm
          (fun j u hj => by
            rw [List.getElem?_toArray, hj, ren_clo σ u (clo_cells hc u (zerosL_mem u (List.mem_of_getElem? hj)))]) (by simp) (fun h => by cases h) (fun _ => by simp)
        refine ⟨_, ?_, r1, r2, stab_slice (Nat.lt_succ_self _) 0 _ _⟩
        have hbt : (i.bytes : Int) * cap ≤ 2 ^ 48 := by rw [hib]; omega
        have hbl : (i.bytes : Int) * len ≤ 2 ^ 48 := by
          have : (i.bytes : Int) * len ≤ i.bytes * cap := Int.mul_le_mul_of_nonneg_left g2 (Int.natCast_nonneg _)
          omega
        simp only [Instr.makeSlice, ren, asInt, asIntOf, Sem.run_bind, is_underlying hu w, Result.andThen_ok, Sem.run_pure, iti w, w1, w2]
        have hno : ((decide (cap < 0) || decide ((i.bytes : Int) * cap > 2 ^ 48)) || decide (len < 0) || decide (len > cap)) = false := by
          simp only [Bool.or_eq_false_iff, decide_eq_false_iff_not]
          omega
        rw [hno]
        simp only [Bool.false_eq_true, if_false, run_askRoom, Result.andThen_ok, is_sizeOf hs w, Sem.run_bind]
        have hcap : cap.toNat < OPEN := lt_open (by omega)
        by_cases h0 : cap.toNat * size = 0
        · have hc0 : cap.toNat = 0 := by
            rcases Nat.mul_eq_zero.1 h0 with h | h
            · exact h
            · omega
          simp [hc0, run_newRow, renAddr, renCap, upd_same, zerosL, open_pos]
          rw [show Array.range 0 = #[] from Array.eq_empty_of_size_eq_zero (by simp), Array.map_empty]
        · simp only [h0, if_false, Sem.run_bind, iz w, Result.andThen_ok, Sem.run_pure]
          rw [zeros_model _ _ _ e1]
          simp [run_newRow, renAddr, renCap, upd_same, hcap]
      · simp at h
    · simp at h
  · simp at h


/- ## cuts -/
def xbound (x : Value) (y : Nat) : Option Nat := match x with
  | .int _ i => match decide (0 ≤ i) && decide (i ≤ (y : Int)) with
    | true => some i.toNat
    | false => none
  | _ => none

def xboundO (x : Option Value) (y d : Nat) : Option Nat := match x with
  | some v => xbound v y
  | none => some d

theorem is_bound {P : Program} (σ : Sig) {x : Value} {y n : Nat} {code : BoundsCode} (h : xbound x y = some n) : Is P (Instr.sliceBound (ren σ x) y code) n ∧ n ≤ y := by
  unfold xbound at h
  split at h
  · split at h
    · rename_i k i hc
      simp only [Bool.and_eq_true, decide_eq_true_eq] at hc
      simp only [Option.some.injEq] at h
      subst h
      refine ⟨fun w => ?_, by omega⟩
      simp [Instr.sliceBound, ren, asIntOf, hc.1, hc.2]
    · simp at h
  · simp at h

/-- The bounds of a cut whose capacity is known. -/
def xbounds (len cap : Nat) (lo hi mx : Option Value) : Option (Nat × Nat × Nat) := match xboundO mx cap cap with
  | some m => match hi, mx with
    | none, some _ => none
    | _, _ => match xboundO hi m len with
      | some h => match xboundO lo h 0 with
        | some l => some (l, h, m)
        | none => none
      | none => none
  | none => none

theorem is_bounds {P : Program} (σ : Sig) {b : Bool} {len cap l h m : Nat} {lo hi mx : Option Value} (hx : xbounds len cap lo hi mx = some (l, h, m)) :
    Is P (Instr.sliceBounds b len cap (lo.map (ren σ)) (hi.map (ren σ)) (mx.map (ren σ))) (l, h, m) ∧ m ≤ cap ∧ (hi.isSome = true → h ≤ m) ∧ (lo.isSome = true → l ≤ h) ∧ (lo = none → l = 0) ∧
      (hi = none → h = len) ∧ (mx = none → m = cap) := by
  unfold xbounds at hx
  cases hm : xboundO mx cap cap with
  | none => simp [hm] at hx
  | some m' =>
    simp only [hm] at hx
    have key : ¬ (hi = none ∧ mx.isSome = true) ∧ ∃ h' l', xboundO hi m' len = some h' ∧ xboundO lo h' 0 = some l' ∧ (l', h', m') = (l, h, m) := by
      split at hx
      · simp at hx
      · rename_i hno
        refine ⟨?_, ?_⟩
        · rintro ⟨rfl, h2⟩
          cases mx with
          | none => cases h2
          | some u => exact hno u rfl rfl
        · cases hh : xboundO hi m' len with
          | none => simp [hh] at hx
          | some h' =>
            simp only [hh] at hx
            cases hl : xboundO lo h' 0 with
            | none => simp [hl] at hx
            | some l' =>
              simp only [hl, Option.some.injEq] at hx
              exact ⟨h', l', rfl, hl, hx⟩
    obtain ⟨hno, h', l', hh, hl, e⟩ := key
    simp only [Prod.mk.injEq] at e
    obtain ⟨rfl, rfl, rfl⟩ := e
    clear hx
    have B : ∀ {x : Value} {y n : Nat}, xbound x y = some n → (∀ code w, (Instr.sliceBound (ren σ x) y code).run P w = .ok n w) ∧ n ≤ y :=
      fun hb => ⟨fun code w => (is_bound σ hb).1 w, (is_bound (P := P) (code := .index) σ hb).2⟩
    cases mx with
    | none =>
      simp only [xboundO, Option.some.injEq] at hm
      subst hm
      cases hi with
      | none =>
        simp only [xboundO, Option.some.injEq] at hh
        subst hh
        cases lo with
        | none =>
          simp only [xboundO, Option.some.injEq] at hl
          subst hl
          exact ⟨fun w => by simp [Instr.sliceBounds], by simp⟩
        | some u =>
          simp only [xboundO] at hl
          obtain ⟨b1, b2⟩ := B hl
          exact ⟨fun w => by simp [Instr.sliceBounds, b1], by simp [b2]⟩
      | some v =>
        simp only [xboundO] at hh
        obtain ⟨c1, c2⟩ := B hh
        cases lo with
        | none =>
          simp only [xboundO, Option.some.injEq] at hl
          subst hl
          exact ⟨fun w => by simp [Instr.sliceBounds, c1], by simp [c2]⟩
        | some u =>
          simp only [xboundO] at hl
          obtain ⟨b1, b2⟩ := B hl
          exact ⟨fun w => by simp [Instr.sliceBounds, b1, c1], by simp [b2, c2]⟩
    | some z =>
      simp only [xboundO] at hm
      obtain ⟨d1, d2⟩ := B hm
      cases hi with
      | none => exact absurd ⟨rfl, rfl⟩ hno
      | some v =>
        simp only [xboundO] at hh
        obtain ⟨c1, c2⟩ := B hh
        cases lo with
        | none =>
          simp only [xboundO, Option.some.injEq] at hl
          subst hl
          exact ⟨fun w => by simp [Instr.sliceBounds, c1, d1], by simp [c2, d2]⟩
        | some u =>
          simp only [xboundO] at hl
          obtain ⟨b1, b2⟩ := B hl
          exact ⟨fun w => by simp [Instr.sliceBounds, b1, c1, d1], by simp [b2, c2, d2]⟩

def xslice (P : Program) (H : Heap) (t : TypeId) (x : Value) (lo hi mx : Option Value) : Option (Value × Heap) := match xunder P t, x with
  | some .string, .string s => match mx, xbounds s.size s.size lo hi none with
    | none, some (l, h, _) => match Nat.ble l h, Nat.ble h s.size with
      | true, true => some (.string ⟨⟨(s.data.toList.drop l).take (h - l)⟩⟩, H)
      | _, _ => none
    | _, _ => none
  | some (.array n elem), .pointer (some a) => match xbounds n n lo hi mx, xsize P elem with
    | some (l, h, m), some size => match Nat.ble l h, Nat.ble h m, Nat.ble n 1099511627776 with
      | true, true, true => some (.slice (some (match Nat.beq m l with | true => a | false => a.add (l * size))) (h - l) (m - l), H)
      | _, _, _ => none
    | _, _ => none
  | some (.slice elem), .slice none len cap => match xbounds len cap lo hi mx, xsize P elem with
    | some (l, h, m), some _ => match Nat.ble l h, Nat.ble h m with
      | true, true => some (.slice none (h - l) (m - l), H)
      | _, _ => none
    | _, _ => none
  | some (.slice elem), .slice (some a) len cap => match Nat.blt cap OPEN with
    | true => match xbounds len cap lo hi mx, xsize P elem with
      | some (l, h, m), some size => match Nat.ble l h, Nat.ble h m with
        | true, true => some (.slice (some (match Nat.beq m l with | true => a | false => a.add (l * size))) (h - l) (m - l), H)
        | _, _ => none
      | _, _ => none
    | false => match a.spot, H.get a.block, xsize P elem with
      | none, some (.row cells elem' .opn), some size => match Nat.beq elem elem', Nat.beq a.off ((cap - OPEN) * size), Nat.ble (a.off + len * size) cells.length, Nat.ble 1 size, mx with
        | true, true, true, true, none => match xbounds len len lo hi none with
          | some (l, h, _) => match Nat.ble l h, Nat.beq l 0, Nat.blt l len with
            | true, true, _ => some (.slice (some a) h cap, H)
            | true, false, true => some (.slice (some (a.add (l * size))) (h - l) (cap + l), H)
            | true, false, false => some (.slice (some ⟨H.next, 0, none⟩) 0 OPEN, ⟨H.t, H.next + 1⟩)
            | _, _, _ => none
          | none => none
        | true, true, true, true, some mv => match xbounds len len lo hi (some mv) with
          | some (l, h, m) => match Nat.ble l h, Nat.ble h m, Nat.ble m 1099511627776 with
            | true, true, true => some (.slice (some (match Nat.beq m l with | true => a | false => a.add (l * size))) (h - l) (m - l), H)
            | _, _, _ => none
          | none => none
        | _, _, _, _, _ => none
      | _, _, _ => none
  | _, _ => none


theorem Does.same {P : Program} {σ : Sig} {H : Heap} {w : World} (hR : Rep P σ H w) {m : Sem Value} {v : Value} (h : m.run P w = .ok (ren σ v) w) (hst : Stab H.next v) :
    Does P σ H w m v H := ⟨σ, w, h, hR, Stp.refl _ _ _, hst⟩

theorem stab_slice' {n : Nat} {a : Addr} (h : a.block < n) (l c : Nat) : Stab n (.slice (some a) l c) := fun σ σ' hs => by simp [ren, renAddr, renCap, hs a.block h]

theorem Stab.block_slice {n : Nat} {a : Addr} {l c : Nat} (h : Stab n (.slice (some a) l c)) : a.block < n := by
  rcases Nat.lt_or_ge a.block n with hl | hl
  · exact hl
  · have := h (fun _ => ⟨0, 0, 0⟩) (fun i => if i = a.block then ⟨1, 0, 0⟩ else ⟨0, 0, 0⟩) (fun i hi => by rw [if_neg (by omega)])
    simp [ren, renAddr] at this
theorem Stab.block_ptr {n : Nat} {a : Addr} (h : Stab n (.pointer (some a))) : a.block < n := by
  rcases Nat.lt_or_ge a.block n with hl | hl
  · exact hl
  · have := h (fun _ => ⟨0, 0, 0⟩) (fun i => if i = a.block then ⟨1, 0, 0⟩ else ⟨0, 0, 0⟩) (fun i hi => by rw [if_neg (by omega)])
    simp [ren, renAddr] at this
theorem block_add (a : Addr) (n : Nat) : (a.add n).block = a.block := by unfold Addr.add; split <;> rfl

theorem extract_bytes (s : ByteArray) (l h : Nat) : s.extract l h = ⟨⟨(s.data.toList.drop l).take (h - l)⟩⟩ := by
  apply ByteArray.ext
  apply Array.toList_inj.1
  simp [ByteArray.data_extract, List.extract_eq_take_drop]

theorem blt_spec {a b : Nat} : Nat.blt a b = true ↔ a < b := by simp

theorem xboundO_more {x : Option Value} {len rc d n : Nat} (h : xboundO x len d = some n) (hr : len ≤ rc) : xboundO x rc d = some n := by
  cases x with
  | none => exact h
  | some v =>
    simp only [xboundO, xbound] at h ⊢
    split at h
    · rename_i k i
      split at h
      · rename_i hc
        simp only [Bool.and_eq_true, decide_eq_true_eq] at hc
        have : (decide (0 ≤ i) && decide (i ≤ (rc : Int))) = true := by simp only [Bool.and_eq_true, decide_eq_true_eq]; omega
        rw [this]; exact h
      · simp at h
    · simp at h

theorem xbounds_more {len rc l h m : Nat} {lo hi : Option Value} (hx : xbounds len len lo hi none = some (l, h, m)) (hr : len ≤ rc) : xbounds len rc lo hi none = some (l, h, rc) := by
  unfold xbounds at hx ⊢
  simp only [xboundO] at hx ⊢
  cases hh : xboundO hi len len with
  | none => cases hi <;> simp_all [xboundO]
  | some h' =>
    have hh' := xboundO_more hh hr
    cases hl : xboundO lo h' 0 with
    | none =>
      cases hi <;> cases lo <;> simp_all [xboundO]
    | some l' =>
      cases hi <;> cases lo <;> simp_all [xboundO]

theorem xbounds_more' {len rc l h m : Nat} {lo hi : Option Value} {mv : Value} (hx : xbounds len len lo hi (some mv) = some (l, h, m)) (hr : len ≤ rc) :
    xbounds len rc lo hi (some mv) = some (l, h, m) := by
  unfold xbounds at hx ⊢
  cases hm : xboundO (some mv) len len with
  | none => simp [hm] at hx
  | some m' =>
    have hm2 : xboundO (some mv) rc rc = some m' := xboundO_more (x := some mv) hm hr
    rw [hm] at hx
    rw [hm2]
    cases hi with
    | none => simp at hx
    | some hv => exact hx

theorem xbounds_le {len l h m : Nat} {lo hi : Option Value} (hx : xbounds len len lo hi none = some (l, h, m)) : h ≤ len := by
  obtain ⟨_, _, h2, _, _, h3, _⟩ := is_bounds (P := default) (fun _ => ⟨0, 0, 0⟩) (b := true) hx
  have hm := (is_bounds (P := default) (fun _ => ⟨0, 0, 0⟩) (b := true) hx).2.1
  cases hi with
  | none => have := h3 rfl; omega
  | some u => have := h2 rfl; omega

/-- .. and if it takes no id, the world stands. -/
def DoesS (P : Program) (σ : Sig) (H : Heap) (w : World) (m : Sem Value) (v : Value) (H' : Heap) : Prop :=
  Does P σ H w m v H' ∧ (H'.next = H.next → H' = H ∧ m.run P w = .ok (ren σ v) w)
theorem DoesS.same {P : Program} {σ : Sig} {H : Heap} {w : World} (hR : Rep P σ H w) {m : Sem Value} {v : Value} (h : m.run P w = .ok (ren σ v) w) (hst : Stab H.next v) :
    DoesS P σ H w m v H := ⟨Does.same hR h hst, fun _ => ⟨rfl, h⟩⟩
theorem DoesS.new {P : Program} {σ : Sig} {H H' : Heap} {w : World} {m : Sem Value} {v : Value} (hn : H'.next ≠ H.next) (h : Does P σ H w m v H') : DoesS P σ H w m v H' := ⟨h, fun e => absurd e hn⟩

theorem does_sliceS {P : Program} {σ : Sig} {H H' : Heap} {w : World} (hR : Rep P σ H w) {t : TypeId} {x v : Value} {lo hi mx : Option Value}
    (h : xslice P H t x lo hi mx = some (v, H')) (hst : Stab H.next x) :
    DoesS P σ H w (Instr.sliceAt t (ren σ x) (lo.map (ren σ)) (hi.map (ren σ)) (mx.map (ren σ))) v H' := by
  unfold xslice at h
  split at h
  · rename_i s hu
    split at h
    · rename_i l hh m hb
      split at h
      · simp only [Option.some.injEq, Prod.mk.injEq] at h
        obtain ⟨rfl, rfl⟩ := h
        obtain ⟨ib, _⟩ := is_bounds (P := P) σ (b := false) hb
        refine DoesS.same hR ?_ (Stab.clo rfl)
        have := ib w
        simp only [Option.map_none] at this ⊢
        simp [Instr.sliceAt, is_underlying hu w, Instr.slice, ren, this, extract_bytes s l hh]
      · simp at h
    · simp at h
  · rename_i n elem a hu
    split at h
    · rename_i l hh m size hb hs
      split at h
      · rename_i g1 g2 g3
        have g3 := Nat.le_of_ble_eq_true g3
        simp only [Option.some.injEq, Prod.mk.injEq] at h
        obtain ⟨rfl, rfl⟩ := h
        obtain ⟨ib, im, _⟩ := is_bounds (P := P) σ (b := false) hb
        have ho : m - l < OPEN := lt_open (by omega)
        have hblk := hst.block_ptr
        refine DoesS.same hR ?_ (stab_slice' (by split <;> first | exact hblk | (rw [block_add]; exact hblk)) _ _)
        by_cases e : m = l
        · rw [Tr.beq_tt e]
          simp [Instr.sliceAt, is_underlying hu w, Instr.sureAddr, ren, ib w, is_sizeOf hs w, e, renCap, open_pos]
        · rw [Tr.beq_ff e]
          simp [Instr.sliceAt, is_underlying hu w, Instr.sureAddr, ren, ib w, is_sizeOf hs w, e, renCap, ho, renAddr_add]
      · simp at h
    · simp at h
  · rename_i elem len cap hu
    split at h
    · rename_i l hh m size hb hs
      split at h
      · simp only [Option.some.injEq, Prod.mk.injEq] at h
        obtain ⟨rfl, rfl⟩ := h
        obtain ⟨ib, im, _⟩ := is_bounds (P := P) σ (b := true) hb
        refine DoesS.same hR ?_ (Stab.clo rfl)
        simp [Instr.sliceAt, is_underlying hu w, Instr.slice, ren, ib w, is_sizeOf hs w]
      · simp at h
    · simp at h
  · rename_i elem a len cap hu
    have hblk := hst.block_slice
    split at h
    · rename_i ho
      have ho : cap < OPEN := blt_spec.1 ho
      split at h
      · rename_i l hh m size hb hs
        split at h
        · simp only [Option.some.injEq, Prod.mk.injEq] at h
          obtain ⟨rfl, rfl⟩ := h
          obtain ⟨ib, im, _⟩ := is_bounds (P := P) σ (b := true) hb
          have hm : m - l < OPEN := by omega
          refine DoesS.same hR ?_ (stab_slice' (by split <;> first | exact hblk | (rw [block_add]; exact hblk)) _ _)
          by_cases e : m = l
          · rw [Tr.beq_tt e]
            have h0 : (0 : Nat) < OPEN := open_pos
            simp [Instr.sliceAt, is_underlying hu w, Instr.slice, ren, renCap, ho, ib w, is_sizeOf hs w, e, h0]
          · rw [Tr.beq_ff e]
            simp [Instr.sliceAt, is_underlying hu w, Instr.slice, ren, renCap, ho, ib w, is_sizeOf hs w, e, hm, renAddr_add]
        · simp at h
      · simp at h
    · rename_i ho
      have ho : OPEN ≤ cap := by
        rcases Nat.lt_or_ge cap OPEN with hc | hc
        · have : Nat.blt cap OPEN = true := blt_spec.2 hc
          rw [this] at ho; cases ho
        · exact hc
      split at h
      · rename_i cells elem' size hsp hg hs
        split at h
        · rename_i g1 g2 g3 g4
          have g1 := Nat.eq_of_beq_eq_true g1
          have g2 := Nat.eq_of_beq_eq_true g2
          have g3 := Nat.le_of_ble_eq_true g3
          have g4 := Nat.le_of_ble_eq_true g4
          subst g1
          split at h
          · rename_i l hh m hb
            rcases hR.obj _ _ hg with hk | ⟨c, fr, hc, hlen, hcell, hfr, hcap, _⟩
            · cases hk
            have hel : elSize P elem = size := by simp [elSize, hs]
            obtain ⟨k1, k2⟩ := hcap rfl
            rw [hel] at k1 k2
            have hroom : cap - OPEN + len ≤ (σ a.block).cap := by
              have : (cap - OPEN + len) * size ≤ (σ a.block).cap * size := by
                rw [Nat.add_mul, ← g2]; omega
              exact Nat.le_of_mul_le_mul_right this (by omega)
            have hb' := xbounds_more hb (rc := (σ a.block).cap - (cap - OPEN)) (by omega)
            obtain ⟨ib, im, _⟩ := is_bounds (P := P) σ (b := true) hb'
            have hrc : renCap σ a.block cap = (σ a.block).cap - (cap - OPEN) := by unfold renCap; rw [if_neg (by omega)]
            have hl := xbounds_le hb
            have hrun : (Instr.sliceAt t (ren σ (.slice (some a) len cap)) (lo.map (ren σ)) (hi.map (ren σ)) (Option.map (ren σ) none)).run P w =
                .ok (.slice (if (σ a.block).cap - (cap - OPEN) = l then some (renAddr σ a) else some ((renAddr σ a).add (l * size))) (hh - l) ((σ a.block).cap - (cap - OPEN) - l)) w := by
              simp only [Option.map_none] at ib
              simp only [Instr.sliceAt, Sem.run_bind, is_underlying hu w, Result.andThen_ok, Instr.slice, ren, hrc, Option.map_none, ib w, is_sizeOf hs w, Sem.run_pure, Option.map_some]
            split at h
            · rename_i e1 e2
              have e2 := Nat.eq_of_beq_eq_true e2
              subst e2
              simp only [Option.some.injEq, Prod.mk.injEq] at h
              obtain ⟨rfl, rfl⟩ := h
              refine DoesS.same hR ?_ (stab_slice' hblk _ _)
              have ha0 : (renAddr σ a).add (0 * size) = renAddr σ a := by rw [Nat.zero_mul]; rfl
              rw [hrun, ha0, ite_self, Nat.sub_zero, Nat.sub_zero]
              simp only [ren, hrc]
            · rename_i e1 e2 e3
              have e3 : l < len := blt_spec.1 e3
              simp only [Option.some.injEq, Prod.mk.injEq] at h
              obtain ⟨rfl, rfl⟩ := h
              refine DoesS.same hR ?_ (stab_slice' (by simp only [block_add]; exact hblk) _ _)
              rw [hrun, if_neg (by omega)]
              have : renCap σ (a.add (l * size)).block (cap + l) = (σ a.block).cap - (cap - OPEN) - l := by
                unfold renCap
                rw [if_neg (by omega), block_add]; omega
              simp [ren, this, renAddr_add]
            · rename_i e1 e2 e3
              have e1 := Nat.le_of_ble_eq_true e1
              have e3 : ¬ l < len := by
                intro hlt
                have : Nat.blt l len = true := blt_spec.2 hlt
                rw [this] at e3; cases e3
              have hll : l = len := by omega
              have hhl : hh = l := by omega
              simp only [Option.some.injEq, Prod.mk.injEq] at h
              obtain ⟨rfl, rfl⟩ := h
              have hlt : ∀ id o, H.get id = some o → id < H.next := hR.lt
              obtain ⟨q, hq, hqs⟩ : ∃ q : Addr, (if (σ a.block).cap - (cap - OPEN) = l then some (renAddr σ a) else some ((renAddr σ a).add (l * size))) = some q ∧ q.spot = none := by
                split
                · exact ⟨_, rfl, by simp [renAddr, hsp]⟩
                · exact ⟨_, rfl, by rw [add_off _ _ (by simp [renAddr, hsp])]⟩
              rw [hq] at hrun
              refine DoesS.new (by simp) ⟨upd σ H.next ⟨q.block, q.off, (σ a.block).cap - (cap - OPEN) - l⟩, w, ?_, ?_, ?_, stab_slice (Nat.lt_succ_self _) 0 _ _⟩
              · rw [hrun]
                have e4 : hh - l = 0 := by omega
                obtain ⟨qb, qo, qs⟩ := q
                simp only at hqs
                subst hqs
                simp only [ren, renAddr, upd_same, renCap, Nat.lt_irrefl, if_false, Nat.sub_self, Nat.sub_zero, Nat.add_zero, e4]
              · refine ⟨fun id o ho => ?_, fun id o ho => Nat.lt_succ_of_lt (hlt id o ho), fun i j oi oj hij hi hj hli hoj => ?_, fun id o ho => (hR.stab id o ho).mono (Nat.le_succ _), (hR.glob.sig fun i hi => upd_below i hi).mono (Nat.le_succ _)⟩
                · exact (hR.obj id o ho).of_sig (n := H.next) (fun i hi => upd_below i hi) (hlt id o ho) (hR.stab id o ho)
                · have hi' := hlt i oi hi
                  have hj' := hlt j oj hj
                  rw [upd_ne _ _ (by omega), upd_ne _ _ (by omega)]
                  exact hR.apart i j oi oj hij hi hj hli hoj
              · refine ⟨fun i hi => upd_below i hi, Nat.le_succ _, rfl, rfl, rfl, Nat.le_refl _, fun _ _ _ => rfl, fun i o hi ho => .inl ⟨i, o, hi, ho, ?_⟩, fun i o hi ho => .inl ⟨i, o, hi, ho, ?_⟩⟩ <;>
                  · have hi' := hlt i o hi
                    rw [upd_ne _ _ (by omega)]
            · simp at h
          · simp at h
        · rename_i mv g1 g2 g3 g4
          have g1 := Nat.eq_of_beq_eq_true g1
          have g2 := Nat.eq_of_beq_eq_true g2
          have g3 := Nat.le_of_ble_eq_true g3
          have g4 := Nat.le_of_ble_eq_true g4
          subst g1
          split at h
          · rename_i l hh m hb
            rcases hR.obj _ _ hg with hk | ⟨c, fr, hc, hlen, hcell, hfr, hcap, _⟩
            · cases hk
            have hel : elSize P elem = size := by simp [elSize, hs]
            obtain ⟨k1, k2⟩ := hcap rfl
            rw [hel] at k1 k2
            have hroom : cap - OPEN + len ≤ (σ a.block).cap := by
              have : (cap - OPEN + len) * size ≤ (σ a.block).cap * size := by
                rw [Nat.add_mul, ← g2]; omega
              exact Nat.le_of_mul_le_mul_right this (by omega)
            have hb' := xbounds_more' hb (rc := (σ a.block).cap - (cap - OPEN)) (by omega)
            obtain ⟨ib, im, _⟩ := is_bounds (P := P) σ (b := true) hb'
            have hrc : renCap σ a.block cap = (σ a.block).cap - (cap - OPEN) := by unfold renCap; rw [if_neg (by omega)]
            split at h
            · rename_i e1 e2 e3
              have e3 := Nat.le_of_ble_eq_true e3
              simp only [Option.some.injEq, Prod.mk.injEq] at h
              obtain ⟨rfl, rfl⟩ := h
              have hm : m - l < OPEN := lt_open (by omega)
              refine DoesS.same hR ?_ (stab_slice' (by split <;> first | exact hblk | (rw [block_add]; exact hblk)) _ _)
              have hrun : (Instr.sliceAt t (ren σ (.slice (some a) len cap)) (lo.map (ren σ)) (hi.map (ren σ)) (Option.map (ren σ) (some mv))).run P w =
                  .ok (.slice (if m = l then some (renAddr σ a) else some ((renAddr σ a).add (l * size))) (hh - l) (m - l)) w := by
                simp only [Option.map_some] at ib
                simp only [Instr.sliceAt, Sem.run_bind, is_underlying hu w, Result.andThen_ok, Instr.slice, ren, hrc, Option.map_some, ib w, is_sizeOf hs w, Sem.run_pure]
              rw [hrun]
              by_cases e : m = l
              · rw [Tr.beq_tt e, if_pos e]
                simp only [ren, renCap, if_pos hm]
              · rw [Tr.beq_ff e, if_neg e]
                simp only [ren, renCap, if_pos hm, renAddr_add]
            · simp at h
          · simp at h
        · simp at h
      · simp at h
  · simp at h

theorem does_slice {P : Program} {σ : Sig} {H H' : Heap} {w : World} (hR : Rep P σ H w) {t : TypeId} {x v : Value} {lo hi mx : Option Value}
    (h : xslice P H t x lo hi mx = some (v, H')) (hst : Stab H.next x) :
    Does P σ H w (Instr.sliceAt t (ren σ x) (lo.map (ren σ)) (hi.map (ren σ)) (mx.map (ren σ))) v H' := (does_sliceS hR h hst).1

end
end Go.Proofs.YtibeinbfhhoeiaaGreatDoor.Ab

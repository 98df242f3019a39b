/- The abstract heap and its values: definitions of the abstract interpreter's data (program independent). The abstract interpreter's operations that touch no memory, and that the model's own do the same on renamed values. The abstract interpreter's operations that touch no memory (continued): each comes to the renamed value in the model, in whatever world. The abstract interpreter's operations that touch no memory (end): all of them in one function. -/
import Derived.Defers
import Derived.Recover
import Derived.LoopN
import Derived.Orders
import Derived.Below
import Derived.KernelRfl
import Derived.Laws.Sem
import Derived.Laws.Strings
import Derived.Laws.Concat
namespace Go.Proofs.YtibeinbfhhoeiaaGreatDoor.Ab
open Go
noncomputable section

/- ## tries -/
inductive Tr (α : Type) where
  | lf
  | nd (v : Option α) (l r : Tr α)

namespace Tr
variable {α : Type}

def get (t : Tr α) : Nat → Option α :=
  Tr.rec (motive := fun _ => Nat → Option α) (fun _ => none)
    (fun v _ _ gl gr i => Nat.rec (motive := fun _ => Option α) v
      (fun k _ => Nat.rec (motive := fun _ => Option α) (gl (Nat.div k 2)) (fun _ _ => gr (Nat.div k 2)) (Nat.mod k 2)) i) t

def path (a : α) : Nat → Nat → Tr α :=
  Nat.rec (motive := fun _ => Nat → Tr α) (fun _ => .lf)
    (fun _ ih i => Nat.rec (motive := fun _ => Tr α) (.nd (some a) .lf .lf)
      (fun k _ => Nat.rec (motive := fun _ => Tr α) (.nd none (ih (Nat.div k 2)) .lf) (fun _ _ => .nd none .lf (ih (Nat.div k 2))) (Nat.mod k 2)) i)

def set (t : Tr α) (i : Nat) (a : α) : Tr α :=
  Tr.rec (motive := fun _ => Nat → Tr α) (fun i => path a (Nat.succ i) i)
    (fun v l r sl sr i => Nat.rec (motive := fun _ => Tr α) (.nd (some a) l r)
      (fun k _ => Nat.rec (motive := fun _ => Tr α) (.nd v (sl (Nat.div k 2)) r) (fun _ _ => .nd v l (sr (Nat.div k 2))) (Nat.mod k 2)) i) t i

theorem mod_cases (k : Nat) : (Nat.mod k 2 = 0 ∧ k = 2 * Nat.div k 2) ∨ (Nat.mod k 2 = 1 ∧ k = 2 * Nat.div k 2 + 1) := by
  have h1 : Nat.mod k 2 = k % 2 := rfl
  have h2 : Nat.div k 2 = k / 2 := rfl
  rw [h1, h2]
  omega

theorem get_lf (i : Nat) : (Tr.lf : Tr α).get i = none := rfl
theorem get_nd_zero (v : Option α) (l r : Tr α) : (Tr.nd v l r).get 0 = v := rfl
theorem get_nd_l (v : Option α) (l r : Tr α) {k : Nat} (h : Nat.mod k 2 = 0) : (Tr.nd v l r).get (k + 1) = l.get (Nat.div k 2) := by
  show Nat.rec (motive := fun _ => Option α) (l.get (Nat.div k 2)) (fun _ _ => r.get (Nat.div k 2)) (Nat.mod k 2) = _
  rw [h]; rfl
theorem get_nd_r (v : Option α) (l r : Tr α) {k : Nat} (h : Nat.mod k 2 = 1) : (Tr.nd v l r).get (k + 1) = r.get (Nat.div k 2) := by
  show Nat.rec (motive := fun _ => Option α) (l.get (Nat.div k 2)) (fun _ _ => r.get (Nat.div k 2)) (Nat.mod k 2) = _
  rw [h]; rfl

theorem path_zero (a : α) (f : Nat) : path a (f + 1) 0 = .nd (some a) .lf .lf := rfl
theorem path_l (a : α) (f : Nat) {k : Nat} (h : Nat.mod k 2 = 0) : path a (f + 1) (k + 1) = .nd none (path a f (Nat.div k 2)) .lf := by
  show Nat.rec (motive := fun _ => Tr α) (.nd none (path a f (Nat.div k 2)) .lf) (fun _ _ => .nd none .lf (path a f (Nat.div k 2))) (Nat.mod k 2) = _
  rw [h]; rfl
theorem path_r (a : α) (f : Nat) {k : Nat} (h : Nat.mod k 2 = 1) : path a (f + 1) (k + 1) = .nd none .lf (path a f (Nat.div k 2)) := by
  show Nat.rec (motive := fun _ => Tr α) (.nd none (path a f (Nat.div k 2)) .lf) (fun _ _ => .nd none .lf (path a f (Nat.div k 2))) (Nat.mod k 2) = _
  rw [h]; rfl

theorem get_path (a : α) : ∀ (f i j : Nat), i < f → (path a f i).get j = if i = j then some a else none := by
  intro f
  induction f with
  | zero => intro i j h; omega
  | succ f ih =>
    intro i j h
    cases i with
    | zero =>
      cases j with
      | zero => rfl
      | succ j =>
        rw [path_zero]
        rcases mod_cases j with ⟨m, _⟩ | ⟨m, _⟩
        · rw [get_nd_l _ _ _ m]; rfl
        · rw [get_nd_r _ _ _ m]; rfl
    | succ k =>
      rcases mod_cases k with ⟨m, e⟩ | ⟨m, e⟩
      · rw [path_l _ _ m]
        cases j with
        | zero => simp [get_nd_zero]
        | succ j =>
          rcases mod_cases j with ⟨m', e'⟩ | ⟨m', e'⟩
          · rw [get_nd_l _ _ _ m', ih _ _ (by omega)]
            by_cases hh : Nat.div k 2 = Nat.div j 2
            · rw [if_pos hh, if_pos (by omega)]
            · rw [if_neg hh, if_neg (by omega)]
          · rw [get_nd_r _ _ _ m', get_lf, if_neg (by omega)]
      · rw [path_r _ _ m]
        cases j with
        | zero => simp [get_nd_zero]
        | succ j =>
          rcases mod_cases j with ⟨m', e'⟩ | ⟨m', e'⟩
          · rw [get_nd_l _ _ _ m', get_lf, if_neg (by omega)]
          · rw [get_nd_r _ _ _ m', ih _ _ (by omega)]
            by_cases hh : Nat.div k 2 = Nat.div j 2
            · rw [if_pos hh, if_pos (by omega)]
            · rw [if_neg hh, if_neg (by omega)]

theorem set_lf (i : Nat) (a : α) : (Tr.lf : Tr α).set i a = path a (i + 1) i := rfl
theorem set_zero (v : Option α) (l r : Tr α) (a : α) : (Tr.nd v l r).set 0 a = .nd (some a) l r := rfl
theorem set_l (v : Option α) (l r : Tr α) (a : α) {k : Nat} (h : Nat.mod k 2 = 0) : (Tr.nd v l r).set (k + 1) a = .nd v (l.set (Nat.div k 2) a) r := by
  show Nat.rec (motive := fun _ => Tr α) (.nd v (l.set (Nat.div k 2) a) r) (fun _ _ => .nd v l (r.set (Nat.div k 2) a)) (Nat.mod k 2) = _
  rw [h]; rfl
theorem set_r (v : Option α) (l r : Tr α) (a : α) {k : Nat} (h : Nat.mod k 2 = 1) : (Tr.nd v l r).set (k + 1) a = .nd v l (r.set (Nat.div k 2) a) := by
  show Nat.rec (motive := fun _ => Tr α) (.nd v (l.set (Nat.div k 2) a) r) (fun _ _ => .nd v l (r.set (Nat.div k 2) a)) (Nat.mod k 2) = _
  rw [h]; rfl

theorem get_set (t : Tr α) : ∀ (i j : Nat) (a : α), (t.set i a).get j = if i = j then some a else t.get j := by
  induction t with
  | lf => intro i j a; rw [set_lf, get_path a _ _ _ (by omega), get_lf]
  | nd v l r ihl ihr =>
    intro i j a
    cases i with
    | zero =>
      rw [set_zero]
      cases j with
      | zero => rfl
      | succ j =>
        rcases mod_cases j with ⟨m, _⟩ | ⟨m, _⟩
        · rw [get_nd_l _ _ _ m, get_nd_l _ _ _ m]; rfl
        · rw [get_nd_r _ _ _ m, get_nd_r _ _ _ m]; rfl
    | succ k =>
      rcases mod_cases k with ⟨m, e⟩ | ⟨m, e⟩
      · rw [set_l _ _ _ _ m]
        cases j with
        | zero => rfl
        | succ j =>
          rcases mod_cases j with ⟨m', e'⟩ | ⟨m', e'⟩
          · rw [get_nd_l _ _ _ m', get_nd_l _ _ _ m', ihl]
            by_cases hh : Nat.div k 2 = Nat.div j 2
            · rw [if_pos hh, if_pos (by omega)]
            · rw [if_neg hh, if_neg (by omega)]
          · rw [get_nd_r _ _ _ m', get_nd_r _ _ _ m', if_neg (by omega)]
      · rw [set_r _ _ _ _ m]
        cases j with
        | zero => rfl
        | succ j =>
          rcases mod_cases j with ⟨m', e'⟩ | ⟨m', e'⟩
          · rw [get_nd_l _ _ _ m', get_nd_l _ _ _ m', if_neg (by omega)]
          · rw [get_nd_r _ _ _ m', get_nd_r _ _ _ m', ihr]
            by_cases hh : Nat.div k 2 = Nat.div j 2
            · rw [if_pos hh, if_pos (by omega)]
            · rw [if_neg hh, if_neg (by omega)]
theorem get_set_same (t : Tr α) (i : Nat) (a : α) : (t.set i a).get i = some a := by rw [get_set, if_pos rfl]
theorem get_set_ne (t : Tr α) {i j : Nat} (a : α) (h : i ≠ j) : (t.set i a).get j = t.get j := by rw [get_set, if_neg h]
theorem beq_ff {a b : Nat} (h : a ≠ b) : Nat.beq a b = false := by
  cases e : Nat.beq a b with
  | false => rfl
  | true => exact absurd (Nat.eq_of_beq_eq_true e) h
theorem beq_tt {a b : Nat} (h : a = b) : Nat.beq a b = true := by subst h; exact Nat.beq_refl a
end Tr

/- ## renaming -/
structure Place where
  blk : Nat
  off : Nat
  cap : Nat

abbrev Sig := Nat → Place

/-- From here on a capacity is not known: 'OPEN + o': the row's own, less o. -/
def OPEN : Nat := 1125899906842624
theorem open_pos : 0 < OPEN := by unfold OPEN; omega
theorem lt_open {n : Nat} (h : n ≤ 1099511627776) : n < OPEN := by unfold OPEN; omega
attribute [irreducible] OPEN

def renCap (σ : Sig) (id c : Nat) : Nat := if c < OPEN then c else (σ id).cap - (c - OPEN)
def renAddr (σ : Sig) (a : Addr) : Addr := ⟨(σ a.block).blk, (σ a.block).off + a.off, a.spot⟩

mutual
def ren (σ : Sig) : Value → Value
  | .pointer (some a) => .pointer (some (renAddr σ a))
  | .slice (some a) l c => .slice (some (renAddr σ a)) l (renCap σ a.block c)
  | .map (some r) => .map (some (σ r).blk)
  | .chan (some r) => .chan (some (σ r).blk)
  | .func fn a b => .func fn (renArr σ a) (renArr σ b)
  | .iface t v => .iface t (ren σ v)
  | .agg cs => .agg (renArr σ cs)
  | .tuple vs => .tuple (renArr σ vs)
  | .bool b => .bool b
  | .int k n => .int k n
  | .float k n => .float k n
  | .complex k a b => .complex k a b
  | .string s => .string s
  | .pointer none => .pointer none
  | .slice none l c => .slice none l c
  | .map none => .map none
  | .chan none => .chan none
  | .nilFunc => .nilFunc
  | .nilIface => .nilIface
def renArr (σ : Sig) : Array Value → Array Value
  | ⟨l⟩ => ⟨renL σ l⟩
def renL (σ : Sig) : List Value → List Value
  | [] => []
  | v :: l => ren σ v :: renL σ l
end

theorem renL_eq (σ : Sig) (l : List Value) : renL σ l = l.map (ren σ) := by
  induction l with
  | nil => simp [renL]
  | cons v l ih => simp [renL, ih]
theorem renArr_eq (σ : Sig) (a : Array Value) : renArr σ a = a.map (ren σ) := by
  cases a with
  | mk l => simp [renArr, renL_eq]

/- 'clo': no address in it. -/
mutual
def clo : Value → Bool
  | .pointer (some _) => false
  | .slice (some _) _ _ => false
  | .map (some _) => false
  | .chan (some _) => false
  | .func _ a b => cloArr a && cloArr b
  | .iface _ v => clo v
  | .agg cs => cloArr cs
  | .tuple vs => cloArr vs
  | _ => true
def cloArr : Array Value → Bool
  | ⟨l⟩ => cloL l
def cloL : List Value → Bool
  | [] => true
  | v :: l => clo v && cloL l
end

mutual
theorem ren_clo (σ : Sig) : ∀ v, clo v = true → ren σ v = v
  | .pointer (some _), h => by simp [clo] at h
  | .slice (some _) _ _, h => by simp [clo] at h
  | .map (some _), h => by simp [clo] at h
  | .chan (some _), h => by simp [clo] at h
  | .func _ a b, h => by
    simp only [clo, Bool.and_eq_true] at h
    simp [ren, renArr_clo σ a h.1, renArr_clo σ b h.2]
  | .iface _ v, h => by simp only [clo] at h; simp [ren, ren_clo σ v h]
  | .agg cs, h => by simp only [clo] at h; simp [ren, renArr_clo σ cs h]
  | .tuple vs, h => by simp only [clo] at h; simp [ren, renArr_clo σ vs h]
  | .bool _, _ | .int _ _, _ | .float _ _, _ | .complex _ _ _, _ | .string _, _ | .pointer none, _ | .slice none _ _, _ | .map none, _
  | .chan none, _ | .nilFunc, _ | .nilIface, _ => by simp [ren]
theorem renArr_clo (σ : Sig) : ∀ a, cloArr a = true → renArr σ a = a
  | ⟨l⟩, h => by simp only [cloArr] at h; simp [renArr, renL_clo σ l h]
theorem renL_clo (σ : Sig) : ∀ l, cloL l = true → renL σ l = l
  | [], _ => by simp [renL]
  | v :: l, h => by
    simp only [cloL, Bool.and_eq_true] at h
    simp [renL, ren_clo σ v h.1, renL_clo σ l h.2]
end

/-- Its renaming hangs on the places of ids below n alone. -/
def Stab (n : Nat) (v : Value) : Prop := ∀ σ σ' : Sig, (∀ i, i < n → σ i = σ' i) → ren σ v = ren σ' v
theorem Stab.mono {n m : Nat} {v : Value} (h : Stab n v) (hm : n ≤ m) : Stab m v := fun σ σ' hs => h σ σ' fun i hi => hs i (by omega)
theorem Stab.clo {n : Nat} {v : Value} (h : clo v = true) : Stab n v := fun σ σ' _ => by rw [ren_clo σ v h, ren_clo σ' v h]

/- ## the abstract heap -/
inductive Kind where
  | fixed
  | opn
  | ro
  | dead
  deriving DecidableEq

inductive AObj where
  | row (cells : List Value) (elem : TypeId) (kind : Kind)
  | map (es : List (Value × Value))
  | chan (cap : Nat) (buf : List Value)

structure Heap where
  t : Tr AObj
  next : Nat

namespace Heap
def get (H : Heap) (i : Nat) : Option AObj := H.t.get i
def set (H : Heap) (i : Nat) (o : AObj) : Heap := ⟨H.t.set i o, H.next⟩
def alloc (H : Heap) (o : AObj) : Heap := ⟨H.t.set H.next o, H.next + 1⟩

theorem get_set_same (H : Heap) (i : Nat) (o : AObj) : (H.set i o).get i = some o := Tr.get_set_same _ _ _
theorem get_set_ne (H : Heap) {i j : Nat} (o : AObj) (h : i ≠ j) : (H.set i o).get j = H.get j := Tr.get_set_ne _ _ h
theorem next_set (H : Heap) (i : Nat) (o : AObj) : (H.set i o).next = H.next := rfl
theorem get_alloc_same (H : Heap) (o : AObj) : (H.alloc o).get H.next = some o := Tr.get_set_same _ _ _
theorem get_alloc_ne (H : Heap) {j : Nat} (o : AObj) (h : H.next ≠ j) : (H.alloc o).get j = H.get j := Tr.get_set_ne _ _ h
theorem next_alloc (H : Heap) (o : AObj) : (H.alloc o).next = H.next + 1 := rfl
end Heap

/- ## frames -/
abbrev Fr := Tr Value

def Fr.ev (F : Fr) (P : Program) : Operand → Option Value
  | .tmp t => F.get t
  | .const v => match clo v with
    | true => some v
    | false => none
  | .func f => some (.func (.func f) #[] #[])
  | .global g => match Nat.ble P.globals.size g with
    | true => none
    | false => some (.pointer (some ⟨g, 0, none⟩))

def Fr.put (F : Fr) (dst : Option Tmp) (v : Value) : Fr :=
  match dst with
  | some d => F.set d v
  | none => F

end
end Go.Proofs.YtibeinbfhhoeiaaGreatDoor.Ab

namespace Go.Proofs.YtibeinbfhhoeiaaGreatDoor.Ab
open Go
noncomputable section

/- ## what needs no world -/
def peel {α : Type} (P : Program) : Sem α → Option α
  | .pure a => some a
  | .program k => peel P (k P)
  | .mark _ k => peel P k
  | _ => none

theorem peel_run {α : Type} {P : Program} : ∀ (m : Sem α) (a : α) (w : World), peel P m = some a → m.run P w = .ok a w := by
  intro m
  induction m with
  | pure a => intro b w h; simp only [peel, Option.some.injEq] at h; subst h; rfl
  | program k ih => intro b w h; simp only [peel] at h; simpa [Sem.run] using ih P b w h
  | mark m k ih => intro b w h; simp only [peel] at h; simpa [Sem.run] using ih b w h
  | load | store | new | shape | freeze | frozen | getObj | setObj | choose | sys | halt => intro b w h; simp [peel] at h

/-- 'm' comes to 'a', whatever the world, and leaves it alone. -/
def Is {α : Type} (P : Program) (m : Sem α) (a : α) : Prop := ∀ w, m.run P w = .ok a w
theorem Is.pure {α : Type} {P : Program} (a : α) : Is P (Pure.pure a : Sem α) a := fun _ => rfl
theorem Is.bind {α β : Type} {P : Program} {m : Sem α} {f : α → Sem β} {a : α} {b : β} (h : Is P m a) (k : Is P (f a) b) : Is P (m >>= f) b :=
  fun w => by rw [Sem.run_bind, h w]; exact k w
theorem Is.peel {α : Type} {P : Program} {m : Sem α} {a : α} (h : peel P m = some a) : Is P m a := fun w => peel_run m a w h

/- ## types -/
def xunder (P : Program) (t : TypeId) : Option TypeDesc := P.underlying t
def xsize (P : Program) (t : TypeId) : Option Nat := (P.info? t).map (·.size)
def xbytes (P : Program) (t : TypeId) : Option Nat := (P.info? t).map (·.bytes)
def xzero (P : Program) (t : TypeId) : Option Value := match (P.info? t).bind (·.zero) with
  | some z => match clo z with
    | true => some z
    | false => none
  | none => none

theorem is_underlying {P : Program} {t : TypeId} {d : TypeDesc} (h : xunder P t = some d) : Is P (underlying t) d := by
  intro w
  show (Sem.program fun p => _).run P w = _
  simp only [Sem.run, Sem.bind]
  unfold xunder at h
  simp [h, pure]
theorem is_typeInfo {P : Program} {t : TypeId} {d : TypeInfo} (h : P.info? t = some d) : Is P (typeInfo t) d := by
  intro w
  show (Sem.program fun p => _).run P w = _
  simp only [Sem.run, Sem.bind]
  simp [h, pure]
theorem is_sizeOf {P : Program} {t : TypeId} {n : Nat} (h : xsize P t = some n) : Is P (sizeOf t) n := by
  unfold xsize at h
  cases hi : P.info? t with
  | none => simp [hi] at h
  | some d =>
    simp only [hi, Option.map_some, Option.some.injEq] at h
    subst h
    exact (is_typeInfo hi).bind (Is.pure _)
theorem is_zero {P : Program} {t : TypeId} {z : Value} (h : xzero P t = some z) : Is P (zeroValue t) z ∧ clo z = true := by
  unfold xzero at h
  cases hi : P.info? t with
  | none => simp [hi] at h
  | some d =>
    simp only [hi, Option.bind_some] at h
    cases hz : d.zero with
    | none => simp [hz] at h
    | some z' =>
      simp only [hz] at h
      cases hc : clo z' with
      | false => simp [hc] at h
      | true =>
        simp only [hc, Option.some.injEq] at h
        subst h
        refine ⟨(is_typeInfo hi).bind ?_, hc⟩
        simp only [hz]
        exact Is.pure _
def xagg (P : Program) (t : TypeId) : Option Bool := match xunder P t with
  | some (.struct _) => some true
  | some (.array _ _) => some true
  | some _ => some false
  | none => none
theorem is_isAgg {P : Program} {t : TypeId} {b : Bool} (h : xagg P t = some b) : Is P (isAgg t) b := by
  unfold xagg at h
  cases hu : xunder P t with
  | none => simp [hu] at h
  | some d =>
    refine (is_underlying hu).bind ?_
    cases d <;> simp [hu] at h <;> subst h <;> exact Is.pure _

/- ## parts put together -/
def xplaces (P : Program) : List Field → Option (List (Nat × Nat))
  | [] => some []
  | f :: fs => match xsize P f.type with
    | some n => match xplaces P fs with
      | some l => some ((f.offset, n) :: l)
      | none => none
    | none => none

theorem is_places {P : Program} (fs : List Field) : ∀ l, xplaces P fs = some l →
    Is P (fs.mapM fun f => do pure (f.offset, ← sizeOf f.type)) l := by
  induction fs with
  | nil => intro l h; simp only [xplaces, Option.some.injEq] at h; subst h; simp only [List.mapM_nil]; exact Is.pure _
  | cons f fs ih =>
    intro l h
    simp only [xplaces] at h
    split at h
    · rename_i n hn
      split at h
      · rename_i l' hl
        simp only [Option.some.injEq] at h
        subst h
        simp only [List.mapM_cons]
        exact Is.bind (a := (f.offset, n)) ((is_sizeOf hn).bind (Is.pure _)) ((ih _ hl).bind (Is.pure _))
      · exact absurd h (by simp)
    · exact absurd h (by simp)

theorem cells_ren (σ : Sig) (v : Value) : (ren σ v).cells = v.cells.map (ren σ) := by
  cases v with
  | agg cs => simp [ren, Value.cells, renArr_eq]
  | pointer a => cases a <;> simp [ren, Value.cells]
  | slice a l c => cases a <;> simp [ren, Value.cells]
  | map a => cases a <;> simp [ren, Value.cells]
  | chan a => cases a <;> simp [ren, Value.cells]
  | _ => simp [ren, Value.cells]

theorem fill_ren (σ : Sig) (place : Nat → Option (Nat × Nat)) : ∀ (parts : List (Nat × Value)) (cells : Array Value),
    Instr.fill place (cells.map (ren σ)) (parts.map fun x => (x.1, ren σ x.2)) = (Instr.fill place cells parts).map (·.map (ren σ))
  | [], cells => by simp [Instr.fill]
  | (i, v) :: rest, cells => by
    simp only [List.map_cons, Instr.fill]
    cases place i with
    | none => rfl
    | some p =>
      obtain ⟨off, size⟩ := p
      simp only [cells_ren, Array.size_map]
      by_cases h : v.cells.size ≠ size || off + v.cells.size > cells.size
      · simp only [h, if_true]; rfl
      · simp only [h, if_false, Bool.false_eq_true]
        rw [← fill_ren σ place rest]
        congr 1
        rw [← Array.foldl_toList, ← Array.foldl_toList, Array.toList_zipIdx, Array.toList_zipIdx, Array.toList_map, List.zipIdx_map]
        generalize v.cells.toList.zipIdx = l
        clear h
        induction l generalizing cells with
        | nil => rfl
        | cons x l ih =>
          simp only [List.map_cons, List.foldl_cons]
          rw [← ih]
          congr 1
          simp

def xfill (P : Program) (t : TypeId) (parts : List (Nat × Value)) : Option Value := match xzero P t with
  | some z => match xunder P t with
    | some (.struct fields) => match xplaces P fields.toList with
      | some pl => (Instr.fill (fun i => pl[i]?) z.cells parts).map .agg
      | none => none
    | some (.array _ elem) => match xsize P elem with
      | some size => (Instr.fill (fun i => some (i * size, size)) z.cells parts).map .agg
      | none => none
    | _ => none
  | none => none

theorem cells_clo (σ : Sig) {z : Value} (h : clo z = true) : z.cells.map (ren σ) = z.cells := by
  rw [← cells_ren, ren_clo σ z h]

theorem is_build {P : Program} (σ : Sig) {t : TypeId} {parts : List (Nat × Value)} {v : Value} (h : xfill P t parts = some v) :
    Is P (Instr.build t (parts.map fun x => (x.1, ren σ x.2)).toArray) (ren σ v) := by
  unfold xfill at h
  cases hz : xzero P t with
  | none => simp [hz] at h
  | some z =>
    simp only [hz] at h
    obtain ⟨iz, hc⟩ := is_zero hz
    cases hu : xunder P t with
    | none => simp [hu] at h
    | some d =>
      simp only [hu] at h
      cases d with
      | struct fields =>
        simp only at h
        cases hp : xplaces P fields.toList with
        | none => simp [hp] at h
        | some pl =>
          simp only [hp] at h
          cases hf : Instr.fill (fun i => pl[i]?) z.cells parts with
          | none => simp [hf] at h
          | some cells =>
            simp only [hf, Option.map_some, Option.some.injEq] at h
            subst h
            have hf' := fill_ren σ (fun i => pl[i]?) parts z.cells
            rw [cells_clo σ hc, hf] at hf'
            unfold Instr.build
            refine iz.bind ((is_underlying hu).bind ?_)
            have hm : Is P (fields.mapM fun f => do pure (f.offset, ← sizeOf f.type)) pl.toArray := by
              intro w
              rw [Array.mapM_eq_mapM_toList, Sem.run_map, is_places _ _ hp w]; rfl
            simp only
            refine hm.bind ?_
            have he : (fun i : Nat => pl.toArray[i]?) = fun i => pl[i]? := by funext i; simp
            simp only [he, hf', Option.map_some]
            rw [show ren σ (.agg cells) = .agg (cells.map (ren σ)) by simp [ren, renArr_eq]]
            exact Is.pure _
      | array len elem =>
        simp only at h
        cases hs : xsize P elem with
        | none => simp [hs] at h
        | some size =>
          simp only [hs] at h
          cases hf : Instr.fill (fun i => some (i * size, size)) z.cells parts with
          | none => simp [hf] at h
          | some cells =>
            simp only [hf, Option.map_some, Option.some.injEq] at h
            subst h
            have hf' := fill_ren σ (fun i => some (i * size, size)) parts z.cells
            rw [cells_clo σ hc, hf] at hf'
            unfold Instr.build
            refine iz.bind ((is_underlying hu).bind ?_)
            simp only
            refine (is_sizeOf hs).bind ?_
            simp only [hf', Option.map_some]
            rw [show ren σ (.agg cells) = .agg (cells.map (ren σ)) by simp [ren, renArr_eq]]
            exact Is.pure _
      | _ => simp at h

end
end Go.Proofs.YtibeinbfhhoeiaaGreatDoor.Ab

namespace Go.Proofs.YtibeinbfhhoeiaaGreatDoor.Ab
open Go
noncomputable section

theorem ren_agg (σ : Sig) (cs : Array Value) : ren σ (.agg cs) = .agg (cs.map (ren σ)) := by simp [ren, renArr_eq]
theorem ren_tuple (σ : Sig) (cs : Array Value) : ren σ (.tuple cs) = .tuple (cs.map (ren σ)) := by simp [ren, renArr_eq]
theorem renAddr_add (σ : Sig) (a : Addr) (n : Nat) : renAddr σ (a.add n) = (renAddr σ a).add n := by
  unfold Addr.add renAddr
  by_cases h : n = 0
  · simp [h]
  · simp [h, Nat.add_assoc]

/- ## equality with nil -/
def xeqNil (d : TypeDesc) (xc : Bool) (x y : Value) : Option Bool :=
  match d, x, y with
  | .pointer _, .pointer none, .pointer none => some true
  | .pointer _, .pointer none, .pointer (some _) => some false
  | .pointer _, .pointer (some _), .pointer none => some false
  | .slice _, .slice none _ _, .slice none _ _ => some true
  | .slice _, .slice none _ _, .slice (some _) _ _ => some false
  | .slice _, .slice (some _) _ _, .slice none _ _ => some false
  | .map _ _, .map none, .map none => some true
  | .map _ _, .map none, .map (some _) => some false
  | .map _ _, .map (some _), .map none => some false
  | .func _ _ _, .nilFunc, .nilFunc => some true
  | .func _ _ _, .nilFunc, .func _ _ _ => some false
  | .func _ _ _, .func _ _ _, .nilFunc => some false
  | .interface _, .nilIface, .nilIface => match xc with
    | true => some true
    | false => none
  | .interface _, .nilIface, .iface _ _ => some false
  | .interface _, .iface _ _, .nilIface => some false
  | _, _, _ => none

def isConstB : Operand → Bool
  | .const _ => true
  | _ => false

theorem is_eqGuard_other {P : Program} {op : BinOp} {t : TypeId} {x y : Operand} {a b : Value} (h1 : op ≠ .eql) (h2 : op ≠ .neq) : Is P (eqGuard op t x y a b) () := by
  intro w
  cases op <;> first | exact absurd rfl h1 | exact absurd rfl h2 | rfl

theorem is_eqGuard_plain {P : Program} {op : BinOp} {t : TypeId} {x y : Operand} {a b : Value} (h1 : ¬ (a = .nilIface ∧ b = .nilIface)) (h2 : ∀ c d, ¬ (a = .agg c ∧ b = .agg d)) :
    Is P (eqGuard op t x y a b) () := by
  by_cases he : op = .eql ∨ op = .neq
  · intro w
    rcases he with rfl | rfl
    all_goals
      simp only [eqGuard, Bool.not_true, Bool.false_eq_true, if_false]
      split
      · exact absurd ⟨rfl, rfl⟩ h1
      · exact absurd ⟨rfl, rfl⟩ (h2 _ _)
      · rfl
  · exact is_eqGuard_other (fun e => he (.inl e)) (fun e => he (.inr e))

theorem is_eqGuard_nil {P : Program} {op : BinOp} {t : TypeId} {x y : Operand} (h : (isConstB x || isConstB y) = true) :
    Is P (eqGuard op t x y .nilIface .nilIface) () := by
  by_cases he : op = .eql ∨ op = .neq
  · intro w
    rw [Bool.or_eq_true] at h
    rcases he with rfl | rfl
    all_goals
      simp only [eqGuard, Bool.not_true, Bool.false_eq_true, if_false]
      rcases h with h | h
      · cases x <;> simp [isConstB] at h
        simp
      · cases y <;> simp [isConstB] at h
        simp
  · exact is_eqGuard_other (fun e => he (.inl e)) (fun e => he (.inr e))

theorem is_eqGuard {P : Program} (σ : Sig) {op : BinOp} {t : TypeId} {x y : Operand} {a b : Value} {d : TypeDesc} {r : Bool}
    (h : xeqNil d (isConstB x || isConstB y) a b = some r) : Is P (eqGuard op t x y (ren σ a) (ren σ b)) () := by
  unfold xeqNil at h
  split at h <;> (try simp only [Option.some.injEq, reduceCtorEq] at h) <;> first
    | (refine is_eqGuard_plain ?_ ?_ <;> simp [ren]; done)
    | (rename_i b'; cases b' <;> (refine is_eqGuard_plain ?_ ?_ <;> simp [ren]); done)
    | (split at h
       · rename_i hc; simp only [ren]; exact is_eqGuard_nil hc
       · simp at h)

theorem is_eqNil {P : Program} (σ : Sig) {t : TypeId} {a b : Value} {d : TypeDesc} {r xc : Bool} (hu : xunder P t = some d)
    (h : xeqNil d xc a b = some r) : Is P (Op.equal t (ren σ a) (ren σ b)) r := by
  unfold Op.equal
  rw [show Op.maxDepth = 9999 + 1 from rfl]
  unfold Op.equalIn
  refine (is_underlying hu).bind ?_
  intro w
  unfold xeqNil at h
  split at h <;> (try simp only [Option.some.injEq, reduceCtorEq] at h) <;> first
    | (subst h; simp [ren]; done)
    | (subst h; rename_i b' ; cases b' <;> simp [ren]; done)
    | (split at h
       · simp only [Option.some.injEq] at h; subst h; simp [ren]
       · simp at h)
    | skip

theorem binOp_eql (σ : Sig) {t : TypeId} {a b : Value} {d : TypeDesc} {r xc : Bool} (h : xeqNil d xc a b = some r) :
    binOp .eql t (ren σ a) (ren σ b) = (do return (.bool (← Op.equal t (ren σ a) (ren σ b)))) := by
  unfold xeqNil at h
  split at h <;> (try simp only [Option.some.injEq, reduceCtorEq] at h) <;> first
    | (simp only [ren, binOp]; done)
    | (rename_i b'; cases b' <;> simp only [ren, binOp]; done)
    | (split at h
       · simp only [ren, binOp]
       · simp at h)
theorem binOp_neq (σ : Sig) {t : TypeId} {a b : Value} {d : TypeDesc} {r xc : Bool} (h : xeqNil d xc a b = some r) :
    binOp .neq t (ren σ a) (ren σ b) = (do return (.bool (!(← Op.equal t (ren σ a) (ren σ b))))) := by
  unfold xeqNil at h
  split at h <;> (try simp only [Option.some.injEq, reduceCtorEq] at h) <;> first
    | (simp only [ren, binOp]; done)
    | (rename_i b'; cases b' <;> simp only [ren, binOp]; done)
    | (split at h
       · simp only [ren, binOp]
       · simp at h)

/- ## two operands -/
def xstr (op : BinOp) (a b : ByteArray) : Option Value :=
  match op with
  | .eql => some (.bool (a.data.toList == b.data.toList))
  | .neq => some (.bool (!(a.data.toList == b.data.toList)))
  | .add => match Nat.ble (a.size + b.size) 1099511627776 with
    | true => some (.string ⟨⟨a.data.toList ++ b.data.toList⟩⟩)
    | false => none
  | _ => none

theorem is_xstr {P : Program} {op : BinOp} {t : TypeId} {a b : ByteArray} {v : Value} (h : xstr op a b = some v) : Is P (binOp op t (.string a) (.string b)) v := by
  unfold xstr at h
  intro w
  split at h
  · simp only [Option.some.injEq] at h; subst h; simp [binOp, Op.stringOp, ByteArray.toList_eq]
  · simp only [Option.some.injEq] at h; subst h; simp [binOp, Op.stringOp, ByteArray.toList_eq]
  · split at h
    · rename_i hle
      simp only [Option.some.injEq] at h
      subst h
      have hle := Nat.le_of_ble_eq_true hle
      simp only [binOp]
      rw [run_string_add_sum (P := P) (w := w) (a := a) (b := b) (h := by omega)]
      have := ByteArray.mk_append_mk a.data.toList b.data.toList
      simp only [Array.toArray_toList] at this
      rw [show a ++ b = ByteArray.mk a.data ++ ByteArray.mk b.data from rfl, this]
    · simp at h
  · simp at h

def xbin2 (P : Program) (op : BinOp) (t : TypeId) (xo yo : Operand) (x y : Value) : Option Value :=
  match clo x && clo y with
  | true => match peel P (do eqGuard op t xo yo x y; binOp op t x y) with
    | some v => match clo v with
      | true => some v
      | false => none
    | none => none
  | false => match op, xunder P t with
    | .eql, some d => (xeqNil d (isConstB xo || isConstB yo) x y).map .bool
    | .neq, some d => (xeqNil d (isConstB xo || isConstB yo) x y).map fun r => .bool (!r)
    | _, _ => none

def xbin (P : Program) (op : BinOp) (t : TypeId) (xo yo : Operand) (x y : Value) : Option Value :=
  match x, y with
  | .string a, .string b => xstr op a b
  | _, _ => xbin2 P op t xo yo x y

theorem is_xbin2 {P : Program} (σ : Sig) {op : BinOp} {t : TypeId} {xo yo : Operand} {x y v : Value} (h : xbin2 P op t xo yo x y = some v) :
    Is P (do eqGuard op t xo yo (ren σ x) (ren σ y); binOp op t (ren σ x) (ren σ y)) (ren σ v) := by
  unfold xbin2 at h
  split at h
  · rename_i hc
    rw [Bool.and_eq_true] at hc
    rw [ren_clo σ x hc.1, ren_clo σ y hc.2]
    split at h
    · rename_i v' hv
      split at h
      · rename_i hcv
        simp only [Option.some.injEq] at h
        subst h
        rw [ren_clo σ _ hcv]
        exact Is.peel hv
      · simp at h
    · simp at h
  · split at h
    · rename_i d hu
      cases he : xeqNil d (isConstB xo || isConstB yo) x y with
      | none => simp [he] at h
      | some r =>
        simp only [he, Option.map_some, Option.some.injEq] at h
        subst h
        refine (is_eqGuard σ he).bind ?_
        rw [binOp_eql σ he]
        exact (is_eqNil σ hu he).bind (Is.pure _)
    · rename_i d hu
      cases he : xeqNil d (isConstB xo || isConstB yo) x y with
      | none => simp [he] at h
      | some r =>
        simp only [he, Option.map_some, Option.some.injEq] at h
        subst h
        refine (is_eqGuard σ he).bind ?_
        rw [binOp_neq σ he]
        exact (is_eqNil σ hu he).bind (Is.pure _)
    · simp at h

theorem clo_xstr {op : BinOp} {a b : ByteArray} {v : Value} (h : xstr op a b = some v) : clo v = true := by
  unfold xstr at h
  split at h <;> (try split at h) <;> simp at h <;> subst h <;> rfl

theorem is_xbin {P : Program} (σ : Sig) {op : BinOp} {t : TypeId} {xo yo : Operand} {x y v : Value} (h : xbin P op t xo yo x y = some v) :
    Is P (do eqGuard op t xo yo (ren σ x) (ren σ y); binOp op t (ren σ x) (ren σ y)) (ren σ v) := by
  unfold xbin at h
  split at h
  · rename_i a b
    rw [ren_clo σ v (clo_xstr h)]
    simp only [ren]
    exact Is.bind (is_eqGuard_plain (by simp) (by simp)) (is_xstr h)
  · exact is_xbin2 σ h

end
end Go.Proofs.YtibeinbfhhoeiaaGreatDoor.Ab

namespace Go.Proofs.YtibeinbfhhoeiaaGreatDoor.Ab
open Go
noncomputable section

/- ## parts -/
def xpart (P : Program) (t : TypeId) (cs : Array Value) (off : Nat) : Option Value := match xagg P t with
  | some true => match xsize P t with
    | some n => some (.agg (cs.extract off (off + n)))
    | none => none
  | some false => cs[off]?
  | none => none

theorem is_part {P : Program} (σ : Sig) {t : TypeId} {cs : Array Value} {off : Nat} {v : Value} (h : xpart P t cs off = some v) :
    Is P (part t (cs.map (ren σ)) off) (ren σ v) := by
  unfold xpart at h
  unfold part
  split at h
  · rename_i ha
    split at h
    · rename_i n hn
      simp only [Option.some.injEq] at h
      subst h
      refine (is_isAgg ha).bind ?_
      simp only [if_true]
      refine (is_sizeOf hn).bind ?_
      rw [ren_agg, ← Array.map_extract]
      exact Is.pure _
    · simp at h
  · rename_i ha
    refine (is_isAgg ha).bind ?_
    simp only [Bool.false_eq_true, if_false, Array.getElem?_map, h, Option.map_some]
    exact Is.pure _
  · simp at h

def xfield (P : Program) (t : TypeId) (x : Value) (i : Nat) : Option Value := match xunder P t, x with
  | some (.struct fs), .agg cs => match fs[i]? with
    | some f => xpart P f.type cs f.offset
    | none => none
  | _, _ => none

theorem is_field {P : Program} (σ : Sig) {t : TypeId} {x : Value} {i : Nat} {v : Value} (h : xfield P t x i = some v) :
    Is P (Instr.field t (ren σ x) i) (ren σ v) := by
  unfold xfield at h
  split at h
  · rename_i fs cs hu
    split at h
    · rename_i f hf
      unfold Instr.field
      refine (is_underlying hu).bind ?_
      simp only [hf, ren_agg]
      exact is_part σ h
    · simp at h
  · simp at h

def xfieldAddr (P : Program) (t : TypeId) (x : Value) (i : Nat) : Option Value := match xunder P t, x with
  | some (.struct fs), .pointer (some a) => match fs[i]? with
    | some f => match xsize P f.type with
      | some 0 => none
      | some _ => some (.pointer (some (a.add f.offset)))
      | none => none
    | none => none
  | _, _ => none

theorem is_fieldAddr {P : Program} (σ : Sig) {t : TypeId} {x : Value} {i : Nat} {v : Value} (h : xfieldAddr P t x i = some v) :
    Is P (Instr.fieldAt t (ren σ x) i) (ren σ v) := by
  unfold xfieldAddr at h
  split at h
  · rename_i fs a hu
    split at h
    · rename_i f hf
      split at h
      · simp at h
      · rename_i n hn0 hn
        simp only [Option.some.injEq] at h
        subst h
        unfold Instr.fieldAt
        refine (is_underlying hu).bind ?_
        simp only [hf, ren]
        refine Is.bind (a := renAddr σ a) (Is.pure _) ?_
        refine Is.bind (a := (renAddr σ a).add f.offset) ?_ ?_
        · unfold fieldPlace
          refine (is_sizeOf hn).bind ?_
          rw [if_neg (by intro e; exact hn0 (by rw [e]))]
          exact Is.pure _
        · rw [renAddr_add]; exact Is.pure _
      · simp at h
    · simp at h
  · simp at h

def xidx (i : Int) (len : Nat) : Option Nat := match decide (0 ≤ i) && decide (i < (len : Int)) with
  | true => some i.toNat
  | false => none

theorem xidx_spec {i : Int} {len n : Nat} (h : xidx i len = some n) : 0 ≤ i ∧ i < (len : Int) ∧ n = i.toNat := by
  unfold xidx at h
  split at h
  · rename_i hc
    simp only [Bool.and_eq_true, decide_eq_true_eq] at hc
    simp only [Option.some.injEq] at h
    exact ⟨hc.1, hc.2, h.symm⟩
  · simp at h

def xindexAddr (P : Program) (t : TypeId) (x ix : Value) : Option Value := match xunder P t, x, ix with
  | some (.slice elem), .slice (some a) len _, .int _ i => match xidx i len, xsize P elem with
    | some n, some size => some (.pointer (some (a.add (n * size))))
    | _, _ => none
  | some (.array len elem), .pointer (some a), .int _ i => match xidx i len, xsize P elem with
    | some n, some size => some (.pointer (some (a.add (n * size))))
    | _, _ => none
  | _, _, _ => none

theorem is_indexAddr {P : Program} (σ : Sig) {t : TypeId} {x ix : Value} {v : Value} (h : xindexAddr P t x ix = some v) :
    Is P (Instr.indexAt t (ren σ x) (ren σ ix)) (ren σ v) := by
  unfold xindexAddr at h
  split at h
  · rename_i elem a len c k i hu
    split at h
    · rename_i n size hn hs
      simp only [Option.some.injEq] at h
      subst h
      obtain ⟨h0, h1, rfl⟩ := xidx_spec hn
      unfold Instr.indexAt
      simp only [ren]
      refine Is.bind (a := (k, i)) (Is.pure _) ?_
      refine (is_underlying hu).bind ?_
      intro w
      simp [is_underlying hu _, is_sizeOf hs _, h0, h1, renAddr_add]
    · simp at h
  · rename_i len elem a k i hu
    split at h
    · rename_i n size hn hs
      simp only [Option.some.injEq] at h
      subst h
      obtain ⟨h0, h1, rfl⟩ := xidx_spec hn
      unfold Instr.indexAt
      simp only [ren]
      refine Is.bind (a := (k, i)) (Is.pure _) ?_
      refine (is_underlying hu).bind ?_
      intro w
      simp [is_underlying hu _, is_sizeOf hs _, h0, h1, renAddr_add, Instr.sureAddr]
    · simp at h
  · simp at h

def xindex (P : Program) (t : TypeId) (x ix : Value) : Option Value := match xunder P t, x, ix with
  | some (.array len elem), .agg cs, .int _ i => match xidx i len, xsize P elem with
    | some n, some size => xpart P elem cs (n * size)
    | _, _ => none
  | some .string, .string s, .int _ i => match xidx i s.size with
    | some n => match s.data[n]? with
      | some b => some (.int .u8 b.toNat)
      | none => none
    | none => none
  | _, _, _ => none

theorem getElem?_bytes (s : ByteArray) (n : Nat) : s[n]? = s.data[n]? := by
  by_cases h : n < s.size
  · rw [ByteArray.getElem?_lt' s n h, Array.getElem?_eq_getElem (show n < s.data.size from h)]; rfl
  · rw [ByteArray.getElem?_ge' s n h, Array.getElem?_eq_none (show s.data.size ≤ n from Nat.le_of_not_lt h)]

theorem is_index {P : Program} (σ : Sig) {t : TypeId} {x ix : Value} {v : Value} (h : xindex P t x ix = some v) :
    Is P (Instr.index t (ren σ x) (ren σ ix)) (ren σ v) := by
  unfold xindex at h
  split at h
  · rename_i len elem cs k i hu
    split at h
    · rename_i n size hn hs
      obtain ⟨h0, h1, rfl⟩ := xidx_spec hn
      unfold Instr.index
      simp only [ren_agg]
      refine Is.bind (a := (k, i)) (by simp only [ren]; exact Is.pure _) ?_
      refine (is_underlying hu).bind ?_
      simp only [h0, h1, and_self, if_true]
      refine (is_sizeOf hs).bind ?_
      exact is_part σ h
    · simp at h
  · rename_i s k i hu
    split at h
    · rename_i n hn
      obtain ⟨h0, h1, rfl⟩ := xidx_spec hn
      split at h
      · rename_i b hb
        simp only [Option.some.injEq] at h
        subst h
        unfold Instr.index
        simp only [ren]
        refine Is.bind (a := (k, i)) (Is.pure _) ?_
        refine (is_underlying hu).bind ?_
        simp only [h0, if_true, getElem?_bytes, hb]
        exact Is.pure _
      · simp at h
    · simp at h
  · simp at h

def xtypeAssert (P : Program) (x : Value) (asserted : TypeId) (ok : Bool) : Option Value := match xunder P asserted with
  | none => none
  | some (.interface _) => none
  | some _ => match x with
    | .iface t v => match Nat.beq t asserted, ok with
      | true, true => some (.tuple #[v, .bool true])
      | true, false => some v
      | false, true => (xzero P asserted).map fun z => .tuple #[z, .bool false]
      | false, false => none
    | .nilIface => match ok with
      | true => (xzero P asserted).map fun z => .tuple #[z, .bool false]
      | false => none
    | _ => none

theorem is_typeAssert {P : Program} (σ : Sig) {x : Value} {xt asserted : TypeId} {ok : Bool} {v : Value} (h : xtypeAssert P x asserted ok = some v) :
    Is P (Instr.typeAssert (ren σ x) xt asserted ok) (ren σ v) := by
  unfold xtypeAssert at h
  split at h
  · simp at h
  · simp at h
  · rename_i d hni hu
    split at h
    · rename_i t u
      split at h
      · rename_i e
        have e := Nat.eq_of_beq_eq_true e
        subst e
        simp only [Option.some.injEq] at h
        subst h
        unfold Instr.typeAssert
        refine (is_underlying hu).bind ?_
        intro w
        simp only [ren]
        cases d <;> first | exact absurd rfl (hni _) | (simp [ren, renArr_eq])
      · rename_i e
        have e := Nat.eq_of_beq_eq_true e
        subst e
        simp only [Option.some.injEq] at h
        subst h
        unfold Instr.typeAssert
        refine (is_underlying hu).bind ?_
        intro w
        simp only [ren]
        cases d <;> first | exact absurd rfl (hni _) | simp
      · rename_i e
        have e : t ≠ asserted := fun he => by subst he; simp at e
        cases hz : xzero P asserted with
        | none => simp [hz] at h
        | some z =>
          simp only [hz, Option.map_some, Option.some.injEq] at h
          subst h
          obtain ⟨iz, hc⟩ := is_zero hz
          unfold Instr.typeAssert
          refine (is_underlying hu).bind ?_
          intro w
          simp only [ren]
          cases d <;> first | exact absurd rfl (hni _) | (simp [e, iz _, ren, renArr_eq, ren_clo σ z hc])
      · simp at h
    · split at h
      · cases hz : xzero P asserted with
        | none => simp [hz] at h
        | some z =>
          simp only [hz, Option.map_some, Option.some.injEq] at h
          subst h
          obtain ⟨iz, hc⟩ := is_zero hz
          unfold Instr.typeAssert
          refine (is_underlying hu).bind ?_
          intro w
          simp only [ren]
          cases d <;> first | exact absurd rfl (hni _) | (simp [iz _, ren, renArr_eq, ren_clo σ z hc])
      · simp at h
    · simp at h

def xextract (x : Value) (i : Nat) : Option Value := match x with
  | .tuple vs => vs[i]?
  | _ => none

theorem is_extract {P : Program} (σ : Sig) {x : Value} {i : Nat} {v : Value} (h : xextract x i = some v) : Is P (Instr.extract (ren σ x) i) (ren σ v) := by
  unfold xextract at h
  split at h
  · unfold Instr.extract
    simp only [ren_tuple, Array.getElem?_map, h, Option.map_some]
    exact Is.pure _
  · simp at h

def xclosed (P : Program) (m : Sem Value) : Option Value := match peel P m with
  | some v => match clo v with
    | true => some v
    | false => none
  | none => none

theorem is_xclosed {P : Program} (σ : Sig) {m : Sem Value} {v : Value} (h : xclosed P m = some v) : Is P m (ren σ v) := by
  unfold xclosed at h
  split at h
  · rename_i u hu
    split at h
    · rename_i hc
      simp only [Option.some.injEq] at h
      subst h
      rw [ren_clo σ _ hc]
      exact Is.peel hu
    · simp at h
  · simp at h

def xiface (P : Program) (t : TypeId) (x : Value) : Option Value := match xunder P t with
  | none => none
  | some (.interface _) => none
  | some _ => some (.iface t x)

theorem is_iface {P : Program} (σ : Sig) {t : TypeId} {x v : Value} (h : xiface P t x = some v) : Is P (Instr.makeInterface t (ren σ x)) (ren σ v) := by
  unfold xiface at h
  split at h
  · simp at h
  · simp at h
  · rename_i d hni hu
    simp only [Option.some.injEq] at h
    subst h
    unfold Instr.makeInterface
    refine (is_underlying hu).bind ?_
    cases d <;> first | exact absurd rfl (hni _) | (simp only [ren]; exact Is.pure _)

def xlen (P : Program) (t : TypeId) (x : Value) : Option Value := match xunder P t, x with
  | some .string, .string s => some (.int .i64 s.size)
  | some (.array n _), _ => some (.int .i64 n)
  | some (.slice _), .slice _ n _ => some (.int .i64 n)
  | some (.pointer arr), _ => match xunder P arr with
    | some (.array n _) => some (.int .i64 n)
    | _ => none
  | _, _ => none

theorem is_len {P : Program} (σ : Sig) {t ty : TypeId} {ats : Array TypeId} {x v : Value} (ha : ats[0]? = some t) (h : xlen P t x = some v) :
    Is P (Builtin.len_ ats ty #[ren σ x]) (ren σ v) := by
  intro w
  unfold xlen at h
  unfold Builtin.len_
  split at h
  · rename_i s hu
    simp only [Option.some.injEq] at h; subst h
    simp [ha, is_underlying hu _, ren, goInt]
  · rename_i n e hu
    simp only [Option.some.injEq] at h; subst h
    simp [ha, is_underlying hu _, ren, goInt]
  · rename_i e a n c hu
    simp only [Option.some.injEq] at h; subst h
    cases a <;> simp [ha, is_underlying hu _, ren, goInt]
  · rename_i arr hu
    split at h
    · rename_i n e hu2
      simp only [Option.some.injEq] at h; subst h
      simp [ha, is_underlying hu _, is_underlying hu2 _, ren, goInt]
    · simp at h
  · simp at h

/- ## all of them -/
def xlist (ρ : Operand → Option Value) : List Operand → Option (List Value)
  | [] => some []
  | x :: l => match ρ x with
    | some v => match xlist ρ l with
      | some vs => some (v :: vs)
      | none => none
    | none => none

def xparts (ρ : Operand → Option Value) : List (Nat × Operand) → Option (List (Nat × Value))
  | [] => some []
  | (i, x) :: l => match ρ x with
    | some v => match xparts ρ l with
      | some vs => some ((i, v) :: vs)
      | none => none
    | none => none

theorem xlist_ren {ρ : Operand → Option Value} {ρr : Operand → Value} {σ : Sig} (hρ : ∀ x y, ρ x = some y → ρr x = ren σ y) :
    ∀ (l : List Operand) (vs : List Value), xlist ρ l = some vs → l.map ρr = vs.map (ren σ) := by
  intro l
  induction l with
  | nil => intro vs h; simp only [xlist, Option.some.injEq] at h; subst h; rfl
  | cons x l ih =>
    intro vs h
    simp only [xlist] at h
    split at h
    · rename_i v hv
      split at h
      · rename_i vs' hvs
        simp only [Option.some.injEq] at h
        subst h
        simp [hρ _ _ hv, ih _ hvs]
      · simp at h
    · simp at h

theorem xparts_ren {ρ : Operand → Option Value} {ρr : Operand → Value} {σ : Sig} (hρ : ∀ x y, ρ x = some y → ρr x = ren σ y) :
    ∀ (l : List (Nat × Operand)) (vs : List (Nat × Value)), xparts ρ l = some vs → l.map (fun p => (p.1, ρr p.2)) = vs.map fun p => (p.1, ren σ p.2) := by
  intro l
  induction l with
  | nil => intro vs h; simp only [xparts, Option.some.injEq] at h; subst h; rfl
  | cons x l ih =>
    obtain ⟨i, x⟩ := x
    intro vs h
    simp only [xparts] at h
    split at h
    · rename_i v hv
      split at h
      · rename_i vs' hvs
        simp only [Option.some.injEq] at h
        subst h
        simp [hρ _ _ hv, ih _ hvs]
      · simp at h
    · simp at h

def xbuiltin (P : Program) (b : Builtin) (ats : Array TypeId) (ty : TypeId) (args : List Value) : Option Value :=
  match b, args with
  | .len, [x] => match ats[0]? with
    | some t => xlen P t x
    | none => none
  | .min, l => match cloL l with
    | true => xclosed P (Builtin.min_ ats ty ⟨l⟩)
    | false => none
  | .max, l => match cloL l with
    | true => xclosed P (Builtin.max_ ats ty ⟨l⟩)
    | false => none
  | _, _ => none

def xpPick (ρ : Operand → Option Value) (c a b : Operand) : Option Value := match ρ c with
  | some (.bool true) => ρ a
  | some (.bool false) => ρ b
  | _ => none
def xpBuild (P : Program) (ρ : Operand → Option Value) (t : TypeId) (parts : Array (Nat × Operand)) : Option Value := match xparts ρ parts.toList with
  | some l => xfill P t l
  | none => none
def xpNil (ρ : Operand → Option Value) (x : Operand) : Option Value := match ρ x with
  | some (.pointer (some a)) => some (.pointer (some a))
  | _ => none
def xpBin (P : Program) (ρ : Operand → Option Value) (op : BinOp) (t : TypeId) (x y : Operand) : Option Value := match ρ x, ρ y with
  | some a, some b => xbin P op t x y a b
  | _, _ => none
def xpUn (P : Program) (ρ : Operand → Option Value) (op : UnOp) (x : Operand) : Option Value := match ρ x with
  | some a => match clo a with
    | true => xclosed P (Op.unary op a)
    | false => none
  | none => none
def xpConv (P : Program) (ρ : Operand → Option Value) (s d : TypeId) (x : Operand) : Option Value := match ρ x with
  | some a => match clo a with
    | true => xclosed P (convert s d a)
    | false => none
  | none => none
def xpIface (P : Program) (ρ : Operand → Option Value) (t : TypeId) (x : Operand) : Option Value := match ρ x with
  | some a => xiface P t a
  | none => none
def xpFunc (ρ : Operand → Option Value) (fn : Fn) (first captured : Array Operand) : Option Value := match xlist ρ first.toList, xlist ρ captured.toList with
  | some a, some b => some (.func fn ⟨a⟩ ⟨b⟩)
  | _, _ => none
def xpFieldAddr (P : Program) (ρ : Operand → Option Value) (t : TypeId) (x : Operand) (i : Nat) : Option Value := match ρ x with
  | some a => xfieldAddr P t a i
  | none => none
def xpField (P : Program) (ρ : Operand → Option Value) (t : TypeId) (x : Operand) (i : Nat) : Option Value := match ρ x with
  | some a => xfield P t a i
  | none => none
def xpIndexAddr (P : Program) (ρ : Operand → Option Value) (t : TypeId) (x ix : Operand) : Option Value := match ρ x, ρ ix with
  | some a, some b => xindexAddr P t a b
  | _, _ => none
def xpIndex (P : Program) (ρ : Operand → Option Value) (t : TypeId) (x ix : Operand) : Option Value := match ρ x, ρ ix with
  | some a, some b => xindex P t a b
  | _, _ => none
def xpAssert (P : Program) (ρ : Operand → Option Value) (x : Operand) (asserted : TypeId) (ok : Bool) : Option Value := match ρ x with
  | some a => xtypeAssert P a asserted ok
  | none => none
def xpExtract (ρ : Operand → Option Value) (x : Operand) (i : Nat) : Option Value := match ρ x with
  | some a => xextract a i
  | none => none
def xpCall (P : Program) (ρ : Operand → Option Value) (c : Call) (ty : TypeId) : Option Value := match c.callee with
  | .builtin b => match xlist ρ c.args.toList with
    | some l => xbuiltin P b c.argTypes ty l
    | none => none
  | _ => none

def xpure (P : Program) (ρ : Operand → Option Value) (o : Oper) : Option Value :=
  match o.op with
  | .move x => ρ x
  | .assign x => ρ x
  | .pick c a b => xpPick ρ c a b
  | .build t parts => xpBuild P ρ t parts
  | .nilCheck x => xpNil ρ x
  | .binOp op t x y _ => xpBin P ρ op t x y
  | .unOp op _ x => xpUn P ρ op x
  | .convert s d x => xpConv P ρ s d x
  | .makeInterface t x => xpIface P ρ t x
  | .makeFunc fn first captured => xpFunc ρ fn first captured
  | .fieldAddr t x i => xpFieldAddr P ρ t x i
  | .field t x i => xpField P ρ t x i
  | .indexAddr t x ix => xpIndexAddr P ρ t x ix
  | .index t x ix => xpIndex P ρ t x ix
  | .typeAssert x _ asserted ok => xpAssert P ρ x asserted ok
  | .extract x i => xpExtract ρ x i
  | .call c => xpCall P ρ c o.type
  | _ => none

theorem is_value {P : Program} {m : Sem Value} {v : Value} (h : Is P m v) : Is P (do pure (Next.value (← m))) (.value v) := h.bind (Is.pure _)

theorem is_builtin {P : Program} (σ : Sig) {b : Builtin} {ats : Array TypeId} {ty : TypeId} {cs : Array Bool} {l : List Value} {v : Value}
    (h : xbuiltin P b ats ty l = some v) : Is P (builtin b ats ty cs ⟨l.map (ren σ)⟩) (.value (ren σ v)) := by
  unfold xbuiltin at h
  split at h
  · rename_i x
    split at h
    · rename_i t ht
      exact is_value (is_len σ ht h)
    · simp at h
  · split at h
    · rename_i hc
      have : l.map (ren σ) = l := by rw [← renL_eq, renL_clo σ l hc]
      rw [this]
      exact is_value (is_xclosed σ h)
    · simp at h
  · split at h
    · rename_i hc
      have : l.map (ren σ) = l := by rw [← renL_eq, renL_clo σ l hc]
      rw [this]
      exact is_value (is_xclosed σ h)
    · simp at h
  · simp at h

theorem is_pure {P : Program} {ρ : Operand → Option Value} {ρr : Operand → Value} {σ : Sig} {o : Oper} {v : Value}
    (hρ : ∀ x y, ρ x = some y → ρr x = ren σ y) (h : xpure P ρ o = some v) : Is P (execOp ρr o) (.value (ren σ v)) := by
  unfold xpure at h
  unfold execOp
  split at h
  · rename_i x he; simp only [he, hρ _ _ h]; exact Is.pure _
  · rename_i x he; simp only [he, hρ _ _ h]; exact Is.pure _
  · rename_i c a b he
    simp only [he]
    unfold xpPick at h
    split at h
    · rename_i hc
      rw [hρ _ _ hc, hρ _ _ h]
      exact Is.bind (a := true) (by simp only [ren]; exact Is.pure _) (Is.pure _)
    · rename_i hc
      rw [hρ _ _ hc, hρ _ _ h]
      exact Is.bind (a := false) (by simp only [ren]; exact Is.pure _) (Is.pure _)
    · simp at h
  · rename_i t parts he
    simp only [he]
    unfold xpBuild at h
    split at h
    · rename_i l hl
      have := xparts_ren hρ _ _ hl
      have e : parts.map (fun x => (x.1, ρr x.2)) = (l.map fun p => (p.1, ren σ p.2)).toArray := by
        rw [← this, ← Array.toList_map]
      have e2 : (parts.map fun (i, x) => (i, ρr x)) = (l.map fun p => (p.1, ren σ p.2)).toArray := e
      rw [e2]
      exact is_value (is_build σ h)
    · simp at h
  · rename_i x he
    simp only [he]
    unfold xpNil at h
    split at h
    · rename_i a ha
      simp only [Option.some.injEq] at h
      subst h
      rw [hρ _ _ ha]
      simp only [ren]
      exact Is.pure _
    · simp at h
  · rename_i op t x y yt he
    simp only [he]
    unfold xpBin at h
    split at h
    · rename_i a b ha hb
      rw [hρ _ _ ha, hρ _ _ hb]
      exact is_value (is_xbin σ h)
    · simp at h
  · rename_i op t x he
    simp only [he]
    unfold xpUn at h
    split at h
    · rename_i a ha
      split at h
      · rename_i hc
        rw [hρ _ _ ha, ren_clo σ _ hc]
        exact is_value (is_xclosed σ h)
      · simp at h
    · simp at h
  · rename_i s d x he
    simp only [he]
    unfold xpConv at h
    split at h
    · rename_i a ha
      split at h
      · rename_i hc
        rw [hρ _ _ ha, ren_clo σ _ hc]
        exact is_value (is_xclosed σ h)
      · simp at h
    · simp at h
  · rename_i t x he
    simp only [he]
    unfold xpIface at h
    split at h
    · rename_i a ha
      rw [hρ _ _ ha]
      exact is_value (is_iface σ h)
    · simp at h
  · rename_i fn first captured he
    simp only [he]
    unfold xpFunc at h
    split at h
    · rename_i a b ha hb
      simp only [Option.some.injEq] at h
      subst h
      have e1 : first.map ρr = ⟨a.map (ren σ)⟩ := by rw [← xlist_ren hρ _ _ ha, ← Array.toList_map]
      have e2 : captured.map ρr = ⟨b.map (ren σ)⟩ := by rw [← xlist_ren hρ _ _ hb, ← Array.toList_map]
      rw [e1, e2]
      simp only [ren, renArr, renL_eq]
      exact is_value (Is.pure _)
    · simp at h
  · rename_i t x i he
    simp only [he]
    unfold xpFieldAddr at h
    split at h
    · rename_i a ha
      rw [hρ _ _ ha]
      exact is_value (is_fieldAddr σ h)
    · simp at h
  · rename_i t x i he
    simp only [he]
    unfold xpField at h
    split at h
    · rename_i a ha
      rw [hρ _ _ ha]
      exact is_value (is_field σ h)
    · simp at h
  · rename_i t x ix he
    simp only [he]
    unfold xpIndexAddr at h
    split at h
    · rename_i a b ha hb
      rw [hρ _ _ ha, hρ _ _ hb]
      exact is_value (is_indexAddr σ h)
    · simp at h
  · rename_i t x ix he
    simp only [he]
    unfold xpIndex at h
    split at h
    · rename_i a b ha hb
      rw [hρ _ _ ha, hρ _ _ hb]
      exact is_value (is_index σ h)
    · simp at h
  · rename_i x xt asserted ok he
    simp only [he]
    unfold xpAssert at h
    split at h
    · rename_i a ha
      rw [hρ _ _ ha]
      exact is_value (is_typeAssert σ h)
    · simp at h
  · rename_i x i he
    simp only [he]
    unfold xpExtract at h
    split at h
    · rename_i a ha
      rw [hρ _ _ ha]
      exact is_value (is_extract σ h)
    · simp at h
  · rename_i c he
    simp only [he]
    unfold xpCall at h
    split at h
    · rename_i b hcal
      split at h
      · rename_i l hl
        have e : c.args.map ρr = ⟨l.map (ren σ)⟩ := by rw [← xlist_ren hρ _ _ hl, ← Array.toList_map]
        simp only [resolve, hcal, e]
        exact Is.bind (Is.pure _) (is_builtin σ h)
      · simp at h
    · simp at h
  · simp at h

end
end Go.Proofs.YtibeinbfhhoeiaaGreatDoor.Ab
